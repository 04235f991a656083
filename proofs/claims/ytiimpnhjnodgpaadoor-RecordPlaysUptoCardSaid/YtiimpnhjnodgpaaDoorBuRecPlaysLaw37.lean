/- hornbookref06: the document's reader walked: From, Next. · A list of things as one thing: taking one out, putting it back, one more behind. -/
import Derived.Test.YtiimpnhjnodgpaaDoorBuRecPlaysLaw27
import Derived.Test.YtiimpnhjnodgpaaDoorBuRecPlaysLaw19
import Derived.Test.YtiimpnhjnodgpaaDoorBuRecPlaysLaw21
set_option linter.unusedSimpArgs false
set_option linter.unusedVariables false
namespace Go.Proofs.YtiimpnhjnodgpaaDoor
open Go.RowKit

abbrev tRr : TypeId := 143
abbrev rrCells (v : Value) (i aft : Nat) : Array Value := #[v, .int .i64 i, .int .i64 aft]
/-- The document's reader: the records l, the first i told, aft behind them. -/
def RrT (k : Nat) (v : Value) (l : List (List UInt8)) (i aft : Nat) : Thing := Both (CellT k (rrCells v i aft) tRr) (RowG 9 1 v l.length (strs l))
theorem RrT.stable (k : Nat) (v : Value) (l : List (List UInt8)) (i aft : Nat) : Stable (RrT k v l i aft) := (CellT.stable _ _ _).both (RowG.stable _ _ _ _ _)
theorem readT_len6 {S : St} {z a n : Int} : (readT S z a n).length ≤ n.toNat := by
  unfold readT
  split
  · simp
  · split
    · simp
    · split
      · simp
      · simp only [List.length_take]; omega
section
variable {W w : World} {R : Thing} {rb k : Nat} {S : St}
theorem Both.assocL {A B C : Thing} {w : World} {fp : List Nat} (h : Both A (Both B C) w fp) : Both (Both A B) C w fp := by
  obtain ⟨f, g, h1, ⟨p, q, h5, h6, h7, h8⟩, h3, h4⟩ := h
  refine ⟨f ++ p, q, ⟨f, p, h1, h5, fun k hk hk' => h3 k hk ((h8 k).2 (.inl hk')), fun k => List.mem_append⟩, h6, fun k hk hk' => ?_, fun k => ?_⟩
  · rcases List.mem_append.1 hk with h9 | h9
    · exact h3 k h9 ((h8 k).2 (.inr hk'))
    · exact h7 k h9 hk'
  · rw [h4 k, h8 k, List.mem_append]
    constructor
    · rintro (h | h | h)
      · exact .inl (.inl h)
      · exact .inl (.inr h)
      · exact .inr h
    · rintro ((h | h) | h)
      · exact .inl h
      · exact .inr (.inl h)
      · exact .inr (.inr h)
theorem Both.assocR {A B C : Thing} {w : World} {fp : List Nat} (h : Both (Both A B) C w fp) : Both A (Both B C) w fp := by
  obtain ⟨f, g, ⟨p, q, h5, h6, h7, h8⟩, h2, h3, h4⟩ := h
  refine ⟨p, q ++ g, h5, ⟨q, g, h6, h2, fun k hk hk' => h3 k ((h8 k).2 (.inr hk)) hk', fun k => List.mem_append⟩, fun k hk hk' => ?_, fun k => ?_⟩
  · rcases List.mem_append.1 hk' with h9 | h9
    · exact h7 k hk h9
    · exact h3 k ((h8 k).2 (.inl hk)) h9
  · rw [h4 k, h8 k, List.mem_append]
    constructor
    · rintro ((h | h) | h)
      · exact .inl h
      · exact .inr (.inl h)
      · exact .inr (.inr h)
    · rintro (h | h | h)
      · exact .inl (.inl h)
      · exact .inl (.inr h)
      · exact .inr h
set_option maxRecDepth 100000 in
set_option maxHeartbeats 3200000 in
theorem rFrom_limits (h : At W w (Both (RefT rb S) R)) {z n : Int} (hn : n < 1 ∨ 4096 < n) :
    Calls Tryd.prog 35 #[.pointer (some ⟨rb, 0, none⟩), .int .i64 z, .int .i64 n] w fun e w' => e = .returned (.tuple #[.pointer none, .int .i64 2]) ∧ At W w' (Both (RefT rb S) R) := by
  have H := Lib.hid h
  clear h
  by_cases h1 : n < 1
  · clear hn
    go_enter Tryd.func35, Tryd.ntmps35
    (repeat' (first | (go_big_may; fail) | go_values | go_skip | go_guarded | go_step | go_upon | go_back | dsimp only))
    go_ret2
    exact ⟨rfl, H.out⟩
  · have h2 : 4096 < n := by omega
    clear hn
    go_enter Tryd.func35, Tryd.ntmps35
    (repeat' (first | (go_big_may; fail) | go_values | go_skip | go_guarded | go_step | go_upon | go_back | dsimp only))
    go_ret2
    exact ⟨rfl, H.out⟩
set_option maxRecDepth 100000 in
set_option maxHeartbeats 3200000 in
theorem rFrom_fail (h : At W w (Both (RefT rb S) R)) (hG : GoodS S) {z : Int} (hz : inI64 z) {n : Nat} (hn : 1 ≤ n ∧ n ≤ 4096) (hc : readC S z 0 0 ≠ 0) :
    Calls Tryd.prog 35 #[.pointer (some ⟨rb, 0, none⟩), .int .i64 z, .int .i64 n] w fun e w' => e = .returned (.tuple #[.pointer none, .int .i64 (readC S z 0 0)]) ∧ At W w' (Both (RefT rb S) R) := by
  have H := Lib.hid h
  have hrd := rRead_at h hG hz (a := 0) (n := 0) (by unfold inI64; omega) (by unfold inI64; omega)
  have h1 : ¬ (n : Int) < 1 := by omega
  have h2 : ¬ 4096 < (n : Int) := by omega
  generalize readC S z 0 0 = c at *
  have hcz : ((c : Int) == 0) = false := beq_eq_false_iff_ne.2 (by omega)
  have HRD := Lib.hid hrd
  clear h hG hn hc hrd
  go_enter Tryd.func35, Tryd.ntmps35
  (repeat' (first | (go_big_may; fail) | go_values | go_skip | go_guarded | go_step | go_upon | go_back | dsimp only))
  refine HRD.out.mono ?_
  rintro e w1 ⟨rfl, rfl⟩
  (repeat' (first | (go_big_may; fail) | go_values | go_skip | go_guarded | go_step | go_upon | go_back | dsimp only))
  go_ret2
  exact ⟨rfl, H.out⟩
set_option maxRecDepth 100000 in
set_option maxHeartbeats 3200000 in
theorem rFrom_ok (h : At W w (Both (RefT rb S) R)) (hR : Stable R) (hG : GoodS S) {z : Int} (hz : inI64 z) {n : Nat} (hn : 1 ≤ n ∧ n ≤ 4096) (hc : readC S z 0 0 = 0) (hl : sizeN S z ≤ 67108864) {T : List UInt8} (hT : readT S z 0 (sizeN S z) = T) :
    Calls Tryd.prog 35 #[.pointer (some ⟨rb, 0, none⟩), .int .i64 z, .int .i64 n] w fun e w' => ∃ k v, e = .returned (.tuple #[.pointer (some ⟨k, 0, none⟩), .int .i64 0]) ∧ At W w' (Both (RrT k v (headsL T).1 0 (if (headsL T).2 = 0 then 0 else 11)) (Both (RefT rb S) R)) := by
  have H := Lib.hid h
  have hst := (RefT.stable rb S).both hR
  have hrd := rRead_at h hG hz (a := 0) (n := 0) (by unfold inI64; omega) (by unfold inI64; omega)
  rw [hc] at hrd
  have hsz := rSize_at h hG hz
  have hrt := rRead_at h hG hz (a := 0) (n := (sizeN S z : Nat)) (by unfold inI64; omega) (by unfold inI64; omega)
  rw [hT] at hrt
  have hTl : T.length ≤ 67108864 := by
    rw [← hT]
    have := readT_len6 (S := S) (z := z) (a := 0) (n := sizeN S z)
    omega
  have h1 : ¬ (n : Int) < 1 := by omega
  have h2 : ¬ 4096 < (n : Int) := by omega
  have hhd := Heads_calls ⟨T.toArray⟩ w (by show T.toArray.size ≤ _; simp; omega)
  obtain ⟨l, er, hle⟩ : ∃ l er, headsL T = (l, er) := ⟨_, _, rfl⟩
  rw [show headsL (⟨T.toArray⟩ : ByteArray).data.toList = (l, er) from hle] at hhd
  unfold StrsErr at hhd
  dsimp only at hhd
  rw [hle]
  dsimp only
  have HRD := Lib.hid hrd
  have HSZ := Lib.hid hsz
  have HRT := Lib.hid hrt
  have HHD := Lib.hid hhd
  have HST := Lib.hid hst
  generalize readT S z 0 0 = t0 at *
  generalize sizeC S z = c1 at *
  generalize readC S z 0 (sizeN S z : Nat) = c2 at *
  generalize sizeN S z = m at *
  clear h hR hG hn hc hrd hsz hrt hhd hst hT hTl hl hle
  go_enter Tryd.func35, Tryd.ntmps35
  (repeat' (first | (go_big_may; fail) | go_values | go_skip | go_guarded | go_step | go_upon | go_back | dsimp only))
  refine HRD.out.mono ?_
  rintro e w1 ⟨rfl, rfl⟩
  (repeat' (first | (go_big_may; fail) | go_values | go_skip | go_guarded | go_step | go_upon | go_back | dsimp only))
  refine HSZ.out.mono ?_
  rintro e w1 ⟨rfl, rfl⟩
  (repeat' (first | (go_big_may; fail) | go_values | go_skip | go_guarded | go_step | go_upon | go_back | dsimp only))
  refine HRT.out.mono ?_
  rintro e w1 ⟨rfl, rfl⟩
  (repeat' (first | (go_big_may; fail) | go_values | go_skip | go_guarded | go_step | go_upon | go_back | dsimp only))
  refine HHD.out.mono ?_
  rintro e w1 ⟨v, rfl, hown, hb⟩
  obtain ⟨ao, cap, hv, _, _⟩ := own_shape hown
  subst hv
  have hrow := H.out.newRowG HST.out hb hown
  have hrs := (RowG.stable 9 1 (.slice ao l.length cap) l.length (strs l)).both HST.out
  have hnew := hrow.newCell hrs (rrCells (.slice ao l.length cap) 0 0) tRr
  have HN := Lib.hid hnew
  have HN2 := Lib.hid (hrow.newCell hrs (rrCells (.slice ao l.length cap) 0 11) tRr)
  clear HRD HSZ HRT HHD hown hb hrow hnew hrs
  by_cases hz : er = 0
  · subst hz
    (repeat' (first | (go_big_may; fail) | go_values | go_skip | go_guarded | go_step | go_upon | go_back | dsimp only))
    go_ret2
    exact ⟨_, _, rfl, HN.out.impl fun _ q => Both.assocL q⟩
  · have hcz : ((er : Int) == 0) = false := beq_eq_false_iff_ne.2 (by omega)
    have HZ := Lib.hid hz
    clear hz
    (repeat' (first | (go_big_may; fail) | go_values | go_skip | go_guarded | go_step | go_upon | go_back | dsimp only))
    go_ret2
    rw [if_neg HZ.out]
    exact ⟨_, _, rfl, HN2.out.impl fun _ q => Both.assocL q⟩
theorem At.rr {v : Value} {l : List (List UInt8)} {i aft : Nat} (h : At W w (Both (RrT k v l i aft) R)) : (w.cell? ⟨k, 0, none⟩ = some v ∧ w.cell? ⟨k, 1, none⟩ = some (.int .i64 i) ∧ w.cell? ⟨k, 2, none⟩ = some (.int .i64 aft) ∧ (∀ j, w.frozen? ⟨k, j, none⟩ = false) ∧ k < w.heap.size) ∧ w.ownsRow 0 9 1 v l.length (strs l) := by
  have h1 := h.impl fun _ q => Both.assocR q
  have h2 := h1.cell.1
  exact ⟨⟨cell_at h2 0, cell_at h2 1, cell_at h2 2, thaw_at h2, lt_of_heap h2⟩, h1.drop.rowG⟩
theorem At.setRr {v : Value} {l : List (List UInt8)} {i aft : Nat} (h : At W w (Both (RrT k v l i aft) R)) (hR : Stable R) (n : Nat) : At W (w.setCell ⟨k, 1, none⟩ (.int .i64 n)) (Both (RrT k v l n aft) R) := by
  have h1 := h.impl fun _ q => Both.assocR q
  exact (h1.setCell ((RowG.stable _ _ _ _ _).both hR) 1 (.int .i64 n)).impl fun _ q => Both.assocL q
set_option maxRecDepth 100000 in
set_option maxHeartbeats 3200000 in
theorem rNext_end {v : Value} {l : List (List UInt8)} {i aft : Nat} (h : At W w (Both (RrT k v l i aft) R)) (hR : Stable R) (hi : i = l.length) :
    Calls Tryd.prog 37 #[.pointer (some ⟨k, 0, none⟩)] w fun e w' => e = .returned (.tuple #[.string ⟨#[]⟩, .bool false, .int .i64 aft]) ∧ At W w' (Both (RrT k v l i aft) R) := by
  obtain ⟨⟨c0, c1, c2, fz, hlt⟩, hrow⟩ := h.rr
  obtain ⟨ao, cap, hv, _, _⟩ := own_shape hrow
  subst hv
  have HA := Lib.hid (fun n => h.mono ((RrT.stable _ _ _ _ _).both hR) (below_dW w n))
  have HS := Lib.hid ((RrT.stable k (.slice ao l.length cap) l i aft).both hR)
  have hlt : ¬ (i : Int) < l.length := by omega
  clear h hR hrow hi
  go_enter Tryd.func37, Tryd.ntmps37
  (repeat' (first | (go_big_may; fail) | go_values | go_skip | go_guarded | go_step | go_upon | go_back | dsimp only))
  go_quiet (fail)
  (repeat' (first | (go_big_may; fail) | go_values | go_skip | go_guarded | go_step | go_upon | go_back | dsimp only))
  go_quiet (fail)
  (repeat' (first | (go_big_may; fail) | go_values | go_skip | go_guarded | go_step | go_upon | go_back | dsimp only))
  go_ret3
  exact ⟨rfl, (HA.out _).mono HS.out (below_dW _ _)⟩
set_option maxRecDepth 100000 in
set_option maxHeartbeats 3200000 in
theorem rNext_one {v : Value} {l : List (List UInt8)} {i aft : Nat} (h : At W w (Both (RrT k v l i aft) R)) (hR : Stable R) {r : List UInt8} (hr : l[i]? = some r) :
    Calls Tryd.prog 37 #[.pointer (some ⟨k, 0, none⟩)] w fun e w' => e = .returned (.tuple #[.string ⟨r.toArray⟩, .bool true, .int .i64 0]) ∧ At W w' (Both (RrT k v l (i + 1) aft) R) := by
  have hi : i < l.length := (List.getElem?_eq_some_iff.1 hr).1
  obtain ⟨⟨c0, c1, c2, fz, hlt⟩, hrow⟩ := h.rr
  obtain ⟨ao, cap, hv, _, hcap⟩ := own_shape hrow
  subst hv
  unfold maxLen at hcap
  have hB := fun n => h.mono ((RrT.stable _ _ _ _ _).both hR) (below_dW w n)
  have HA := Lib.hid (fun (n : Nat) => (hB n).setRr hR (i + 1))
  have HST := Lib.hid ((RrT.stable k (.slice ao l.length cap) l (i + 1) aft).both hR)
  have hlti : (i : Int) < l.length := by omega
  have hw1 : IntKind.i64.wrap ((i : Int) + 1) = (i : Int) + 1 := by rw [IntKind.wrap_i64] <;> omega
  have HRR := Lib.hid hr
  clear h hR hrow hr hB
  go_enter Tryd.func37, Tryd.ntmps37
  (repeat' (first | (go_big_may; fail) | go_values | go_skip | go_guarded | go_step | go_upon | go_back | dsimp only))
  go_quiet (fail)
  (repeat' (first | (go_big_may; fail) | go_values | go_skip | go_guarded | go_step | go_upon | go_back | dsimp only))
  have h1 := HA.out nq
  rw [show ((i + 1 : Nat) : Int) = (i : Int) + 1 by omega] at h1
  have H1 := Lib.hid h1
  obtain ⟨⟨d0, d1, _, _, hlt2⟩, hrow2⟩ := h1.rr
  rw [show ((i + 1 : Nat) : Int) = (i : Int) + 1 by omega] at d1
  obtain ⟨bo, oo, cp, hsl, hcell⟩ := (RdRow.of_own hrow2).str HRR.out
  cases hsl
  generalize (w.drewN nq).setCell ⟨k, 1, none⟩ (.int .i64 ((i : Int) + 1)) = w2 at *
  have hw2 : IntKind.i64.wrap ((i : Int) + 1 - 1) = (i : Int) := by rw [IntKind.wrap_i64] <;> omega
  have hi0 : (0 : Int) ≤ i := by omega
  clear c0 c1 c2 fz hlt HA h1 hrow2
  (repeat' (first | (go_big_may; fail) | go_values | go_skip | go_guarded | go_step | go_upon | go_back | dsimp only))
  go_quiet (fail)
  (repeat' (first | (go_big_may; fail) | go_values | go_skip | go_guarded | go_step | go_upon | go_back | dsimp only))
  go_ret3
  exact ⟨rfl, H1.out.mono HST.out (below_dW _ _)⟩
end
end Go.Proofs.YtiimpnhjnodgpaaDoor
namespace Go.Proofs.YtiimpnhjnodgpaaDoor
open Go.RowKit

variable {α : Type} {f : α → Thing}
/-- The things of a list, each on blocks of its own. -/
def LstT (f : α → Thing) : List α → Thing
  | [] => Nought
  | a :: l => Both (f a) (LstT f l)
theorem LstT.stable (hf : ∀ a, Stable (f a)) : ∀ l, Stable (LstT f l)
  | [] => Stable.nought
  | a :: l => (hf a).both (LstT.stable hf l)
theorem LstT.out {w : World} {a : α} : ∀ {l : List α} {i : Nat} {R : Thing} {fp : List Nat}, l[i]? = some a → Both (LstT f l) R w fp → Both (f a) (Both (LstT f (l.eraseIdx i)) R) w fp
  | [], i, R, fp, h, _ => by simp at h
  | b :: l, 0, R, fp, h, q => by
    simp only [List.getElem?_cons_zero, Option.some.injEq] at h
    subst h
    exact Both.assocR q
  | b :: l, i + 1, R, fp, h, q => by
    simp only [List.getElem?_cons_succ] at h
    exact Both.mono (fun _ _ => Both.assocL) (Both.assoc (Both.mono (fun _ _ => LstT.out h) (Both.assocR q)))
section
variable {W w : World} {R : Thing} {l : List α}
theorem At.out (h : At W w (Both (LstT f l) R)) {i : Nat} {a : α} (hi : l[i]? = some a) : At W w (Both (f a) (Both (LstT f (l.eraseIdx i)) R)) := h.impl fun _ q => LstT.out hi q
end
end Go.Proofs.YtiimpnhjnodgpaaDoor
