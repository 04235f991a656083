/- walk.counts, counted and Count walked. · walk.counted and Count walked. -/
import Derived.Test.YthjkfiniafblbaaWkCounts
import Derived.Test.YthjkfiniafblbaaTrie
import Derived.Test.YthjkfiniafblbaaWkShape
namespace Go.Proofs.Ythjkfiniafblbaa
section
open Go.RowKit

theorem info_Int : (Try.prog.info? tInt).map (fun i => (i.zero, i.size, i.bytes)) = some (some (.int .i64 0), 1, 8) := by kernel_rfl
theorem cinv_start (A : List Sta) (F : Trie → Int) (z : Int) : CInv A F z (List.replicate A.length z) := ⟨by simp, fun i v hv hz => by
  rw [List.getElem?_replicate] at hv
  split at hv
  · simp only [Option.some.injEq] at hv
    exact absurd hv.symm hz
  · cases hv⟩
theorem cntL_of {A : List Sta} (hs : Shaped A) {cs : List Int} (h : CInv A cntI 0 cs) (hg : ∀ j, Gets A 0 j → GoodC A cntI cs j) : CntL A cs :=
  ⟨h.len, fun i _ hu => (hg i (hs.reach i hu.lt)).val hu⟩

set_option maxRecDepth 100000 in
set_option maxHeartbeats 1600000 in
theorem counts_calls {w : World} {A : List Sta} {va : Value} (hA : RdAut w va A) (hl : A.length ≤ 1048576 ∧ edgesN A ≤ 1048576) (hs : Shaped A) :
    Calls Try.prog 54 #[va] w fun e w' => ∃ cs g, e = .returned (.slice (some ⟨g, 0, none⟩) A.length A.length) ∧ CntL A cs ∧ At w w' (Both (RowG tInt 1 (.slice (some ⟨g, 0, none⟩) A.length A.length) A.length (intsI cs)) Nought) := by
  obtain ⟨a0, c0, hv, _, hc0⟩ := hA.shape
  obtain ⟨t, ht, _, _⟩ := hs.tr 0 hs.pos
  have hn : A.length ≤ 1048576 := by omega
  have hvis := fun ko ka kv g w2 (h2 : At w w2 (CntT ko ka kv g A.length va (List.replicate A.length 0) Nought)) => cvis_at hA hl ko ka kv g (htT t + 1) w2 (List.replicate A.length 0) 0 t Nought h2 Stable.nought (cinv_start A cntI 0) ht (by omega)
  have hnw := (At.nought (Below.refl w.heap.size w)).newCell Stable.nought #[va] tSl
  have HVIS := Lib.hid hvis
  have HNW := Lib.hid hnw
  have HSH := Lib.hid hs
  have hsf := st_fn
  clear hvis hnw hs ht hA
  subst hv
  go_enter Try.func54, Try.ntmps54
  (repeat' (first | (go_big_may; ((at_make; go_must (refine wpList_make_at rfl _ _ 23 rfl tInt Try.underlying23 info_Int rfl rfl rfl rfl rfl (by omega) (by unfold maxLen; omega) HNW.out ((CellT.stable _ _ _).both Stable.nought) ?_)); intro w2 h2 _)) | go_values | go_skip | go_guarded | go_step | go_upon | go_back | dsimp only))

  have z1 : (w.alloc (.cells #[.slice a0 A.length c0] tSl)).heap.size = w.heap.size + 1 := by simp
  rw [z1] at h2
  have hs2 := (RowG.stable tInt 1 (.slice (some ⟨w.heap.size + 1, 0, none⟩) A.length A.length) A.length (List.replicate A.length (.int .i64 0))).both ((CellT.stable w.heap.size #[.slice a0 A.length c0] tSl).both Stable.nought)
  have h3 := h2.newCell hs2 #[.slice (some ⟨w.heap.size + 1, 0, none⟩) A.length A.length] tIs
  have hs3 := (CellT.stable w2.heap.size #[.slice (some ⟨w.heap.size + 1, 0, none⟩) A.length A.length] tIs).both hs2
  have h4 := h3.newCell hs3 #[.func (.func 67) #[] #[ptrN w2.heap.size, ptrN w.heap.size, ptrN (w2.heap.size + 1)]] tFc
  have z2 : (w2.alloc (.cells #[.slice (some ⟨w.heap.size + 1, 0, none⟩) A.length A.length] tIs)).heap.size = w2.heap.size + 1 := by simp
  rw [z2] at h4
  have h5 := h4.pull4.pull3
  rw [show List.replicate A.length (Value.int .i64 0) = intsI (List.replicate A.length 0) from by simp [intsI]] at h5
  have HC := Lib.hid (HVIS.out _ _ _ _ _ h5)
  clear h2 h3 h4 h5 hs2 hs3 z1 z2
  refine HC.out.mono ?_
  rintro e5 w5 ⟨rfl, cs5, hi5, _, hg5, h7⟩
  have HCL := Lib.hid (cntL_of HSH.out hi5 hg5)
  obtain ⟨c0, _, _⟩ := h7.cellF (o := 0) (u := .slice (some ⟨w.heap.size + 1, 0, none⟩) A.length A.length) rfl
  have H8 := Lib.hid h7.drop.drop.drop
  clear h7 hi5 hg5
  (repeat' (first | (go_big_may; fail) | go_values | go_skip | go_guarded | go_step | go_upon | go_back | dsimp only))
  go_ret
  exact ⟨cs5, _, rfl, HCL.out, H8.out⟩
end

section
open Go.RowKit

theorem shapeV_ok {A : List Sta} (h : shapeB A = true) : shapeV A = 0 := by unfold shapeV; rw [if_pos h]
theorem shapeV_bad {A : List Sta} (h : shapeB A = false) : shapeV A = 190 := by unfold shapeV; rw [if_neg (by rw [h]; simp)]

set_option maxRecDepth 100000 in
set_option maxHeartbeats 1600000 in
theorem counted_bad {w : World} {A : List Sta} {va : Value} (hA : RdAut w va A) (hl : A.length ≤ 1048576 ∧ edgesN A ≤ 1048576) (hs : shapeB A = false) :
    Calls Try.prog 39 #[va] w fun e w' => e = .returned (.tuple #[.slice none 0 0, .int .i64 190]) ∧ Below w.heap.size w w' := by
  have HS := Lib.hid (Shape_calls hA hl)
  rw [shapeV_bad hs] at HS
  clear hs hA
  go_enter Try.func39, Try.ntmps39
  (repeat' (first | (go_big_may; fail) | go_values | go_skip | go_guarded | go_step | go_upon | go_back | dsimp only))
  refine HS.out.mono ?_
  rintro e1 w1 ⟨rfl, hb1⟩
  have HB1 := Lib.hid hb1
  clear hb1
  (repeat' (first | (go_big_may; fail) | go_values | go_skip | go_guarded | go_step | go_upon | go_back | dsimp only))
  go_ret2
  exact ⟨rfl, HB1.out⟩

theorem RdRow.at0 {w : World} {g n : Nat} {cs : List Int} (h : RdRow w (.slice (some ⟨g, 0, none⟩) n n) n 1 (intsI cs)) {c : Int} (hc : cs[0]? = some c) : w.cell? ⟨g, 0, none⟩ = some (.int .i64 c) := by
  obtain ⟨_, ad, cap, hv, _, _, h2⟩ := h
  obtain ⟨b, off, hb, h3⟩ := h2 0 _ (intsI_get hc)
  cases hv
  cases hb
  exact h3
set_option maxRecDepth 100000 in
set_option maxHeartbeats 1600000 in
theorem counted_many {w : World} {A : List Sta} {va : Value} (hA : RdAut w va A) (hl : A.length ≤ 1048576 ∧ edgesN A ≤ 1048576) (hs : shapeB A = true) {t : Trie} (ht : Unf A 0 t) (hc : 1099511627776 < cntT t) :
    Calls Try.prog 39 #[va] w fun e w' => e = .returned (.tuple #[.slice none 0 0, .int .i64 191]) ∧ Below w.heap.size w w' := by
  have HS := Lib.hid (Shape_calls hA hl)
  have hsh := shaped_of hs
  rw [shapeV_ok hs] at HS
  have HC := Lib.hid (fun w' (hb : Below w.heap.size w w') => counts_calls (hA.below hb) hl hsh)
  have HT := Lib.hid ht
  have hpos := hsh.pos
  clear hs hA hsh ht
  go_enter Try.func39, Try.ntmps39
  (repeat' (first | (go_big_may; fail) | go_values | go_skip | go_guarded | go_step | go_upon | go_back | dsimp only))
  refine HS.out.mono ?_
  rintro e1 w1 ⟨rfl, hb1⟩
  have HB1 := Lib.hid hb1
  have HC1 := Lib.hid (HC.out w1 hb1)
  clear hb1
  (repeat' (first | (go_big_may; fail) | go_values | go_skip | go_guarded | go_step | go_upon | go_back | dsimp only))
  refine HC1.out.mono ?_
  rintro e2 w2 ⟨cs, g, rfl, hcs, h2⟩
  have hct : cntI t = 1099511627777 := by unfold cntI capN; omega
  have c0 := (RdRow.of_own h2.rowG).at0 (hcs.2 0 t HT.out)
  rw [hct] at c0
  have HB2 := Lib.hid (HB1.out.trans (h2.below.mono HB1.out.size))
  clear h2 hcs hct
  (repeat' (first | (go_big_may; fail) | go_values | go_skip | go_guarded | go_step | go_upon | go_back | dsimp only))
  go_ret2
  exact ⟨rfl, HB2.out⟩
set_option maxRecDepth 100000 in
set_option maxHeartbeats 1600000 in
theorem counted_ok {w : World} {A : List Sta} {va : Value} (hA : RdAut w va A) (hl : A.length ≤ 1048576 ∧ edgesN A ≤ 1048576) (hs : shapeB A = true) {t : Trie} (ht : Unf A 0 t) (hc : cntT t ≤ 1099511627776) :
    Calls Try.prog 39 #[va] w fun e w' => ∃ cs g, e = .returned (.tuple #[.slice (some ⟨g, 0, none⟩) A.length A.length, .int .i64 0]) ∧ CntL A cs ∧ RdRow w' (.slice (some ⟨g, 0, none⟩) A.length A.length) A.length 1 (intsI cs) ∧ Below w.heap.size w w' := by
  have HS := Lib.hid (Shape_calls hA hl)
  have hsh := shaped_of hs
  rw [shapeV_ok hs] at HS
  have HC := Lib.hid (fun w' (hb : Below w.heap.size w w') => counts_calls (hA.below hb) hl hsh)
  have HT := Lib.hid ht
  have hpos := hsh.pos
  clear hs hA hsh ht
  go_enter Try.func39, Try.ntmps39
  (repeat' (first | (go_big_may; fail) | go_values | go_skip | go_guarded | go_step | go_upon | go_back | dsimp only))
  refine HS.out.mono ?_
  rintro e1 w1 ⟨rfl, hb1⟩
  have HB1 := Lib.hid hb1
  have HC1 := Lib.hid (HC.out w1 hb1)
  clear hb1
  (repeat' (first | (go_big_may; fail) | go_values | go_skip | go_guarded | go_step | go_upon | go_back | dsimp only))
  refine HC1.out.mono ?_
  rintro e2 w2 ⟨cs, g, rfl, hcs, h2⟩
  have hct : cntI t = (cntT t : Int) := by unfold cntI; rw [capN_small hc]
  have c0 := (RdRow.of_own h2.rowG).at0 (hcs.2 0 t HT.out)
  rw [hct] at c0
  have hlt : ¬ (1099511627776 : Int) < (cntT t : Int) := by omega
  have HCS := Lib.hid hcs
  have HR2 := Lib.hid (RdRow.of_own h2.rowG)
  have HB2 := Lib.hid (HB1.out.trans (h2.below.mono HB1.out.size))
  clear h2 hcs hct
  (repeat' (first | (go_big_may; fail) | go_values | go_skip | go_guarded | go_step | go_upon | go_back | dsimp only))
  go_ret2
  exact ⟨cs, g, rfl, HCS.out, HR2.out, HB2.out⟩

/-- Count's answer, for an automaton in its shape with the tree t. -/
def countV (t : Trie) : Int := if cntT t ≤ 1099511627776 then cntT t else 0
def countE (t : Trie) : Int := if cntT t ≤ 1099511627776 then 0 else 191
set_option maxRecDepth 100000 in
set_option maxHeartbeats 1600000 in
theorem Count_bad {w : World} {A : List Sta} {va : Value} (hA : RdAut w va A) (hl : A.length ≤ 1048576 ∧ edgesN A ≤ 1048576) (hs : shapeB A = false) :
    Calls Try.prog 21 #[va] w fun e w' => e = .returned (.tuple #[.int .i64 0, .int .i64 190]) ∧ Below w.heap.size w w' := by
  have HC := Lib.hid (counted_bad hA hl hs)
  clear hA hl hs
  go_enter Try.func21, Try.ntmps21
  (repeat' (first | (go_big_may; fail) | go_values | go_skip | go_guarded | go_step | go_upon | go_back | dsimp only))
  refine HC.out.mono ?_
  rintro e1 w1 ⟨rfl, hb1⟩
  have HB1 := Lib.hid hb1
  clear hb1
  (repeat' (first | (go_big_may; fail) | go_values | go_skip | go_guarded | go_step | go_upon | go_back | dsimp only))
  go_ret2
  exact ⟨rfl, HB1.out⟩
set_option maxRecDepth 100000 in
set_option maxHeartbeats 1600000 in
theorem Count_calls {w : World} {A : List Sta} {va : Value} (hA : RdAut w va A) (hl : A.length ≤ 1048576 ∧ edgesN A ≤ 1048576) (hs : shapeB A = true) {t : Trie} (ht : Unf A 0 t) :
    Calls Try.prog 21 #[va] w fun e w' => e = .returned (.tuple #[.int .i64 (countV t), .int .i64 (countE t)]) ∧ Below w.heap.size w w' := by
  by_cases hc : cntT t ≤ 1099511627776
  · have HC := Lib.hid (counted_ok hA hl hs ht hc)
    have hpos := (shaped_of hs).pos
    have e1 : countV t = cntT t := if_pos hc
    have e2 : countE t = 0 := if_pos hc
    rw [e1, e2]
    have HT := Lib.hid ht
    clear hA hs ht e1 e2
    go_enter Try.func21, Try.ntmps21
    (repeat' (first | (go_big_may; fail) | go_values | go_skip | go_guarded | go_step | go_upon | go_back | dsimp only))
    refine HC.out.mono ?_
    rintro e1 w1 ⟨cs, g, rfl, hcs, h1, hb1⟩
    have hct : cntI t = (cntT t : Int) := by unfold cntI; rw [capN_small hc]
    have c0 := h1.at0 (hcs.2 0 t HT.out)
    rw [hct] at c0
    have HB1 := Lib.hid hb1
    clear hb1 h1 hcs hct
    (repeat' (first | (go_big_may; fail) | go_values | go_skip | go_guarded | go_step | go_upon | go_back | dsimp only))
    go_ret2
    exact ⟨rfl, HB1.out⟩
  · have HC := Lib.hid (counted_many hA hl hs ht (by omega))
    have e1 : countV t = 0 := if_neg hc
    have e2 : countE t = 191 := if_neg hc
    rw [e1, e2]
    clear hA hs ht e1 e2
    go_enter Try.func21, Try.ntmps21
    (repeat' (first | (go_big_may; fail) | go_values | go_skip | go_guarded | go_step | go_upon | go_back | dsimp only))
    refine HC.out.mono ?_
    rintro e1 w1 ⟨rfl, hb1⟩
    have HB1 := Lib.hid hb1
    clear hb1
    (repeat' (first | (go_big_may; fail) | go_values | go_skip | go_guarded | go_step | go_upon | go_back | dsimp only))
    go_ret2
    exact ⟨rfl, HB1.out⟩
end
end Go.Proofs.Ythjkfiniafblbaa
