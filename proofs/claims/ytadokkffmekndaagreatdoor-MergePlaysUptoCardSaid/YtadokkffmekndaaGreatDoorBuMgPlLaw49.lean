/- merge: what a round's writer is while records are put one at a time; no program in sight. · merge.round walked. -/
import Derived.Test.YtadokkffmekndaaGreatDoorBuMgPlLaw48
import Derived.Test.YtadokkffmekndaaGreatDoorBuMgPlLaw45
import Derived.Test.YtadokkffmekndaaGreatDoorBuMgPlLaw30
import Derived.Test.YtadokkffmekndaaGreatDoorBuMgPlLaw37
import Derived.Test.YtadokkffmekndaaGreatDoorBuMgPlLaw47
import Derived.Test.YtadokkffmekndaaGreatDoorBuMgPlLaw36
import Derived.Test.YtadokkffmekndaaGreatDoorBuMgPlLaw39
set_option linter.unusedSimpArgs false
set_option linter.unusedVariables false
namespace Go.Proofs.YtadokkffmekndaaGreatDoor
open Go.RowKit
theorem puts_snoc : ∀ (pre : List (List UInt8)) (S : St) (x : WrD) (a : List UInt8), putsP S x (pre ++ [a]) = if (putsP S x pre).2.2 = 0 then putP (putsP S x pre).1 (putsP S x pre).2.1 [a] else putsP S x pre
  | [], S, x, a => by
    show (if (putP S x [a]).2.2 = 0 then putsP (putP S x [a]).1 (putP S x [a]).2.1 [] else putP S x [a]) = if (0 : Nat) = 0 then _ else _
    rw [if_pos rfl]
    split
    · rename_i h
      show ((putP S x [a]).1, (putP S x [a]).2.1, 0) = putP S x [a]
      rw [← h]
    · rfl
  | b :: pre, S, x, a => by
    show (if (putP S x [b]).2.2 = 0 then putsP (putP S x [b]).1 (putP S x [b]).2.1 (pre ++ [a]) else putP S x [b]) = if (if (putP S x [b]).2.2 = 0 then putsP (putP S x [b]).1 (putP S x [b]).2.1 pre else putP S x [b]).2.2 = 0 then putP (if (putP S x [b]).2.2 = 0 then putsP (putP S x [b]).1 (putP S x [b]).2.1 pre else putP S x [b]).1 (if (putP S x [b]).2.2 = 0 then putsP (putP S x [b]).1 (putP S x [b]).2.1 pre else putP S x [b]).2.1 [a] else (if (putP S x [b]).2.2 = 0 then putsP (putP S x [b]).1 (putP S x [b]).2.1 pre else putP S x [b])
    by_cases h : (putP S x [b]).2.2 = 0
    · rw [if_pos h, if_pos h]
      exact puts_snoc pre _ _ a
    · rw [if_neg h, if_neg h, if_neg h]
theorem puts_stop : ∀ (pre t : List (List UInt8)) (S : St) (x : WrD), (putsP S x pre).2.2 ≠ 0 → putsP S x (pre ++ t) = putsP S x pre
  | [], t, S, x, h => absurd rfl h
  | b :: pre, t, S, x, h => by
    show (if (putP S x [b]).2.2 = 0 then putsP (putP S x [b]).1 (putP S x [b]).2.1 (pre ++ t) else putP S x [b]) = if (putP S x [b]).2.2 = 0 then putsP (putP S x [b]).1 (putP S x [b]).2.1 pre else putP S x [b]
    have h' : (if (putP S x [b]).2.2 = 0 then putsP (putP S x [b]).1 (putP S x [b]).2.1 pre else putP S x [b]).2.2 ≠ 0 := h
    by_cases hz : (putP S x [b]).2.2 = 0
    · rw [if_pos hz] at h'
      rw [if_pos hz, if_pos hz]
      exact puts_stop pre t _ _ h'
    · rw [if_neg hz, if_neg hz]
structure PutK (S0 S : St) (x : WrD) (r : Nat) : Prop where
  good : GoodS S
  run : x.run = r
  dead : x.dead = 0
  block : x.block = 512
  buf : x.buf.length < 512
  top : ∃ t, TopOpen S0 S r t
theorem PutK.start {S : St} (hG : GoodS S) (hc : (createP S).2.2 = 0) : PutK S (createP S).1 ⟨(createP S).2.1, 512, [], 0⟩ (createP S).2.1 :=
  ⟨(create_top hG hc).1.good, rfl, rfl, rfl, by show (0 : Nat) < 512; decide, _, (create_top hG hc).1⟩
theorem PutK.run64 {S0 S : St} {x : WrD} {r : Nat} (h : PutK S0 S x r) : inI64 (x.run : Int) := by
  obtain ⟨t, ht⟩ := h.top
  have h1 := h.good.sizes.2.2.2.1
  have h2 := ht.made
  have h3 := ht.num
  have h4 := h.run
  unfold inI64; omega
theorem PutK.put {S0 S : St} {x : WrD} {r : Nat} (h : PutK S0 S x r) {a : List UInt8} (ha : a.length ≤ 255) (hz : (putP S x [a]).2.2 = 0) : PutK S0 (putP S x [a]).1 (putP S x [a]).2.1 r := by
  obtain ⟨t, ht⟩ := h.top
  have hf : fits [a] = true := fits_cons.2 ⟨ha, rfl⟩
  obtain ⟨t', g1, g2, g3, g4, g5, g6, g7⟩ := putP_top ht h.run h.dead hf
  have hs := putP_short (S := S) (x := x) (L := [a]) h.dead hf (by rw [h.block]; decide) hz
  rw [h.block] at hs
  exact ⟨g1.good, g2, (g4 hz).1, g3.trans h.block, hs, _, g1⟩
structure PutX (S0 S : St) (x : WrD) (r c : Nat) : Prop where
  good : GoodS S
  run : x.run = r
  dead : x.dead = c
  code : okC c
  ne : c ≠ 0
  top : ∃ t, TopOpen S0 S r t
  alive : c ≠ 13
theorem PutX.run64 {S0 S : St} {x : WrD} {r c : Nat} (h : PutX S0 S x r c) : inI64 (x.run : Int) := by
  obtain ⟨t, ht⟩ := h.top
  have h1 := h.good.sizes.2.2.2.1
  have h2 := ht.made
  have h3 := ht.num
  have h4 := h.run
  unfold inI64; omega
theorem PutX.ok {S0 S : St} {x : WrD} {r c : Nat} (h : PutX S0 S x r c) : okC x.dead := by rw [h.dead]; exact h.code
theorem PutK.bad {S0 S : St} {x : WrD} {r : Nat} (h : PutK S0 S x r) {a : List UInt8} (ha : a.length ≤ 255) (hz : (putP S x [a]).2.2 ≠ 0) : PutX S0 (putP S x [a]).1 (putP S x [a]).2.1 r (putP S x [a]).2.2 := by
  obtain ⟨t, ht⟩ := h.top
  have hf : fits [a] = true := fits_cons.2 ⟨ha, rfl⟩
  obtain ⟨t', g1, g2, g3, g4, g5, g6, g7⟩ := putP_top ht h.run h.dead hf
  exact ⟨g1.good, g2, g5, g6, hz, ⟨_, g1⟩, g7⟩
theorem PutK.close {S0 S : St} {x : WrD} {r : Nat} (h : PutK S0 S x r) (hz : (closeP S x).2.2.2 ≠ 0) : PutX S0 (closeP S x).1 (closeP S x).2.1 r (closeP S x).2.2.2 := by
  obtain ⟨t, ht⟩ := h.top
  rcases closeP_top ht h.run h.dead with ⟨k1, _⟩ | ⟨_, ⟨t', k2⟩, k3, k4, k5, k6⟩
  · exact absurd k1 hz
  · exact ⟨k2.good, k3, k4, k5, hz, ⟨_, k2⟩, k6⟩
theorem close_zero (S : St) (x : WrD) (hz : (closeP S x).2.2.2 ≠ 0) : (closeP S x).2.2.1 = 0 := by
  unfold closeP at hz ⊢
  split
  · rfl
  · rename_i h1
    rw [if_neg h1] at hz
    split
    · rfl
    · rename_i h2
      rw [if_neg h2] at hz
      split
      · rfl
      · rename_i h3
        rw [if_neg h3] at hz
        exact absurd rfl hz
theorem round_bad0 {S : St} (hc : (createP S).2.2 ≠ 0) (L : List (List UInt8)) : roundM S L = ((createP S).1, 0, (createP S).2.2) := by unfold roundM; rw [if_pos hc]
theorem round_bad1 {S : St} {L : List (List UInt8)} {P : St × WrD × Nat} (hc : (createP S).2.2 = 0) (hP : putsP (createP S).1 ⟨(createP S).2.1, 512, [], 0⟩ L = P) (hz : P.2.2 ≠ 0) : roundM S L = ((dropP P.1 P.2.1).1, 0, P.2.2) := by
  unfold roundM
  rw [if_neg (by simpa using hc), hP, if_pos hz]
theorem round_bad2 {S : St} {L : List (List UInt8)} {P : St × WrD × Nat} {Q : St × WrD × Nat × Nat} (hc : (createP S).2.2 = 0) (hP : putsP (createP S).1 ⟨(createP S).2.1, 512, [], 0⟩ L = P) (hz : P.2.2 = 0) (hQ : closeP P.1 P.2.1 = Q) (hz2 : Q.2.2.2 ≠ 0) : roundM S L = ((dropP Q.1 Q.2.1).1, 0, Q.2.2.2) := by
  unfold roundM
  rw [if_neg (by simpa using hc), hP, if_neg (by simpa using hz)]
  dsimp only
  rw [hQ, if_pos hz2]
theorem round_good {S : St} {L : List (List UInt8)} {P : St × WrD × Nat} {Q : St × WrD × Nat × Nat} (hc : (createP S).2.2 = 0) (hP : putsP (createP S).1 ⟨(createP S).2.1, 512, [], 0⟩ L = P) (hz : P.2.2 = 0) (hQ : closeP P.1 P.2.1 = Q) (hz2 : Q.2.2.2 = 0) : roundM S L = (Q.1, Q.2.2.1, 0) := by
  unfold roundM
  rw [if_neg (by simpa using hc), hP, if_neg (by simpa using hz)]
  dsimp only
  rw [hQ, if_neg (by simpa using hz2)]
theorem IsStrs.nil (W : World) (Φ : Thing) : IsStrs W Φ [] [] := ⟨rfl, fun i v L h => by simp at h⟩
theorem IsStrs.snoc {W : World} {Φ N : Thing} {us : List Value} {Ls : List (List (List UInt8))} {u : Value} {L : List (List UInt8)} (h : IsStrs W Φ us Ls) (hΦ : Stable Φ) (hN : Stable N) (hu : IsStr W (Both N Φ) u L) : IsStrs W (Both N Φ) (us ++ [u]) (Ls ++ [L]) := by
  refine ⟨by simp [h.1], fun i v M hv hM => ?_⟩
  by_cases hi : i < us.length
  · rw [List.getElem?_append_left hi] at hv
    rw [List.getElem?_append_left (by rw [← h.1]; exact hi)] at hM
    exact (h.2 i v M hv hM).frame hΦ hN
  · rw [List.getElem?_append_right (by omega)] at hv
    rw [List.getElem?_append_right (by rw [← h.1]; omega), ← h.1] at hM
    have h0 : i - us.length = 0 := by
      have := (List.getElem?_eq_some_iff.1 hv).1
      simp at this
      omega
    rw [h0] at hv hM
    simp at hv hM
    subst hv hM
    exact hu
theorem WithT.of {Φ : Thing} {p : Prop} (h : p) : WithT Φ p = Φ := by
  funext w fp
  exact propext ⟨fun q => q.1, fun q => ⟨q, h⟩⟩
attribute [local go_sem] Oper.semAt_some
abbrev tPut : TypeId := 73
abbrev RdC (k4 k5 kw kp kx : Nat) (n : Int) (e : Value) : Thing := Both (CellT k4 #[.int .i64 n] tInt) (Both (CellT k5 #[e] tErr) (Both (CellT kw #[.pointer (some ⟨kx, 0, none⟩)] tPW) (CellT kp #[.func (.func 81) #[.pointer (some ⟨kx, 0, none⟩)] #[]] tPut)))
theorem RdC.stable (k4 k5 kw kp kx : Nat) (n : Int) (e : Value) : Stable (RdC k4 k5 kw kp kx n e) := (CellT.stable _ _ _).both ((CellT.stable _ _ _).both ((CellT.stable _ _ _).both (CellT.stable _ _ _)))
abbrev RdB (k4 k5 kw kx : Nat) (n : Int) (e : Value) : Thing := Both (CellT k4 #[.int .i64 n] tInt) (Both (CellT k5 #[e] tErr) (CellT kw #[.pointer (some ⟨kx, 0, none⟩)] tPW))
theorem RdB.stable (k4 k5 kw kx : Nat) (n : Int) (e : Value) : Stable (RdB k4 k5 kw kx n e) := (CellT.stable _ _ _).both ((CellT.stable _ _ _).both (CellT.stable _ _ _))
section
variable {W w : World} {R : Thing} {b : Nat} {ef : Nat → Nat × Nat} {S : St} {l : List Int} {v : Value}
theorem rd_newM (w : World) (cs : Array Value) (T : TypeId) (n : Nat) (h : cs.size = n) (hn : n ≤ maxLen) : RdRow (w.alloc (.cells cs T)) (.slice (some ⟨w.heap.size, 0, none⟩) n n) n 1 cs.toList := by
  refine ⟨by simpa using h, _, _, rfl, Nat.le_refl _, hn, fun j u hu => ⟨_, _, rfl, ?_⟩⟩
  rw [World.cell?_alloc_at _ _ _ _ (by simp)]
  simpa using hu
theorem At.noughtM {W w : World} {R : Thing} (h : At W w R) (hR : Stable R) : At W w (Both Nought R) := h.add hR (Below.refl _ _) (fp := []) rfl (by simp)
set_option maxRecDepth 100000 in
theorem isRec {W : World} {ef : Nat → Nat × Nat} (hF : Fails W ef fails10) {S : St} {z : Nat} {T : List UInt8} (hT : HasT S z T) (hz : inI64 z) (hl : T.length ≤ 67108864) (bs bz b : Nat) :
    IsStr W (RecsT bs bz b z S) (.func (.func 125) #[] #[.pointer (some ⟨bs, 0, none⟩), .pointer (some ⟨bz, 0, none⟩)]) (risB none (headsL T).1) :=
  .inr ⟨_, _, rfl, fun _ _ => rfl, records1_seqs hF hT hz hl bs bz b⟩
set_option maxRecDepth 100000 in
set_option maxHeartbeats 6400000 in
theorem round_at (h : At W w (Both (StoreT b S) R)) (hR : Stable R) (hF : Fails W ef fails13) (hG : GoodS S) (hl : LokP S l) (h64 : l.length ≤ 64) (hv : ∃ ao cp, v = .slice ao l.length cp) (hrd : ∀ w', At W w' R → RdRow w' v l.length 1 (intsV l)) :
    Calls Tryz.prog 61 #[.pointer (some ⟨b, 0, none⟩), v] w fun e w' => e = .returned (.tuple #[.int .i64 (writtenP S (allP S l)).2.1, errV ef (writtenP S (allP S l)).2.2]) ∧ At W w' (Both (StoreT b (writtenP S (allP S l)).1) R) := by
  rw [← round_eq S (allP_fits S l)]
  obtain ⟨av, cv, rfl⟩ := hv
  have hst0 := (StoreT.stable b S).both hR
  have hF11 : Fails W ef fails11 := hF.less (by decide)
  have hF10 : Fails W ef fails10 := hF.less (by decide)
  have h1 := (h.newCell hst0 #[.int .i64 0] tInt).newCell ((CellT.stable _ _ _).both hst0) #[.nilIface] tErr
  rw [show (w.alloc (.cells #[.int .i64 0] tInt)).heap.size = w.heap.size + 1 from by simp] at h1
  have H1 := Lib.hid h1
  have HF := Lib.hid hF11
  have HF10 := Lib.hid hF10
  have HR := Lib.hid hR
  have HG := Lib.hid hG
  have HL := Lib.hid hl
  have HRD := Lib.hid hrd
  have e0 := cell_at h1.cell.1 0
  have ez := thaw_at h1.cell.1
  have el := lt_of_heap h1.cell.1
  have i0 := cell_at h1.drop.cell.1 0
  have iz := thaw_at h1.drop.cell.1
  have il := lt_of_heap h1.drop.cell.1
  simp only [List.getElem?_toArray, List.getElem?_cons_zero] at e0 i0
  clear h h1 hF hR hG hl hrd hst0 hF11 hF10
  (refine (callsIn_wide (n := 0)).1 (callsIn_of_wp_marks Tryz.func61 rfl trivial (wpIn_wide.2 ?_) rfl); simp only [Tryz.ntmps61, List.size_toArray, List.length_cons, List.length_nil, Nat.reduceAdd, Nat.reduceSub, Array.replicate_succ, Array.replicate_zero, List.push_toArray, List.append_toArray, List.nil_append, List.cons_append])
  (repeat' (first | go_values | go_skip | go_guarded | go_step | go_upon | go_back | dsimp only))
  generalize hk4 : w.heap.size = k4 at *
  clear hk4
  by_cases hc : (createP S).2.2 = 0
  · obtain ⟨S1, hS1⟩ : ∃ S1, S1 = (createP S).1 := ⟨_, rfl⟩
    obtain ⟨x0, hx0⟩ : ∃ x0 : WrD, x0 = ⟨(createP S).2.1, 512, [], 0⟩ := ⟨_, rfl⟩
    have hop := Open_ok (H1.out.perm (show _ = Both (StoreT b S) (Both (CellT (k4 + 1) #[.nilIface] tErr) (Both (CellT k4 #[.int .i64 0] tInt) R)) by ac_rfl)) ((CellT.stable _ _ _).both ((CellT.stable _ _ _).both HR.out)) HF.out (n := 512) (by omega) hc
    have hk1 := PutK.start HG.out hc
    have hl1 := HL.out.create HG.out hc
    have hall := all_create HG.out HL.out hc
    rw [← hx0, ← hS1] at hop hk1
    rw [← hS1] at hl1 hall
    have HOP := Lib.hid hop
    have HS1 := Lib.hid hS1
    have HX0 := Lib.hid hx0
    clear hop hS1 hx0
    refine HOP.out.mono ?_
    rintro e w1 ⟨kx, rfl, h2⟩
    clear HOP
    have hstk : Stable (Both (WrT kx b ef x0) (Both (StoreT b S1) (Both (CellT (k4 + 1) #[.nilIface] tErr) (Both (CellT k4 #[.int .i64 0] tInt) R)))) := (WrT.stable _ _ _ _).both ((StoreT.stable _ _).both ((CellT.stable _ _ _).both ((CellT.stable _ _ _).both HR.out)))
    have h3 := (h2.newCell hstk #[.pointer (some ⟨kx, 0, none⟩)] tPW).perm (show _ = Both (CellT (k4 + 1) #[.nilIface] tErr) (Both (CellT k4 #[.int .i64 0] tInt) (Both (CellT w1.heap.size #[.pointer (some ⟨kx, 0, none⟩)] tPW) (Both (WrT kx b ef x0) (Both (StoreT b S1) R)))) by ac_rfl)
    have hst3 : Stable (Both (CellT k4 #[.int .i64 0] tInt) (Both (CellT w1.heap.size #[.pointer (some ⟨kx, 0, none⟩)] tPW) (Both (WrT kx b ef x0) (Both (StoreT b S1) R)))) := (CellT.stable _ _ _).both ((CellT.stable _ _ _).both ((WrT.stable _ _ _ _).both ((StoreT.stable _ _).both HR.out)))
    have h4 := h3.setCell hst3 0 .nilIface
    clear e0 ez el i0 iz il
    have e0 := cell_at h3.cell.1 0
    have ez := thaw_at h3.cell.1
    have el := lt_of_heap h3.cell.1
    have f0 := cell_at h4.cell.1 0
    simp only [List.getElem?_toArray, List.getElem?_cons_zero, List.setIfInBounds_toArray, List.set_cons_zero] at e0 f0
    have hg1 := hk1.good
    obtain ⟨Ls, hLs⟩ : ∃ Ls, Ls = l.map (standsP S1) := ⟨_, rfl⟩
    have HLS := Lib.hid hLs
    have HL1 := Lib.hid hl1
    have HK1 := Lib.hid hk1
    have HG1 := Lib.hid hg1
    have HALL := Lib.hid hall
    have HC := Lib.hid hc
    have H4 := Lib.hid (h4.perm (show _ = Both (StoreT b S1) (Both (RdB k4 (k4 + 1) w1.heap.size kx 0 .nilIface) (Both (WrT kx b ef x0) R)) by unfold RdB; simp only [List.setIfInBounds_toArray, List.set_cons_zero]; ac_rfl))
    have HR1 := Lib.hid (show Stable (Both (RdB k4 (k4 + 1) w1.heap.size kx 0 .nilIface) (Both (WrT kx b ef x0) R)) from (RdB.stable _ _ _ _ _ _).both ((WrT.stable _ _ _ _).both HR.out))
    have neqn : ∀ wz : World, (binOp .neq tErr .nilIface .nilIface).run Tryz.prog wz = .ok (.bool false) wz := fun wz => neq_nil wz
    clear h2 hstk h3 hst3 h4 hl1 hk1 hg1 hall hLs hc H1
    (repeat' (first | go_values | go_skip | go_guarded | go_step | go_upon | go_back | dsimp only))
    generalize (w1.alloc _).setCell _ _ = w2 at *
    generalize w1.heap.size = kw at *
    clear e0 ez el
    go_loopw [7, 26] (fun v7 vi wr => ∃ (k : Nat) (us : List Value) (Z : Thing), vi = .int .i64 k ∧ k ≤ l.length ∧ Stable Z ∧ IsStrs W (Both Z (StoreT b S1)) us (Ls.take k) ∧ At W wr (Both (RowG tStr 1 v7 us.length us) (Both Z (Both (StoreT b S1) (Both (RdB k4 (k4 + 1) kw kx 0 .nilIface) (Both (WrT kx b ef x0) R)))))) (fun _ vi _ => l.length - (intOf vi).toNat)
    case atStart => exact ⟨0, [], Nought, rfl, Nat.zero_le _, Stable.nought, by rw [List.take_zero]; exact IsStrs.nil _ _, (H4.out.noughtM ((StoreT.stable _ _).both HR1.out)).noRowG (Stable.nought.both ((StoreT.stable _ _).both HR1.out)) tStr 1⟩
    case round =>
      obtain ⟨k, us, Z, rfl, hk, hZ, his, h2⟩ := hrel
      clear H4 f0
      by_cases hlt : k < l.length
      · obtain ⟨y, hy⟩ : ∃ y, l[k]? = some y := ⟨_, List.getElem?_eq_getElem hlt⟩
        have hr2 := h2.drop.drop.drop.drop.drop
        obtain ⟨gb, off, cp, hsl, hcell⟩ := (HRD.out _ hr2).intA hy
        simp only [Value.slice.injEq] at hsl
        obtain ⟨rfl, _, rfl⟩ := hsl
        have hi0 : (0 : Int) ≤ k := by omega
        have hi1 : (k : Int) < l.length := by omega
        have hwr : IntKind.i64.wrap ((k : Int) + 1) = ((k + 1 : Nat) : Int) := by rw [IntKind.wrap_i64] <;> omega
        obtain ⟨n, T, hyn, hm⟩ := HL1.out.2 y (List.mem_of_getElem? hy)
        subst hyn
        have hT := hasT_of HG1.out hm
        have hn64 := HL1.out.z64 HG1.out _ (List.mem_of_getElem? hy)
        have hLk : Ls.take (k + 1) = Ls.take k ++ [risB none (headsL T).1] := by
          refine take_snoc ?_
          rw [HLS.out, List.getElem?_map, hy]
          simp [stands_has hT]
        obtain ⟨a7, p7, hv7, hp71, hp72⟩ := own_shape h2.rowG
        subst hv7
        unfold maxLen at hp72
        have hul : us.length = k := by rw [his.1, List.length_take, Nat.min_eq_left]; rw [HLS.out, List.length_map]; omega
        have hus64 : us.length ≤ 64 := by omega
        have hRR : Stable (Both (RowG tStr 1 (.slice a7 us.length p7) us.length us) (Both Z (Both (RdB k4 (k4 + 1) kw kx 0 .nilIface) (Both (WrT kx b ef x0) R)))) := (RowG.stable _ _ _ _ _).both (hZ.both HR1.out)
        have hrc := Records_ok (h2.perm (show _ = Both (StoreT b S1) (Both (RowG tStr 1 (.slice a7 us.length p7) us.length us) (Both Z (Both (RdB k4 (k4 + 1) kw kx 0 .nilIface) (Both (WrT kx b ef x0) R)))) by ac_rfl)) hRR HF10.out hT hn64
        have HRC := Lib.hid hrc
        have HT := Lib.hid hT
        have HN64 := Lib.hid hn64
        have HTL := Lib.hid (hasT_len HG1.out hT)
        have HLK := Lib.hid hLk
        have HIS := Lib.hid his
        have HZ := Lib.hid hZ
        have HUL := Lib.hid hul
        have HRR := Lib.hid hRR
        clear hrc hT hn64 hm hLk his hZ hul hRR h2 hr2 hy
        (repeat' (first | go_values | go_skip | go_guarded | go_step | go_upon | go_back | dsimp only))
        refine HRC.out.mono ?_
        rintro e w3 ⟨bs, bz, rfl, h3⟩
        obtain ⟨u, hu⟩ : ∃ u : Value, u = .func (.func 125) #[] #[.pointer (some ⟨bs, 0, none⟩), .pointer (some ⟨bz, 0, none⟩)] := ⟨_, rfl⟩
        have hu1 : u.oneCell' = true := by rw [hu]; rfl
        have hst3 : Stable (Both (CellT bs #[.pointer (some ⟨b, 0, none⟩)] tSpt) (Both (CellT bz #[.int .i64 n] tInt) (Both (StoreT b S1) (Both (RowG tStr 1 (.slice a7 us.length p7) us.length us) (Both Z (Both (RdB k4 (k4 + 1) kw kx 0 .nilIface) (Both (WrT kx b ef x0) R))))))) := (CellT.stable _ _ _).both ((CellT.stable _ _ _).both ((StoreT.stable _ _).both HRR.out))
        have h4 := (h3.newCell hst3 #[u] tStr).perm (show _ = Both (RowG tStr 1 (.slice a7 us.length p7) us.length us) (Both (Both (CellT w3.heap.size #[u] tStr) (Both (CellT bs #[.pointer (some ⟨b, 0, none⟩)] tSpt) (Both (CellT bz #[.int .i64 n] tInt) Z))) (Both (StoreT b S1) (Both (RdB k4 (k4 + 1) kw kx 0 .nilIface) (Both (WrT kx b ef x0) R)))) by ac_rfl)
        have hZ2 : Stable (Both (CellT w3.heap.size #[u] tStr) (Both (CellT bs #[.pointer (some ⟨b, 0, none⟩)] tSpt) (Both (CellT bz #[.int .i64 n] tInt) Z))) := (CellT.stable _ _ _).both ((CellT.stable _ _ _).both ((CellT.stable _ _ _).both HZ.out))
        have hR4 : Stable (Both (Both (CellT w3.heap.size #[u] tStr) (Both (CellT bs #[.pointer (some ⟨b, 0, none⟩)] tSpt) (Both (CellT bz #[.int .i64 n] tInt) Z))) (Both (StoreT b S1) (Both (RdB k4 (k4 + 1) kw kx 0 .nilIface) (Both (WrT kx b ef x0) R)))) := hZ2.both ((StoreT.stable _ _).both HR1.out)
        have hI := isRec HF10.out HT.out HN64.out HTL.out bs bz b
        rw [← hu] at hI
        have hI2 : IsStrs W (Both (Both (CellT w3.heap.size #[u] tStr) (Both (CellT bs #[.pointer (some ⟨b, 0, none⟩)] tSpt) (Both (CellT bz #[.int .i64 n] tInt) Z))) (StoreT b S1)) (us ++ [u]) (Ls.take (k + 1)) := by
          have e1 : Both (Both (CellT w3.heap.size #[u] tStr) (Both (CellT bs #[.pointer (some ⟨b, 0, none⟩)] tSpt) (Both (CellT bz #[.int .i64 n] tInt) Z))) (StoreT b S1) = Both (Both (CellT w3.heap.size #[u] tStr) (Both (CellT bs #[.pointer (some ⟨b, 0, none⟩)] tSpt) (CellT bz #[.int .i64 n] tInt))) (Both Z (StoreT b S1)) := by ac_rfl
          have e2 : Both (Both (CellT w3.heap.size #[u] tStr) (Both (CellT bs #[.pointer (some ⟨b, 0, none⟩)] tSpt) (CellT bz #[.int .i64 n] tInt))) (Both Z (StoreT b S1)) = Both (Both (CellT w3.heap.size #[u] tStr) Z) (RecsT bs bz b n S1) := by unfold RecsT; ac_rfl
          rw [HLK.out, e1]
          refine HIS.out.snoc (HZ.out.both (StoreT.stable _ _)) ((CellT.stable _ _ _).both ((CellT.stable _ _ _).both (CellT.stable _ _ _))) ?_
          rw [e2]
          exact hI.frame (RecsT.stable _ _ _ _ _) ((CellT.stable _ _ _).both HZ.out)
        subst hu
        have HI2 := Lib.hid hI2
        have HH := Lib.hid h4
        have HR4 := Lib.hid hR4
        have HZ2 := Lib.hid hZ2
        have c10 := cell_at (h3.newCell hst3 #[.func (.func 125) #[] #[.pointer (some ⟨bs, 0, none⟩), .pointer (some ⟨bz, 0, none⟩)]] tStr).cell.1 0
        simp only [List.getElem?_toArray, List.getElem?_cons_zero] at c10
        clear h3 hst3 h4 hZ2 hR4 hI hI2 HRC HIS
        (repeat' (first | (go_big_may; ((at_builtin; go_must (refine wpList_append_to rfl _ _ 152 tStr rfl Tryz.underlying152 info_St rfl (by decide) rfl (HH.out) (HR4.out) rfl (by first | rfl | simp) rfl ((by intro q hq; simp at hq; subst hq; exact hu1)) (by unfold maxLen; omega) (by omega) ?_); intro a9 p9 w4 h4 _))) | go_values | go_skip | go_guarded | go_step | go_upon | go_back | dsimp only))
        go_roundw
        case rel => exact ⟨k + 1, us ++ [_], _, by go_num, hlt, HZ2.out, HI2.out, by simpa using h4⟩
        case measure => simp [intOf]; omega
      · obtain rfl : k = l.length := by omega
        have hi1 : ¬ ((l.length : Nat) : Int) < l.length := by omega
        have hLl : Ls.length = l.length := by rw [HLS.out, List.length_map]
        have hfull : Ls.take l.length = Ls := by rw [← hLl, List.take_length]
        rw [hfull] at his
        obtain ⟨a7, p7, hv7, hp71, hp72⟩ := own_shape h2.rowG
        subst hv7
        have hstR : Stable (Both (RdB k4 (k4 + 1) kw kx 0 .nilIface) (Both (WrT kx b ef x0) R)) := HR1.out
        have hst2 : Stable (Both (RowG tStr 1 (.slice a7 us.length p7) us.length us) (Both Z (Both (StoreT b S1) (Both (RdB k4 (k4 + 1) kw kx 0 .nilIface) (Both (WrT kx b ef x0) R))))) := (RowG.stable _ _ _ _ _).both (hZ.both ((StoreT.stable _ _).both hstR))
        have h3 := h2.newCell hst2 #[.func (.func 81) #[.pointer (some ⟨kx, 0, none⟩)] #[]] tPut
        have hrow := RdRow.of_own h3.drop.rowG
        have h4 := h3.perm (show _ = Both (Both Z (StoreT b S1)) (Both (RowG tStr 1 (.slice a7 us.length p7) us.length us) (Both (RdC k4 (k4 + 1) kw wr.heap.size kx 0 .nilIface) (Both (WrT kx b ef x0) R))) by unfold RdC RdB; ac_rfl)
        have hris : ∀ L ∈ Ls, RisesL L := fun L hL => by
          rw [HLS.out] at hL
          obtain ⟨z, _, rfl⟩ := List.mem_map.1 hL
          exact risB_rises _ _
        have hsum : Ls.flatten.length ≤ 274877906944 := by
          have := stands_sum HG1.out l HL1.out
          rw [← HLS.out] at this
          omega
        have hun := SUnion_atX his (hZ.both (StoreT.stable b S1)) ((RowG.stable tStr 1 (.slice a7 us.length p7) us.length us).both ((RdC.stable k4 (k4 + 1) kw wr.heap.size kx 0 .nilIface).both ((WrT.stable kx b ef x0).both HR.out))) h4 hrow hris (by omega) hsum
        have w0 := cell_at h2.drop.drop.drop.toR.drop.toR.drop.cell.1 0
        have wl := lt_of_heap h2.drop.drop.drop.toR.drop.toR.drop.cell.1
        simp only [List.getElem?_toArray, List.getElem?_cons_zero] at w0
        have HUN := Lib.hid hun
        have HZ := Lib.hid hZ
        have hmf : ∀ (fn : Fn) (first cap : Array Value) (w : World), (Instr.makeFunc fn first cap).run Tryz.prog w = .ok (.func fn first cap) w := fun _ _ _ _ => rfl
        clear hLl hfull his hstR hst2 h2 h3 h4 hrow hris hsum hun hZ
        generalize hkp : wr.heap.size = kp at *
        (repeat' (first | go_values | go_skip | go_guarded | go_step | go_upon | go_back | dsimp only))
        refine HUN.out.mono ?_
        rintro e w3 ⟨kl, vl, rfl, hseq, h5⟩
        have hAll := All_callsX (fun _ _ => rfl) hseq w3
        have HAL := Lib.hid hAll
        have HSQ := Lib.hid hseq
        have HZ3 := Lib.hid ((UniT.stable kl vl us (HZ.out.both (StoreT.stable b S1))).both ((RowG.stable tStr 1 (.slice a7 us.length p7) us.length us).both ((RdC.stable k4 (k4 + 1) kw kp kx 0 .nilIface).both ((WrT.stable kx b ef x0).both HR.out))))
        have H5 := Lib.hid h5
        clear hAll hseq h5 HUN w0 wl
        (repeat' (first | go_values | go_skip | go_guarded | go_step | go_upon | go_back | dsimp only))
        refine HAL.out.mono ?_
        rintro e w4 ⟨rfl, hb4⟩
        (repeat' (first | go_values | go_skip | go_guarded | go_step | go_upon | go_back | dsimp only))
        obtain ⟨UZ, hUZ⟩ : ∃ UZ : Thing, UZ = Both (CellT kl #[vl] tStrs) (Both (RowG tStr 1 vl us.length us) Z) := ⟨_, rfl⟩
        have hUZs : Stable UZ := by rw [hUZ]; exact (CellT.stable _ _ _).both ((RowG.stable _ _ _ _ _).both HZ.out)
        have h6 := (H5.out.mono HZ3.out hb4).perm (show _ = Both (RowG tStr 1 (.slice a7 us.length p7) us.length us) (Both (Both (StoreT b S1) (Both (WrT kx b ef x0) (Both (RdC k4 (k4 + 1) kw kp kx 0 .nilIface) UZ))) R) by rw [hUZ]; unfold UniT; ac_rfl)
        have h7 := h6.drop.noughtM ((((StoreT.stable _ _).both ((WrT.stable _ _ _ _).both ((RdC.stable _ _ _ _ _ _ _).both hUZs)))).both HR.out)
        obtain ⟨I, hI⟩ : ∃ I : List (List UInt8) → Thing, I = fun pre => WithT (Both (StoreT b (putsP S1 x0 pre).1) (Both (WrT kx b ef (putsP S1 x0 pre).2.1) (Both (RdC k4 (k4 + 1) kw kp kx 0 .nilIface) UZ))) ((putsP S1 x0 pre).2.2 = 0 ∧ PutK S (putsP S1 x0 pre).1 (putsP S1 x0 pre).2.1 (createP S).2.1) := ⟨_, rfl⟩
        have hIs : ∀ pre, Stable (I pre) := fun pre => by rw [hI]; exact WithT.stable ((StoreT.stable _ _).both ((WrT.stable _ _ _ _).both ((RdC.stable _ _ _ _ _ _ _).both hUZs))) _
        have hI0 : I [] = Both (Both (WrT kx b ef x0) (RdC k4 (k4 + 1) kw kp kx 0 .nilIface)) (UniT kl vl us (Both Z (StoreT b S1))) := by
          rw [hI]
          dsimp only
          rw [WithT.of ⟨rfl, HK1.out⟩, hUZ]
          show Both (StoreT b S1) (Both (WrT kx b ef x0) _) = _
          unfold UniT
          ac_rfl
        have h8 : At W w4 (Both (I []) (Both Nought R)) := h7.perm (show _ = Both (I []) (Both Nought R) by rw [hI0, hUZ]; unfold UniT; ac_rfl)
        obtain ⟨Ix, hIx⟩ : ∃ Ix : Code → List (List UInt8) → Thing, Ix = fun c pre => WithT (Both (StoreT b (putsP S1 x0 pre).1) (Both (WrT kx b ef (putsP S1 x0 pre).2.1) (Both (RdC k4 (k4 + 1) kw kp kx 0 (errV ef (putsP S1 x0 pre).2.2)) UZ))) (c = Code.ret ∧ PutX S (putsP S1 x0 pre).1 (putsP S1 x0 pre).2.1 (createP S).2.1 (putsP S1 x0 pre).2.2) := ⟨_, rfl⟩
        have hIxs : ∀ c pre, Stable (Ix c pre) := fun c pre => by rw [hIx]; exact WithT.stable ((StoreT.stable _ _).both ((WrT.stable _ _ _ _).both ((RdC.stable _ _ _ _ _ _ _).both hUZs))) _
        clear h6 h7 hb4 HAL H5 HZ3
        generalize ha0 : Act.mk _ _ = a0
        refine range_atX (L := cu.unionL Ls) HSQ.out (by rw [← ha0]; rfl) (fun _ _ => rfl) (fun _ => rfl) HR.out I hIs ⟨_, (WrT.stable kx b ef x0).both (RdC.stable k4 (k4 + 1) kw kp kx 0 .nilIface), hI0⟩ Ix hIxs
          (fun p x a X => a = { tmps := (foldTmps #[49] (encS x) a0.tmps).setIfInBounds 13 (.string ⟨x.toArray⟩), defers := [] } ∧ X = I p) h8 ?assign ?body ?done ?stop
        case assign =>
          intro q pre x w5 Ψ hp hΨ h9
          (subst ha0; simp only [fold_one, encS, List.setIfInBounds_toArray, List.set_cons_zero, List.set_cons_succ])
          (repeat' (first | go_values | gi_guarded | gi_step | gi_upon | gi_back | dsimp only))
          exact ⟨_, hIs _, ⟨trivial, rfl⟩, h9⟩
        case body =>
          rintro q pre x w5 R2 a2 X hp hR2 hX ⟨rfl, rfl⟩ h9
          have hxl : x.length ≤ 255 := by
            have e : cu.unionL Ls = allP S1 l := by unfold cu.unionL allP; rw [HLS.out]
            rw [e] at hp
            exact fits_mem.1 (allP_fits S1 l) x (hp.subset (by simp))
          rw [hI] at h9
          obtain ⟨⟨hz, hpk⟩, h9⟩ := h9.word
          obtain ⟨P, hP⟩ : ∃ P, P = putsP S1 x0 pre := ⟨_, rfl⟩
          have hsn := puts_snoc pre S1 x0 x
          rw [← hP] at hz hpk h9 hsn
          rw [if_pos hz] at hsn
          have hst9 : Stable (Both (Both (StoreT b P.1) (Both (WrT kx b ef P.2.1) (Both (RdC k4 (k4 + 1) kw kp kx 0 .nilIface) UZ))) (Both Nought R2)) := ((StoreT.stable _ _).both ((WrT.stable _ _ _ _).both ((RdC.stable _ _ _ _ _ _ _).both hUZs))).both (Stable.nought.both hR2)
          have h10 := h9.newCell hst9 #[.string ⟨x.toArray⟩] tSx
          have hrw : RdRow (w5.alloc (.cells #[.string ⟨x.toArray⟩] tSx)) (.slice (some ⟨w5.heap.size, 0, none⟩) 1 1) [x].length 1 (strs [x]) := rd_newM w5 #[.string ⟨x.toArray⟩] tSx 1 rfl (by unfold maxLen; decide)
          have hfl := frame_wsum (L := [x]) (fits_cons.2 ⟨hxl, rfl⟩)
          have hwx : wsum [x] = x.length + 2 := by simp [wsum]
          have hpu := Put_at (ss := [x]) goodI (h10.perm (show _ = Both (WrT kx b ef P.2.1) (Both (StoreT b P.1) (Both (CellT w5.heap.size #[.string ⟨x.toArray⟩] tSx) (Both (RdC k4 (k4 + 1) kw kp kx 0 .nilIface) (Both UZ (Both Nought R2))))) by ac_rfl)) ((CellT.stable _ _ _).both ((RdC.stable _ _ _ _ _ _ _).both (hUZs.both (Stable.nought.both hR2)))) HF.out hpk.good (by rw [hpk.block]; decide) (by rw [hpk.block]; decide) hpk.run64 hrw (by have := hpk.buf; omega)
          have h11 := h9.perm (show _ = Both (CellT kp #[.func (.func 81) #[.pointer (some ⟨kx, 0, none⟩)] #[]] tPut) (Both (CellT k4 #[.int .i64 0] tInt) (Both (CellT (k4 + 1) #[.nilIface] tErr) (Both (CellT kw #[.pointer (some ⟨kx, 0, none⟩)] tPW) (Both (StoreT b P.1) (Both (WrT kx b ef P.2.1) (Both UZ (Both Nought R2))))))) by unfold RdC; ac_rfl)
          have p0 := cell_at h11.cell.1 0
          simp only [List.getElem?_toArray, List.getElem?_cons_zero] at p0
          obtain ⟨Q, hQ⟩ : ∃ Q, Q = putP P.1 P.2.1 [x] := ⟨_, rfl⟩
          have hgo := hpk.put (a := x) hxl
          have hno := hpk.bad (a := x) hxl
          rw [← hQ] at hpu hsn hgo hno
          have HSN := Lib.hid hsn
          have HGO := Lib.hid hgo
          have HNO := Lib.hid hno
          have HI := Lib.hid hI
          have HIX := Lib.hid hIx
          (subst ha0; simp only [fold_one, encS, List.setIfInBounds_toArray, List.set_cons_zero, List.set_cons_succ])
          clear h9 h10 h11 hrw hfl hwx hpk hz hst9 hsn hgo hno hI hIx hI0 hP hQ hp hxl hUZ h8
          by_cases hq : Q.2.2 = 0
          · rw [hq, errV_zero] at hpu
            have HPU := Lib.hid hpu
            have HQ := Lib.hid hq
            clear hpu hq
            (repeat' (first | go_values | gi_guarded | gi_step | gi_upon | gi_back | dsimp only))
            refine ⟨trivial, rfl, CallsIn.inRound q (callsIn_wide.2 (HPU.out.mono ?_))⟩
            rintro e w6 ⟨rfl, h12⟩
            have H12 := Lib.hid h12
            clear h12 HPU p0
            (repeat' (first | go_values | gi_guarded | gi_step | gi_upon | gi_back | dsimp only))
            show At W _ (Both (I (pre ++ [x])) (Both Nought R2))
            rw [HI.out]
            dsimp only
            rw [HSN.out]
            exact At.withW ((H12.out.perm (show _ = Both (CellT w5.heap.size #[.string ⟨x.toArray⟩] tSx) (Both (Both (StoreT b Q.1) (Both (WrT kx b ef Q.2.1) (Both (RdC k4 (k4 + 1) kw kp kx 0 .nilIface) UZ))) (Both Nought R2)) by ac_rfl)).drop) ⟨HQ.out, HGO.out HQ.out⟩
          · rw [errV_pos ef hq] at hpu
            have HPU := Lib.hid hpu
            have hep := errV_pos ef hq
            have HEP := Lib.hid hep
            have HQ := Lib.hid hq
            obtain ⟨ec, hec⟩ : ∃ ec, ec = ef Q.2.2 := ⟨_, rfl⟩
            rw [← hec] at HPU HEP
            clear hpu hq hep hec
            have neqi := run_neq_iface_nil2 ⟨ec.1, ec.2, none⟩
            (repeat' (first | go_values | gi_guarded | gi_step | gi_upon | gi_back | dsimp only))
            refine ⟨trivial, rfl, CallsIn.inRound q (callsIn_wide.2 (HPU.out.mono ?_))⟩
            rintro e w6 ⟨rfl, h12⟩
            have h13 := h12.perm (show _ = Both (CellT k4 #[.int .i64 0] tInt) (Both (CellT (k4 + 1) #[.nilIface] tErr) (Both (CellT w5.heap.size #[.string ⟨x.toArray⟩] tSx) (Both (Both (CellT kw #[.pointer (some ⟨kx, 0, none⟩)] tPW) (CellT kp #[.func (.func 81) #[.pointer (some ⟨kx, 0, none⟩)] #[]] tPut)) (Both (StoreT b Q.1) (Both (WrT kx b ef Q.2.1) (Both UZ (Both Nought R2))))))) by unfold RdC; ac_rfl)
            have hstA : Stable (Both (CellT w5.heap.size #[.string ⟨x.toArray⟩] tSx) (Both (Both (CellT kw #[.pointer (some ⟨kx, 0, none⟩)] tPW) (CellT kp #[.func (.func 81) #[.pointer (some ⟨kx, 0, none⟩)] #[]] tPut)) (Both (StoreT b Q.1) (Both (WrT kx b ef Q.2.1) (Both UZ (Both Nought R2)))))) := (CellT.stable _ _ _).both (((CellT.stable _ _ _).both (CellT.stable _ _ _)).both ((StoreT.stable _ _).both ((WrT.stable _ _ _ _).both (hUZs.both (Stable.nought.both hR2)))))
            have h14 : At W _ (Both (CellT k4 #[.int .i64 0] tInt) (Both (CellT (k4 + 1) #[.nilIface] tErr) _)) := h13.setCell ((CellT.stable _ _ _).both hstA) 0 (.int .i64 0)
            have h15 := h14.perm (show _ = Both (CellT (k4 + 1) #[.nilIface] tErr) (Both (CellT k4 #[.int .i64 0] tInt) (Both (CellT w5.heap.size #[.string ⟨x.toArray⟩] tSx) (Both (Both (CellT kw #[.pointer (some ⟨kx, 0, none⟩)] tPW) (CellT kp #[.func (.func 81) #[.pointer (some ⟨kx, 0, none⟩)] #[]] tPut)) (Both (StoreT b Q.1) (Both (WrT kx b ef Q.2.1) (Both UZ (Both Nought R2))))))) by ac_rfl)
            have h16 : At W _ (Both (CellT (k4 + 1) #[.iface tES (.pointer (some ⟨ec.1, ec.2, none⟩))] tErr) (Both (CellT k4 #[.int .i64 0] tInt) _)) := h15.setCell ((CellT.stable _ _ _).both hstA) 0 (.iface tES (.pointer (some ⟨ec.1, ec.2, none⟩)))
            have d4 := cell_at h13.cell.1 0
            have z4 := thaw_at h13.cell.1
            have l4 := lt_of_heap h13.cell.1
            have d5 := cell_at h15.cell.1 0
            have z5 := thaw_at h15.cell.1
            simp only [List.getElem?_toArray, List.getElem?_cons_zero] at d4 d5
            have H16 := Lib.hid h16
            clear h12 h13 hstA h14 h15 h16 HPU p0
            (repeat' (first | go_values | gi_guarded | gi_step | gi_upon | gi_back | dsimp only))
            show At W _ (Both (Ix Code.ret (pre ++ [x])) (Both Nought R2))
            rw [HIX.out]
            dsimp only
            rw [HSN.out]
            refine At.withW ?_ ⟨rfl, HNO.out HQ.out⟩
            rw [HEP.out]
            exact (H16.out.perm (show _ = Both (CellT w5.heap.size #[.string ⟨x.toArray⟩] tSx) (Both (Both (StoreT b Q.1) (Both (WrT kx b ef Q.2.1) (Both (RdC k4 (k4 + 1) kw kp kx 0 (.iface tES (.pointer (some ⟨ec.1, ec.2, none⟩)))) UZ))) (Both Nought R2)) by unfold RdC; ac_rfl)).drop
        case done =>
          intro D w5 h9
          rw [hI] at h9
          obtain ⟨⟨hz, hpk⟩, h9⟩ := h9.word
          have e : cu.unionL Ls = allP S l := by rw [← HALL.out]; unfold cu.unionL allP; rw [HLS.out]
          rw [e] at h9 hz hpk
          obtain ⟨P, hP⟩ : ∃ P, P = putsP S1 x0 (allP S l) := ⟨_, rfl⟩
          rw [← hP] at h9 hz hpk
          have hcl := Close_at goodI ((h9.perm (show _ = Both Nought (Both (WrT kx b ef P.2.1) (Both (StoreT b P.1) (Both (RdC k4 (k4 + 1) kw kp kx 0 .nilIface) (Both UZ (Both (ObjT D (.deferred (some []))) R))))) by ac_rfl)).drop) ((RdC.stable _ _ _ _ _ _ _).both (hUZs.both ((ObjT.stable _ _).both HR.out))) HF.out hpk.good hpk.run64 (by have := hpk.buf; omega)
          have h11 := h9.perm (show _ = Both (CellT kw #[.pointer (some ⟨kx, 0, none⟩)] tPW) (Both (CellT k4 #[.int .i64 0] tInt) (Both (CellT (k4 + 1) #[.nilIface] tErr) (Both (CellT kp #[.func (.func 81) #[.pointer (some ⟨kx, 0, none⟩)] #[]] tPut) (Both (StoreT b P.1) (Both (WrT kx b ef P.2.1) (Both UZ (Both Nought (Both (ObjT D (.deferred (some []))) R)))))))) by unfold RdC; ac_rfl)
          have p0 := cell_at h11.cell.1 0
          simp only [List.getElem?_toArray, List.getElem?_cons_zero] at p0
          obtain ⟨Q, hQ⟩ : ∃ Q, Q = closeP P.1 P.2.1 := ⟨_, rfl⟩
          have hno := hpk.close
          have hcz := close_zero P.1 P.2.1
          rw [← hQ] at hcl hno hcz
          have HPE := Lib.hid (show putsP (createP S).1 ⟨(createP S).2.1, 512, [], 0⟩ (allP S l) = P by rw [← HS1.out, ← HX0.out]; exact hP.symm)
          have HQE := Lib.hid hQ.symm
          have HPZ := Lib.hid hz
          subst ha0
          clear h8 hI0 hP hQ e h9 h11 hz hpk
          by_cases hq : Q.2.2.2 = 0
          · have hgood := round_good (L := allP S l) HC.out HPE.out HPZ.out HQE.out hq
            rw [hq, errV_zero] at hcl
            have HCL := Lib.hid hcl
            have HGO := Lib.hid hgood
            clear hcl hno hcz hq hgood
            (repeat' (first | go_values | go_skip | go_guarded | go_step | go_upon | go_back | dsimp only))
            refine HCL.out.mono ?_
            rintro e w6 ⟨rfl, h12⟩
            have h13 := h12.perm (show _ = Both (CellT k4 #[.int .i64 0] tInt) (Both (CellT (k4 + 1) #[.nilIface] tErr) (Both (Both (CellT kw #[.pointer (some ⟨kx, 0, none⟩)] tPW) (CellT kp #[.func (.func 81) #[.pointer (some ⟨kx, 0, none⟩)] #[]] tPut)) (Both (StoreT b Q.1) (Both (WrT kx b ef Q.2.1) (Both UZ (Both (ObjT D (.deferred (some []))) R)))))) by unfold RdC; ac_rfl)
            have hstA : Stable (Both (Both (CellT kw #[.pointer (some ⟨kx, 0, none⟩)] tPW) (CellT kp #[.func (.func 81) #[.pointer (some ⟨kx, 0, none⟩)] #[]] tPut)) (Both (StoreT b Q.1) (Both (WrT kx b ef Q.2.1) (Both UZ (Both (ObjT D (.deferred (some []))) R))))) := (((CellT.stable _ _ _).both (CellT.stable _ _ _)).both ((StoreT.stable _ _).both ((WrT.stable _ _ _ _).both (hUZs.both ((ObjT.stable _ _).both HR.out)))))
            have h14 : At W _ (Both (CellT k4 #[.int .i64 Q.2.2.1] tInt) (Both (CellT (k4 + 1) #[.nilIface] tErr) _)) := h13.setCell ((CellT.stable _ _ _).both hstA) 0 (.int .i64 Q.2.2.1)
            have h15 := h14.perm (show _ = Both (CellT (k4 + 1) #[.nilIface] tErr) (Both (CellT k4 #[.int .i64 Q.2.2.1] tInt) (Both (Both (CellT kw #[.pointer (some ⟨kx, 0, none⟩)] tPW) (CellT kp #[.func (.func 81) #[.pointer (some ⟨kx, 0, none⟩)] #[]] tPut)) (Both (StoreT b Q.1) (Both (WrT kx b ef Q.2.1) (Both UZ (Both (ObjT D (.deferred (some []))) R)))))) by ac_rfl)
            have h16 : At W _ (Both (CellT (k4 + 1) #[.nilIface] tErr) (Both (CellT k4 #[.int .i64 Q.2.2.1] tInt) _)) := h15.setCell ((CellT.stable _ _ _).both hstA) 0 (.nilIface)
            have d4 := cell_at h13.cell.1 0
            have z4 := thaw_at h13.cell.1
            have l4 := lt_of_heap h13.cell.1
            have d5 := cell_at h15.cell.1 0
            have z5 := thaw_at h15.cell.1
            simp only [List.getElem?_toArray, List.getElem?_cons_zero] at d4 d5
            have H16 := Lib.hid h16
            clear h12 h13 hstA h14 h15 h16 HCL p0
            (repeat' (first | go_values | go_skip | go_guarded | go_step | go_upon | go_back | dsimp only))
            show LeavesInM _ _ _ _ _ _ _ _ _
            refine leaveM (H16.out.perm (show _ = Both (ObjT D (.deferred (some []))) (Both (WrT kx b ef Q.2.1) (Both (StoreT b Q.1) (Both (RdC k4 (k4 + 1) kw kp kx Q.2.2.1 .nilIface) (Both UZ R)))) by unfold RdC; ac_rfl)) ((WrT.stable _ _ _ _).both ((StoreT.stable _ _).both ((RdC.stable _ _ _ _ _ _ _).both (hUZs.both HR.out)))) fun w7 h17 _ => ?_
            have h18 := h17.perm (show _ = Both (CellT k4 #[.int .i64 Q.2.2.1] tInt) (Both (CellT (k4 + 1) #[.nilIface] tErr) (Both (CellT kw #[.pointer (some ⟨kx, 0, none⟩)] tPW) (Both (CellT kp #[.func (.func 81) #[.pointer (some ⟨kx, 0, none⟩)] #[]] tPut) (Both (WrT kx b ef Q.2.1) (Both UZ (Both (StoreT b Q.1) R)))))) by unfold RdC; ac_rfl)
            have r4 := cell_at h18.cell.1 0
            have r5 := cell_at h18.drop.cell.1 0
            have l5 := lt_of_heap h18.drop.cell.1
            simp only [List.getElem?_toArray, List.getElem?_cons_zero] at r4 r5
            refine leavesM_fn (f := 96) (args := #[.pointer (some ⟨k4 + 1, 0, none⟩), .pointer (some ⟨kw, 0, none⟩)]) (by simp [go_sem]) ?_
            refine (mround1_nilD r5 l5).mono ?_
            rintro e u' w8 ⟨rfl, rfl, rfl⟩
            refine ⟨rfl, ⟨_, rfl⟩, ?_⟩
            refine leave0 (v := .tuple #[.int .i64 Q.2.2.1, .nilIface]) ?_ ?_
            · simp [results, Tryz.results61, go_sem, r4, r5]
            · rw [HGO.out]
              dsimp only
              exact ⟨by rw [errV_zero], h18.drop.drop.drop.drop.drop.drop⟩
          · have hbad := round_bad2 (L := allP S l) HC.out HPE.out HPZ.out HQE.out hq
            have hep := errV_pos ef hq
            rw [hcz hq, hep] at hcl
            have hX := hno hq
            have HX := Lib.hid hX
            have HCL := Lib.hid hcl
            have HBAD := Lib.hid hbad
            have HEP := Lib.hid hep
            have neqi := run_neq_iface_nil2 ⟨(ef Q.2.2.2).1, (ef Q.2.2.2).2, none⟩
            clear hcl hno hcz hq hbad hep hX
            (repeat' (first | go_values | go_skip | go_guarded | go_step | go_upon | go_back | dsimp only))
            refine HCL.out.mono ?_
            rintro e w6 ⟨rfl, h12⟩
            have h13 := h12.perm (show _ = Both (CellT k4 #[.int .i64 0] tInt) (Both (CellT (k4 + 1) #[.nilIface] tErr) (Both (Both (CellT kw #[.pointer (some ⟨kx, 0, none⟩)] tPW) (CellT kp #[.func (.func 81) #[.pointer (some ⟨kx, 0, none⟩)] #[]] tPut)) (Both (StoreT b Q.1) (Both (WrT kx b ef Q.2.1) (Both UZ (Both (ObjT D (.deferred (some []))) R)))))) by unfold RdC; ac_rfl)
            have hstA : Stable (Both (Both (CellT kw #[.pointer (some ⟨kx, 0, none⟩)] tPW) (CellT kp #[.func (.func 81) #[.pointer (some ⟨kx, 0, none⟩)] #[]] tPut)) (Both (StoreT b Q.1) (Both (WrT kx b ef Q.2.1) (Both UZ (Both (ObjT D (.deferred (some []))) R))))) := (((CellT.stable _ _ _).both (CellT.stable _ _ _)).both ((StoreT.stable _ _).both ((WrT.stable _ _ _ _).both (hUZs.both ((ObjT.stable _ _).both HR.out)))))
            have h14 : At W _ (Both (CellT k4 #[.int .i64 0] tInt) (Both (CellT (k4 + 1) #[.nilIface] tErr) _)) := h13.setCell ((CellT.stable _ _ _).both hstA) 0 (.int .i64 0)
            have h15 := h14.perm (show _ = Both (CellT (k4 + 1) #[.nilIface] tErr) (Both (CellT k4 #[.int .i64 0] tInt) (Both (Both (CellT kw #[.pointer (some ⟨kx, 0, none⟩)] tPW) (CellT kp #[.func (.func 81) #[.pointer (some ⟨kx, 0, none⟩)] #[]] tPut)) (Both (StoreT b Q.1) (Both (WrT kx b ef Q.2.1) (Both UZ (Both (ObjT D (.deferred (some []))) R)))))) by ac_rfl)
            have h16 : At W _ (Both (CellT (k4 + 1) #[.iface tES (.pointer (some ⟨(ef Q.2.2.2).1, (ef Q.2.2.2).2, none⟩))] tErr) (Both (CellT k4 #[.int .i64 0] tInt) _)) := h15.setCell ((CellT.stable _ _ _).both hstA) 0 (.iface tES (.pointer (some ⟨(ef Q.2.2.2).1, (ef Q.2.2.2).2, none⟩)))
            have d4 := cell_at h13.cell.1 0
            have z4 := thaw_at h13.cell.1
            have l4 := lt_of_heap h13.cell.1
            have d5 := cell_at h15.cell.1 0
            have z5 := thaw_at h15.cell.1
            simp only [List.getElem?_toArray, List.getElem?_cons_zero] at d4 d5
            have H16 := Lib.hid h16
            clear h12 h13 hstA h14 h15 h16 HCL p0
            (repeat' (first | go_values | go_skip | go_guarded | go_step | go_upon | go_back | dsimp only))
            show LeavesInM _ _ _ _ _ _ _ _ _
            refine leaveM (H16.out.perm (show _ = Both (ObjT D (.deferred (some []))) (Both (WrT kx b ef Q.2.1) (Both (StoreT b Q.1) (Both (RdC k4 (k4 + 1) kw kp kx 0 (.iface tES (.pointer (some ⟨(ef Q.2.2.2).1, (ef Q.2.2.2).2, none⟩)))) (Both UZ R)))) by unfold RdC; ac_rfl)) ((WrT.stable _ _ _ _).both ((StoreT.stable _ _).both ((RdC.stable _ _ _ _ _ _ _).both (hUZs.both HR.out)))) fun w7 h10 _ => ?_
            have hdr := Drop_at h10 ((RdC.stable _ _ _ _ _ _ _).both (hUZs.both HR.out)) HF.out HX.out.good.le HX.out.run64 HX.out.ok
            have h11 := h10.perm (show _ = Both (CellT k4 #[.int .i64 0] tInt) (Both (CellT (k4 + 1) #[.iface tES (.pointer (some ⟨(ef Q.2.2.2).1, (ef Q.2.2.2).2, none⟩))] tErr) (Both (CellT kw #[.pointer (some ⟨kx, 0, none⟩)] tPW) (Both (CellT kp #[.func (.func 81) #[.pointer (some ⟨kx, 0, none⟩)] #[]] tPut) (Both (WrT kx b ef Q.2.1) (Both (StoreT b Q.1) (Both UZ R)))))) by unfold RdC; ac_rfl)
            have d5 := cell_at h11.drop.cell.1 0
            have l5 := lt_of_heap h11.drop.cell.1
            have dw := cell_at h11.drop.drop.cell.1 0
            have lw := lt_of_heap h11.drop.drop.cell.1
            simp only [List.getElem?_toArray, List.getElem?_cons_zero] at d5 dw
            refine leavesM_fn (f := 96) (args := #[.pointer (some ⟨k4 + 1, 0, none⟩), .pointer (some ⟨kw, 0, none⟩)]) (by simp [go_sem]) ?_
            refine (mround1_liveD d5 dw l5 lw hdr).mono ?_
            rintro e u' w7 ⟨rfl, rfl, h12⟩
            refine ⟨rfl, ⟨_, rfl⟩, ?_⟩
            have h13 := h12.perm (show _ = Both (CellT k4 #[.int .i64 0] tInt) (Both (CellT (k4 + 1) #[.iface tES (.pointer (some ⟨(ef Q.2.2.2).1, (ef Q.2.2.2).2, none⟩))] tErr) (Both (CellT kw #[.pointer (some ⟨kx, 0, none⟩)] tPW) (Both (CellT kp #[.func (.func 81) #[.pointer (some ⟨kx, 0, none⟩)] #[]] tPut) (Both (WrT kx b ef (dropP Q.1 Q.2.1).2) (Both UZ (Both (StoreT b (dropP Q.1 Q.2.1).1) R)))))) by unfold RdC; ac_rfl)
            have r4 := cell_at h13.cell.1 0
            have r5 := cell_at h13.drop.cell.1 0
            simp only [List.getElem?_toArray, List.getElem?_cons_zero] at r4 r5
            refine leave0 (v := .tuple #[.int .i64 0, .iface tES (.pointer (some ⟨(ef Q.2.2.2).1, (ef Q.2.2.2).2, none⟩))]) ?_ ?_
            · simp [results, Tryz.results61, go_sem, r4, r5]
            · rw [HBAD.out]
              dsimp only
              rw [HEP.out]
              exact ⟨rfl, h13.drop.drop.drop.drop.drop.drop⟩
        case stop =>
          intro D c pre w5 hp h9
          rw [hIx] at h9
          dsimp only at h9
          obtain ⟨⟨hc, hX⟩, h10⟩ := h9.word
          clear h9
          subst hc
          have h9 := h10
          clear h10
          have e : cu.unionL Ls = allP S1 l := by unfold cu.unionL allP; rw [HLS.out]
          obtain ⟨t, ht⟩ := hp
          have hall2 : putsP S1 x0 (allP S l) = putsP S1 x0 pre := by rw [← HALL.out, ← e, ← ht]; exact puts_stop pre t S1 x0 hX.ne
          obtain ⟨P, hP⟩ : ∃ P, P = putsP S1 x0 pre := ⟨_, rfl⟩
          rw [← hP] at h9 hX hall2
          have hbad := round_bad1 (L := allP S l) HC.out (P := P) (by rw [← HS1.out, ← HX0.out]; exact hall2) hX.ne
          have hep := errV_pos ef hX.ne
          rw [hep] at h9
          subst ha0
          clear h8 hI0 hP ht e hall2
          (repeat' (first | go_values | go_skip | go_guarded | go_step | go_upon | go_back | dsimp only))
          show LeavesInM _ _ _ _ _ _ _ _ _
          have hstB : Stable (Both (WrT kx b ef P.2.1) (Both (StoreT b P.1) (Both (RdC k4 (k4 + 1) kw kp kx 0 (.iface tES (.pointer (some ⟨(ef P.2.2).1, (ef P.2.2).2, none⟩)))) (Both UZ R)))) := (WrT.stable _ _ _ _).both ((StoreT.stable _ _).both ((RdC.stable _ _ _ _ _ _ _).both (hUZs.both HR.out)))
          refine leaveM ((h9.perm (show _ = Both Nought (Both (ObjT D (.deferred (some []))) (Both (WrT kx b ef P.2.1) (Both (StoreT b P.1) (Both (RdC k4 (k4 + 1) kw kp kx 0 (.iface tES (.pointer (some ⟨(ef P.2.2).1, (ef P.2.2).2, none⟩)))) (Both UZ R))))) by ac_rfl)).drop) hstB fun w6 h10 _ => ?_
          have hdr := Drop_at h10 ((RdC.stable _ _ _ _ _ _ _).both (hUZs.both HR.out)) HF.out hX.good.le hX.run64 hX.ok
          have h11 := h10.perm (show _ = Both (CellT k4 #[.int .i64 0] tInt) (Both (CellT (k4 + 1) #[.iface tES (.pointer (some ⟨(ef P.2.2).1, (ef P.2.2).2, none⟩))] tErr) (Both (CellT kw #[.pointer (some ⟨kx, 0, none⟩)] tPW) (Both (CellT kp #[.func (.func 81) #[.pointer (some ⟨kx, 0, none⟩)] #[]] tPut) (Both (WrT kx b ef P.2.1) (Both (StoreT b P.1) (Both UZ R)))))) by unfold RdC; ac_rfl)
          have d5 := cell_at h11.drop.cell.1 0
          have l5 := lt_of_heap h11.drop.cell.1
          have dw := cell_at h11.drop.drop.cell.1 0
          have lw := lt_of_heap h11.drop.drop.cell.1
          simp only [List.getElem?_toArray, List.getElem?_cons_zero] at d5 dw
          refine leavesM_fn (f := 96) (args := #[.pointer (some ⟨k4 + 1, 0, none⟩), .pointer (some ⟨kw, 0, none⟩)]) (by simp [go_sem]) ?_
          refine (mround1_liveD d5 dw l5 lw hdr).mono ?_
          rintro e u' w7 ⟨rfl, rfl, h12⟩
          refine ⟨rfl, ⟨_, rfl⟩, ?_⟩
          have h13 := h12.perm (show _ = Both (CellT k4 #[.int .i64 0] tInt) (Both (CellT (k4 + 1) #[.iface tES (.pointer (some ⟨(ef P.2.2).1, (ef P.2.2).2, none⟩))] tErr) (Both (CellT kw #[.pointer (some ⟨kx, 0, none⟩)] tPW) (Both (CellT kp #[.func (.func 81) #[.pointer (some ⟨kx, 0, none⟩)] #[]] tPut) (Both (WrT kx b ef (dropP P.1 P.2.1).2) (Both UZ (Both (StoreT b (dropP P.1 P.2.1).1) R)))))) by unfold RdC; ac_rfl)
          have r4 := cell_at h13.cell.1 0
          have r5 := cell_at h13.drop.cell.1 0
          simp only [List.getElem?_toArray, List.getElem?_cons_zero] at r4 r5
          refine leave0 (v := .tuple #[.int .i64 0, .iface tES (.pointer (some ⟨(ef P.2.2).1, (ef P.2.2).2, none⟩))]) ?_ ?_
          · simp [results, Tryz.results61, go_sem, r4, r5]
          · rw [hbad]
            dsimp only
            rw [hep]
            exact ⟨rfl, h13.drop.drop.drop.drop.drop.drop⟩
  · have hbad := round_bad0 hc (allP S l)
    have hop := Open_fail (H1.out.perm (show _ = Both (StoreT b S) (Both (CellT (k4 + 1) #[.nilIface] tErr) (Both (CellT k4 #[.int .i64 0] tInt) R)) by ac_rfl)) ((CellT.stable _ _ _).both ((CellT.stable _ _ _).both HR.out)) HF.out (n := 512) (by omega) hc
    have hep := errV_pos ef hc
    rw [hep] at hop
    have HOP := Lib.hid hop
    have HBAD := Lib.hid hbad
    have HEP := Lib.hid hep
    obtain ⟨ea, hea⟩ : ∃ ea : Addr, ea = ⟨(ef (createP S).2.2).1, (ef (createP S).2.2).2, none⟩ := ⟨_, rfl⟩
    rw [← hea] at HOP HEP
    have neqi := run_neq_iface_nil2 ea
    clear hop hbad hep hc hea
    refine HOP.out.mono ?_
    rintro e w1 ⟨rfl, h2⟩
    have hstk : Stable (Both (StoreT b (createP S).1) (Both (CellT (k4 + 1) #[.nilIface] tErr) (Both (CellT k4 #[.int .i64 0] tInt) R))) := (StoreT.stable _ _).both ((CellT.stable _ _ _).both ((CellT.stable _ _ _).both HR.out))
    have h3 := (h2.newCell hstk #[.pointer none] tPW).perm (show _ = Both (CellT (k4 + 1) #[.nilIface] tErr) (Both (CellT k4 #[.int .i64 0] tInt) (Both (CellT w1.heap.size #[.pointer none] tPW) (Both (StoreT b (createP S).1) R))) by ac_rfl)
    have hst3 : Stable (Both (CellT w1.heap.size #[.pointer none] tPW) (Both (StoreT b (createP S).1) R)) := (CellT.stable _ _ _).both ((StoreT.stable _ _).both HR.out)
    have h4 : At W _ (Both (CellT (k4 + 1) #[.iface tES (.pointer (some ea))] tErr) (Both (CellT k4 #[.int .i64 0] tInt) _)) := h3.setCell ((CellT.stable _ _ _).both hst3) 0 (.iface tES (.pointer (some ea)))
    clear e0 ez el i0 iz il
    have e0 := cell_at h3.cell.1 0
    have ez := thaw_at h3.cell.1
    have f0 := cell_at h4.cell.1 0
    have fz := thaw_at h4.cell.1
    have g0 := cell_at h4.drop.cell.1 0
    have gz := thaw_at h4.drop.cell.1
    have gl := lt_of_heap h4.drop.cell.1
    simp only [List.getElem?_toArray, List.getElem?_cons_zero] at e0 f0 g0
    have H4 := Lib.hid h4
    clear h2 hstk h3 hst3 h4 H1 HOP
    (repeat' (first | go_values | go_skip | go_guarded | go_step | go_upon | go_back | dsimp only))
    go_region
    (repeat' (first | go_values | go_skip | go_guarded | go_step | go_upon | go_back | dsimp only))
    show LeavesInM _ _ _ _ _ _ _ _ _
    have h5 : At W _ (Both (CellT k4 #[.int .i64 0] tInt) (Both (CellT (k4 + 1) #[.iface tES (.pointer (some ea))] tErr) _)) := (H4.out.perm (show _ = Both (CellT k4 #[.int .i64 0] tInt) (Both (CellT (k4 + 1) #[.iface tES (.pointer (some ea))] tErr) (Both (CellT w1.heap.size #[.pointer none] tPW) (Both (StoreT b (createP S).1) R))) by ac_rfl)).setCell ((CellT.stable _ _ _).both ((CellT.stable _ _ _).both ((StoreT.stable _ _).both HR.out))) 0 (.int .i64 0)
    have h6 : At W _ (Both (CellT (k4 + 1) #[.iface tES (.pointer (some ea))] tErr) (Both (CellT k4 #[.int .i64 0] tInt) _)) := (h5.perm (show _ = Both (CellT (k4 + 1) #[.iface tES (.pointer (some ea))] tErr) (Both (CellT k4 #[.int .i64 0] tInt) (Both (CellT w1.heap.size #[.pointer none] tPW) (Both (StoreT b (createP S).1) R))) by ac_rfl)).setCell ((CellT.stable _ _ _).both ((CellT.stable _ _ _).both ((StoreT.stable _ _).both HR.out))) 0 (.iface tES (.pointer (some ea)))
    have h7 := h6.drew ((CellT.stable _ _ _).both ((CellT.stable _ _ _).both ((CellT.stable _ _ _).both ((StoreT.stable _ _).both HR.out))))
    have r5 := cell_at h7.cell.1 0
    have r4 := cell_at h7.drop.cell.1 0
    simp only [List.getElem?_toArray, List.getElem?_cons_zero] at r4 r5
    refine leave0 (v := .tuple #[.int .i64 0, .iface tES (.pointer (some ea))]) ?_ ?_
    · simp [results, Tryz.results61, go_sem, r4, r5]
    · rw [HBAD.out]
      dsimp only
      rw [HEP.out]
      exact ⟨rfl, h7.drop.drop.drop⟩
end
end Go.Proofs.YtadokkffmekndaaGreatDoor
