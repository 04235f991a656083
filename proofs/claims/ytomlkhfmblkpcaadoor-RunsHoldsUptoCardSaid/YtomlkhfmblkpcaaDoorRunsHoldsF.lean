/- runs: the law's own 'holds', walked. -/
import Derived.Test.YtomlkhfmblkpcaaDoorRunsHeld
import Derived.Test.YtomlkhfmblkpcaaDoorRunsSame
import Derived.Test.YtomlkhfmblkpcaaDoorStructRows
import Derived.Test.YtomlkhfmblkpcaaDoorAppendAt
import Derived.Test.YtomlkhfmblkpcaaDoorRunsWakesW
import Derived.Test.YtomlkhfmblkpcaaDoorRunsEql
namespace Go.Proofs.YtomlkhfmblkpcaaDoor
open Go.RowKit

abbrev tHeld : TypeId := 52
abbrev cellsB (x : List UInt8 × Bool) : List Value := [.string ⟨x.1.toArray⟩, .bool x.2]
theorem cellsB_len : ∀ x, (cellsB x).length = 2 := fun _ => rfl
abbrev BookT (v : Value) (bk : List (List UInt8 × Bool)) : Thing := RowG tHeld 2 v bk.length (bk.flatMap cellsB)
theorem BookT.item {W w : World} {R : Thing} {v : Value} {bk : List (List UInt8 × Bool)} (h : At W w (Both (BookT v bk) R)) {i : Nat} (hi : i < bk.length) : ∃ g cap, v = .slice (some ⟨g, 0, none⟩) bk.length cap ∧ w.cell? ⟨g, i * 2, none⟩ = some (.string ⟨bk[i].1.toArray⟩) ∧ w.cell? ⟨g, i * 2 + 1, none⟩ = some (.bool bk[i].2) ∧ ∀ k, w.frozen? ⟨g, k, none⟩ = false := by
  have hr := h.rowG
  obtain ⟨g, cap, rfl, _, _, _⟩ := own_cut hr (by omega)
  have e : bk.getD i default = bk[i] := by rw [List.getD_eq_getElem?_getD, List.getElem?_eq_getElem hi]; rfl
  have hc : ∀ j, j < 2 → w.cell? ⟨g, i * 2 + j, none⟩ = (cellsB bk[i])[j]? := fun j hj => by
    rw [hr.cellAt _ (by omega), flatMap_get cellsB_len bk hi hj, e]
  exact ⟨g, cap, rfl, hc 0 (by omega), hc 1 (by omega), hr.frozenAt⟩
def usedB (bk : List (List UInt8 × Bool)) (k : Nat) : Nat := ((liveB (bk.take k) 1).map fun q => q.2.length).sum
def atB (bk : List (List UInt8 × Bool)) (k : Nat) : Nat := (liveB (bk.take k) 1).length
theorem usedB_succ {bk : List (List UInt8 × Bool)} {k : Nat} (h : k < bk.length) : usedB bk (k + 1) = usedB bk k + (if bk[k].2 then bk[k].1.length else 0) := by
  unfold usedB
  rw [take_live_succ h, List.map_append, List.sum_append]
  split <;> simp
theorem atB_succ {bk : List (List UInt8 × Bool)} {k : Nat} (h : k < bk.length) : atB bk (k + 1) = atB bk k + (if bk[k].2 then 1 else 0) := by
  unfold atB
  rw [take_live_succ h, List.length_append]
  split <;> simp
theorem BookR.usedAll {S : St} {bk : List (List UInt8 × Bool)} (h : BookR S bk) (hG : GoodS S) : usedB bk bk.length = S.used ∧ atB bk bk.length = S.keys.length := by
  unfold usedB atB
  rw [List.take_length, ← h.runs, hG.used]
  refine ⟨?_, by simp [St.keys]⟩
  rw [List.map_map]; rfl
theorem usedB_le (bk : List (List UInt8 × Bool)) (k : Nat) : usedB bk k ≤ usedB bk bk.length := by
  unfold usedB
  rw [List.take_length]
  conv => rhs; rw [← List.take_append_drop k bk, liveB_append, List.map_append, List.sum_append]
  omega
theorem atB_le (bk : List (List UInt8 × Bool)) (k : Nat) : atB bk k ≤ atB bk bk.length := by
  unfold atB
  rw [List.take_length]
  conv => rhs; rw [← List.take_append_drop k bk, liveB_append, List.length_append]
  omega
theorem BookR.key {S : St} {bk : List (List UInt8 × Bool)} (h : BookR S bk) (hG : GoodS S) {i : Nat} (hi : i < bk.length) (ht : bk[i].2 = true) : atB bk i < S.keys.length ∧ S.keys.getD (atB bk i) 0 = (i : Int) + 1 := by
  obtain ⟨p, h1, h2, _, _⟩ := h.at hG hi ht
  have h3 := (List.getElem?_eq_some_iff.1 h1).1
  unfold atB St.keys
  refine ⟨by rw [List.length_map]; exact h3, ?_⟩
  rw [List.getD_eq_getElem?_getD, List.getElem?_map, h1]
  show ((p.1 : Nat) : Int) = _
  omega

theorem liveB_len (l : List (List UInt8 × Bool)) (n : Nat) : (liveB l n).length ≤ l.length := by
  induction l generalizing n with
  | nil => simp [liveB]
  | cons a l ih =>
    unfold liveB
    have := ih (n + 1)
    split <;> simp <;> omega
theorem eql_iface_nil (a : Addr) (wz : World) : (binOp .eql tErr (.iface tES (.pointer (some a))) .nilIface).run Tryd.prog wz = .ok (.bool false) wz := run_eql_iface_nil wz _ _ Tryd.underlying26
theorem neq_iface_nil (a : Addr) (wz : World) : (binOp .neq tErr (.iface tES (.pointer (some a))) .nilIface).run Tryd.prog wz = .ok (.bool true) wz := run_neq_iface_nil wz _ _ Tryd.underlying26
theorem neq_same2 (a : Addr) (wz : World) : (binOp .neq tErr (.iface tES (.pointer (some a))) (.iface tES (.pointer (some a)))).run Tryd.prog wz = .ok (.bool false) wz := by
  obtain ⟨i, hi, hc⟩ := Option.map_eq_some_iff.1 tES_comp
  obtain ⟨j, hj, _⟩ := Option.map_eq_some_iff.1 tE_size
  simp only [binOp]
  simp [Op.equal, Op.maxDepth, run_equalIn_iface_ptr_same wz 9998 a Tryd.underlying26 Tryd.underlying122 hi hc hj]

set_option maxRecDepth 100000 in
set_option maxHeartbeats 12800000 in
theorem holds_calls {W w : World} {b : Nat} {S : St} {R : Thing} {vb : Value} {bk : List (List UInt8 × Bool)} {c : Int} (h : At W w (Both (StoreT b S) (Both (BookT vb bk) R))) (hR : Stable R) {ef : Nat → Nat × Nat} (hF : Fails W ef failsAll) (hG : GoodS S) (hB : BookR S bk) (hc : inI64 c) (hcap : (S.cap : Int) ≤ max 0 c) :
    Calls Tryd.prog 25 #[.pointer (some ⟨b, 0, none⟩), vb, .int .i64 c] w fun e w' => e = .returned (.bool true) ∧ At W w' (Both (StoreT b S) (Both (BookT vb bk) R)) := by
  have hlen : bk.length ≤ 16777216 := by rw [hB.len]; exact hG.sizes.2.2.2.1
  have hall := hB.usedAll hG
  have hsz := hG.sizes
  have hpk := hG.peak
  have H := Lib.hid h
  have HF := Lib.hid hF
  have HG := Lib.hid hG
  have HB := Lib.hid hB
  have HR := Lib.hid hR
  have hu : S.used ≤ 67108864 := by omega
  obtain ⟨aob, capb, hvb, _, _⟩ := own_shape h.drop.rowG
  subst hvb
  clear h hF hG hB hR
  go_enter Tryd.func25, Tryd.ntmps25
  (repeat' (first | (go_big_may; fail) | go_values | go_skip | go_guarded | go_step | go_upon | go_back | dsimp only))
  refine (Live_at H.out ((RowG.stable _ _ _ _ _).both HR.out)).mono ?_
  rintro e w1 ⟨vl, rfl, h1⟩
  obtain ⟨al, cl, hvl, hcl1, hcl2⟩ := own_shape h1.row
  subst hvl
  have H1 := Lib.hid h1
  clear h1 H
  have hst : Stable (Both (RowT (.slice al S.keys.length cl) S.keys) (Both (StoreT b S) (Both (BookT (.slice aob bk.length capb) bk) R))) := (RowT.stable _ _).both ((StoreT.stable _ _).both ((RowG.stable _ _ _ _ _).both HR.out))
  have HST := Lib.hid hst
  have HALL := Lib.hid hall
  have hkl : S.keys.length ≤ 16777216 := by
    have h2 := hall.2
    unfold atB at h2
    have h3 := liveB_len (bk.take bk.length) 1
    rw [List.length_take] at h3
    omega
  clear hst hall
  (repeat' (first | (go_big_may; fail) | go_values | go_skip | go_guarded | go_step | go_upon | go_back | dsimp only))
  go_loopw [7, 8, 19] (fun us a i wr => ∃ k : Nat, us = .int .i64 (usedB bk k) ∧ a = .int .i64 (atB bk k) ∧ i = .int .i64 k ∧ k ≤ bk.length ∧ At W wr (Both (RowT (.slice al S.keys.length cl) S.keys) (Both (StoreT b S) (Both (BookT (.slice aob bk.length capb) bk) R)))) (fun _ _ i _ => bk.length - (intOf i).toNat)
  case atStart => exact ⟨0, rfl, rfl, rfl, by omega, H1.out⟩
  case round =>
    rename World => wr
    obtain ⟨k, rfl, rfl, rfl, hk, hh⟩ := hrel
    have HH := Lib.hid hh
    clear H1
    by_cases hlt : (k : Int) < bk.length
    · have hkb : k < bk.length := by omega
      have hk0 : (0 : Int) ≤ k := by omega
      obtain ⟨gb, cb, hsl, x0, x1, _⟩ := BookT.item (HH.out.pull3) hkb
      cases hsl
      have hus := usedB_succ hkb
      have has := atB_succ hkb
      have hul := usedB_le bk (k + 1)
      rw [HALL.out.1] at hul
      cases hthere : bk[k].2 with
      | false =>
        rw [hthere] at x1 hus has
        have h2 := HH.out.alloc HST.out (.cells #[.string ⟨bk[k].1.toArray⟩, .bool false] tHeld)
        have H2 := Lib.hid h2
        have HUS := Lib.hid hus
        have HAS := Lib.hid has
        generalize bk[k].1 = t at *
        clear h2 hh hus has hul hthere
        (repeat' (first | (go_big_may; fail) | go_values | go_skip | go_guarded | go_step | go_upon | go_back | dsimp only))
        go_roundw
        case rel => exact ⟨k + 1, by rw [HUS.out]; simp, by rw [HAS.out]; simp, by simp, by omega, H2.out⟩
        case measure => simp [intOf] <;> omega
      | true =>
        obtain ⟨p, _, hp1, hp2, hpf⟩ := HB.out.at HG.out hkb hthere
        obtain ⟨hkey1, hkey2⟩ := HB.out.key HG.out hkb hthere
        have htl : bk[k].1.length ≤ 67108864 := by
          have := HG.out.le p hpf
          rw [hp2] at this; omega
        rw [hthere] at x1 hus has
        rw [if_pos rfl] at hus has
        have h2 := HH.out.newCell HST.out #[.string ⟨bk[k].1.toArray⟩, .bool true] tHeld
        obtain ⟨w2, hw2⟩ : ∃ w2, w2 = wr.alloc (.cells #[.string ⟨bk[k].1.toArray⟩, .bool true] tHeld) := ⟨_, rfl⟩
        rw [← hw2] at h2
        have hrl := h2.drop.row
        have hne : 0 < S.keys.length := by omega
        obtain ⟨gl, cl2, hsl2, _, _, _⟩ := own_cut hrl hne
        cases hsl2
        have HSR := Lib.hid (show Stable (Both (CellT wr.heap.size #[.string ⟨bk[k].1.toArray⟩, .bool true] tHeld) (Both (RowT (.slice (some ⟨gl, 0, none⟩) S.keys.length cl) S.keys) (Both (BookT (.slice (some ⟨gb, 0, none⟩) bk.length capb) bk) R))) from (CellT.stable _ _ _).both ((RowT.stable _ _).both ((RowG.stable _ _ _ _ _).both HR.out)))
        have hsize := Size_at h2.pull3 HSR.out HF.out (z := (k : Int) + 1) (by unfold inI64; omega)
        rw [show sizeN S ((k : Int) + 1) = bk[k].1.length from by unfold sizeN; rw [hpf]; exact congrArg List.length hp2, show sizeC S ((k : Int) + 1) = 0 from by unfold sizeC; rw [hpf], errV_zero] at hsize
        have HKEY := Lib.hid (And.intro hkey1 hkey2)
        have HP2 := Lib.hid hp2
        have HPF := Lib.hid hpf
        have HUS := Lib.hid hus
        have HAS := Lib.hid has
        have HSIZE := Lib.hid hsize
        have HW2 := Lib.hid hw2
        generalize bk[k].1 = t at *
        have hat : ¬ (S.keys.length : Int) ≤ (atB bk k : Int) := by omega
        have hat1 : (atB bk k : Int) < (S.keys.length : Int) := by omega
        have hat0 : (0 : Int) ≤ (atB bk k : Int) := by omega
        have hwk : IntKind.i64.wrap ((k : Int) + 1) = (k : Int) + 1 := by rw [IntKind.wrap_i64] <;> omega
        have hwu : IntKind.i64.wrap ((usedB bk k : Int) + t.length) = (usedB bk k : Int) + t.length := by rw [IntKind.wrap_i64] <;> omega
        have hwa : IntKind.i64.wrap ((atB bk k : Int) + 1) = (atB bk k : Int) + 1 := by rw [IntKind.wrap_i64] <;> omega
        generalize hub : usedB bk k = ub at *
        generalize hab : atB bk k = ab at *
        have HUB := Lib.hid hub
        have HAB := Lib.hid hab
        clear h2 hh hus has hul hthere hrl hw2 hsize hkey1 hkey2 hp1 hp2 hpf hub hab
        go_upto_region 7 with (fail)
        rw [← HW2.out]
        clear HW2 x0 x1
        generalize wr.heap.size = s2 at *
        have hread := fun (w3 : World) (h3 : At W w3 (Both (StoreT b S) (Both (CellT s2 #[.string ⟨t.toArray⟩, .bool true] tHeld) (Both (RowT (.slice (some ⟨gl, 0, none⟩) S.keys.length cl) S.keys) (Both (BookT (.slice (some ⟨gb, 0, none⟩) bk.length capb) bk) R))))) => Read_at h3 HSR.out HF.out (z := (k : Int) + 1) (a := 0) (n := (t.length : Int)) (by unfold inI64; omega) (by unfold inI64; omega) (by unfold inI64; omega)
        have HREAD := Lib.hid hread
        clear hread
        (repeat' (first | (go_big_may; fail) | go_values | go_skip | go_guarded | go_step | go_upon | go_back | dsimp only))
        refine HSIZE.out.mono ?_
        rintro e w3 ⟨rfl, h3⟩
        have H3 := Lib.hid h3
        have z0 := cell_of h3.drop.cell.1 0
        simp only [List.getElem?_toArray, List.getElem?_cons_zero] at z0
        have hrow3 := h3.drop.drop.row
        have ykey : w3.cell? ⟨gl, ab, none⟩ = some (.int .i64 ((k : Int) + 1)) := by
          rw [hrow3.cellAt _ (by have := HKEY.out.1; omega), intsV_get HKEY.out.1, HKEY.out.2]
        clear h3 hrow3
        have neqn : ∀ wz : World, (binOp .neq tErr .nilIface .nilIface).run Tryd.prog wz = .ok (.bool false) wz := fun wz => neq_nil wz
        have eqln : ∀ wz : World, (binOp .eql tErr .nilIface .nilIface).run Tryd.prog wz = .ok (.bool true) wz := fun wz => eql_nil wz
        (repeat' (first | (go_big_may; fail) | go_values | go_skip | go_guarded | go_step | go_upon | go_back | dsimp only))
        have hrd := HREAD.out _ H3.out
        cases hs : p.2.sealed with
        | false =>
          rw [show readC S ((k : Int) + 1) 0 (t.length : Int) = 5 from by unfold readC; rw [HPF.out]; exact if_pos hs, show readT S ((k : Int) + 1) 0 (t.length : Int) = [] from by unfold readT; rw [HPF.out]; exact if_pos hs, errV_pos ef (by decide)] at hrd
          have HRD := Lib.hid hrd
          clear hrd hs ykey z0
          refine HRD.out.mono ?_
          rintro e w4 ⟨rfl, h4⟩
          have H4 := Lib.hid h4
          have z0 := cell_of h4.drop.cell.1 0
          simp only [List.getElem?_toArray, List.getElem?_cons_zero] at z0
          have cg5 := (HF.out.below h4.below).cell (5, 2) (by decide)
          have q1 := neq_iface_nil ⟨(ef 5).1, (ef 5).2, none⟩
          have q2 := eql_iface_nil ⟨(ef 5).1, (ef 5).2, none⟩
          have q3 := neq_same2 ⟨(ef 5).1, (ef 5).2, none⟩
          clear h4 H3 HRD
          (repeat' (first | (go_big_may; fail) | go_values | go_skip | go_guarded | go_step | go_upon | go_back | dsimp only))
          go_roundw
          case rel => exact ⟨k + 1, by rw [HUS.out]; simp, by rw [HAS.out]; simp, by simp, by omega, H4.out.swap.drop.swap⟩
          case measure => simp [intOf] <;> omega
        | true =>
          have hns : ¬ p.2.sealed = false := by rw [hs]; decide
          have hin : ¬ ((0 : Int) < 0 ∨ (t.length : Int) < 0 ∨ (0 : Int) > p.2.text.length ∨ (t.length : Int) > p.2.text.length - 0) := by rw [HP2.out]; omega
          rw [show readC S ((k : Int) + 1) 0 (t.length : Int) = 0 from by unfold readC; rw [HPF.out]; exact (if_neg hns).trans (if_neg hin), show readT S ((k : Int) + 1) 0 (t.length : Int) = t from by unfold readT; rw [HPF.out]; refine ((if_neg hns).trans (if_neg hin)).trans ?_; rw [HP2.out]; simp, errV_zero] at hrd
          have HRD := Lib.hid hrd
          clear hrd hs hns hin ykey z0
          refine HRD.out.mono ?_
          rintro e w4 ⟨rfl, h4⟩
          have H4 := Lib.hid h4
          have z0 := cell_of h4.drop.cell.1 0
          simp only [List.getElem?_toArray, List.getElem?_cons_zero] at z0
          clear h4 H3 HRD
          (repeat' (first | (go_big_may; fail) | go_values | go_skip | go_guarded | go_step | go_upon | go_back | dsimp only))
          go_roundw
          case rel => exact ⟨k + 1, by rw [HUS.out]; simp, by rw [HAS.out]; simp, by simp, by omega, H4.out.swap.drop.swap⟩
          case measure => simp [intOf] <;> omega
    · have hkb : k = bk.length := by omega
      subst hkb
      rw [HALL.out.1, HALL.out.2]
      have hmx : (S.used : Int) ≤ (if (0 : Int) < c then c else 0) := by split <;> omega
      have hmx2 : (S.used : Int) ≤ max 0 c := by omega
      (repeat' (first | (go_big_may; fail) | go_values | go_skip | go_guarded | go_step | go_upon | go_back | dsimp only))
      refine (Used_at HH.out.swap).mono ?_
      rintro e w8 ⟨rfl, rfl⟩
      have hpk2 : (S.used : Int) ≤ (S.peak : Int) := by omega
      (repeat' (first | (go_big_may; fail) | go_values | go_skip | go_guarded | go_step | go_upon | go_back | dsimp only))
      refine (Peak_at HH.out.swap).mono ?_
      rintro e w8 ⟨rfl, rfl⟩
      (repeat' (first | (go_big_may; fail) | go_values | go_skip | go_guarded | go_step | go_upon | go_back | dsimp only))
      go_ret
      exact ⟨rfl, HH.out.drop⟩
end Go.Proofs.YtomlkhfmblkpcaaDoor
