/- The document's store (hornbookref05): New, Create, Seal, Break, Size, Read walked. -/
import Derived.Test.YtomlkhfmblkpcaaDoorRunsRef2
import Derived.Test.YtomlkhfmblkpcaaDoorRunsRead
namespace Go.Proofs.YtomlkhfmblkpcaaDoor
open Go.RowKit

set_option maxRecDepth 100000 in
set_option maxHeartbeats 1600000 in
theorem rNew_at {W w : World} {Φ : Thing} (h : At W w Φ) (hs : Stable Φ) {c : Int} (hc : inI64 c) :
    Calls Tryd.prog 20 #[.int .i64 c] w fun e w' => e = .returned (.pointer (some ⟨w.heap.size, 0, none⟩)) ∧ At W w' (Both (RefT w.heap.size (newSt c)) Φ) := by
  have h1 : At W w (Both Nought Φ) := h.add hs (Below.refl _ _) (fp := []) rfl (by simp)
  have h2 := h1.noRowG (Stable.nought.both hs) tRRun 3
  have h3 := h2.newCell ((RowG.stable _ _ _ _ _).both (Stable.nought.both hs)) (refCells (newSt c) (.slice none 0 0)) tRef
  have h4 := At.toRef (S := newSt c) (rs := []) rfl h3
  have hcp : ((newSt c).cap : Int) = max 0 (min c 67108864) := by simp only [newSt]; omega
  have hz : (newSt c).peak = 0 ∧ (newSt c).made = 0 ∧ (newSt c).left = 0 := ⟨rfl, rfl, rfl⟩
  unfold refCells at h4
  rw [hcp, hz.1, hz.2.1, hz.2.2] at h4
  have H := Lib.hid h4
  clear h h1 h2 h3 h4 hcp hz
  by_cases h0 : c < 0
  · rw [show max 0 (min c 67108864) = (0 : Int) by omega] at H
    go_enter Tryd.func20, Tryd.ntmps20
    (repeat' (first | (go_big_may; fail) | go_values | go_skip | go_guarded | go_step | go_upon | go_back | dsimp only))
    go_ret
    exact ⟨rfl, H.out⟩
  · by_cases h1 : 67108864 < c
    · rw [show max 0 (min c 67108864) = (67108864 : Int) by omega] at H
      go_enter Tryd.func20, Tryd.ntmps20
      (repeat' (first | (go_big_may; fail) | go_values | go_skip | go_guarded | go_step | go_upon | go_back | dsimp only))
      go_ret
      exact ⟨rfl, H.out⟩
    · rw [show max 0 (min c 67108864) = c by omega] at H
      go_enter Tryd.func20, Tryd.ntmps20
      (repeat' (first | (go_big_may; fail) | go_values | go_skip | go_guarded | go_step | go_upon | go_back | dsimp only))
      go_ret
      exact ⟨rfl, H.out⟩

theorem refCells_left (S : St) (rv : Value) (n : Nat) : (refCells S rv).setIfInBounds 3 (.int .i64 (n : Int)) = refCells { S with left := n } rv := by simp [refCells]
set_option maxRecDepth 100000 in
set_option maxHeartbeats 1600000 in
theorem rBreak_at {W w : World} {R : Thing} {rb : Nat} {S : St} (h : At W w (Both (RefT rb S) R)) (hR : Stable R) {z : Int} (hz : inI64 z) :
    Calls Tryd.prog 43 #[.pointer (some ⟨rb, 0, none⟩), .int .i64 z] w fun e w' => e = .returned (.tuple #[]) ∧ At W w' (Both (RefT rb (breakS S z)) R) := by
  obtain ⟨rv, rs, hr, h1⟩ := h.ref
  have hf := h1.refR hr
  obtain ⟨_, _, _, c3, _⟩ := hf.c
  have fz := hf.fz
  have hst : Stable (Both (RowG tRRun 3 rv rs.length (rs.flatMap cellsR)) (Both (TextsT rs) R)) := (RowG.stable _ _ _ _ _).both ((TextsT.stable _).both hR)
  have h2 := h1.setCell hst 3 (.int .i64 (z.toNat : Int))
  rw [refCells_left] at h2
  have HH := Lib.hid (At.toRef (S := breakS S z) hr h2)
  clear h h1 hf hr hst h2
  by_cases h0 : z < 0
  · rw [show ((z.toNat : Nat) : Int) = 0 by omega] at HH
    go_enter Tryd.func43, Tryd.ntmps43
    (repeat' (first | (go_big_may; fail) | go_values | go_skip | go_guarded | go_step | go_upon | go_back | dsimp only))
    go_end0
    exact ⟨rfl, HH.out⟩
  · rw [show ((z.toNat : Nat) : Int) = z by omega] at HH
    go_enter Tryd.func43, Tryd.ntmps43
    (repeat' (first | (go_big_may; fail) | go_values | go_skip | go_guarded | go_step | go_upon | go_back | dsimp only))
    go_end0
    exact ⟨rfl, HH.out⟩

theorem TextsT.nil_end {rs : List RR} {n : Nat} {b : Bool} {w : World} {fp : List Nat} (h : TextsT rs w fp) : TextsT (rs ++ [⟨n, .slice none 0 0, [], b⟩]) w fp :=
  TextsT.push (l2 := []) ⟨[], fp, ⟨World.ownsRow_nil _ _ _ _, rfl⟩, by rw [List.append_nil]; exact h, by simp, fun k => by simp⟩
theorem info_run : (Tryd.prog.info? tRRun).map (fun i => (i.zero, i.size, i.bytes)) = some (some (.agg #[.int .i64 0, .slice none 0 0, .bool false]), 3, 40) := by kernel_rfl

set_option maxRecDepth 100000 in
set_option maxHeartbeats 3200000 in
theorem rCreate_at {W w : World} {R : Thing} {rb : Nat} {S : St} (h : At W w (Both (RefT rb S) R)) (hR : Stable R) (hG : GoodS S) :
    Calls Tryd.prog 35 #[.pointer (some ⟨rb, 0, none⟩)] w fun e w' => e = .returned (.tuple #[.int .i64 (createP S).2.1, .int .i64 (createP S).2.2]) ∧ At W w' (Both (RefT rb (createP S).1) R) := by
  have HREF := Lib.hid (refused_at h hR hG)
  have HG := Lib.hid hG
  have HR := Lib.hid hR
  unfold createP
  clear h hG hR
  by_cases h9 : S.left = 1
  · rw [if_pos h9]
    rw [decide_eq_true h9] at HREF
    clear h9
    go_enter Tryd.func35, Tryd.ntmps35
    (repeat' (first | (go_big_may; fail) | go_values | go_skip | go_guarded | go_step | go_upon | go_back | dsimp only))
    refine HREF.out.mono ?_
    rintro e w1 ⟨rfl, h1⟩
    have H1 := Lib.hid h1
    clear h1
    (repeat' (first | (go_big_may; fail) | go_values | go_skip | go_guarded | go_step | go_upon | go_back | dsimp only))
    go_ret2
    exact ⟨rfl, H1.out⟩
  · rw [if_neg h9]
    rw [decide_eq_false h9] at HREF
    have hm := HG.out.sizes.2.2.2.1
    by_cases h8 : S.made = 16777216
    · rw [if_pos h8]
      go_enter Tryd.func35, Tryd.ntmps35
      (repeat' (first | (go_big_may; fail) | go_values | go_skip | go_guarded | go_step | go_upon | go_back | dsimp only))
      refine HREF.out.mono ?_
      rintro e w1 ⟨rfl, h1⟩
      obtain ⟨rv, rs, hr, h2⟩ := h1.ref
      obtain ⟨_, _, c2, _, _⟩ := (h2.refR hr).c
      have e0 : (stepS S).made = S.made := rfl
      rw [e0] at c2
      have H1 := Lib.hid h1
      have h8' : (16777216 : Int) ≤ (S.made : Int) := by omega
      clear h1 h2 h9 hr h8
      (repeat' (first | (go_big_may; fail) | go_values | go_skip | go_guarded | go_step | go_upon | go_back | dsimp only))
      go_ret2
      exact ⟨rfl, H1.out⟩
    · rw [if_neg h8]
      dsimp only
      have e1 : ((S.made + 1 : Nat) : Int) = (S.made : Int) + 1 := by omega
      rw [e1]
      go_enter Tryd.func35, Tryd.ntmps35
      (repeat' (first | (go_big_may; fail) | go_values | go_skip | go_guarded | go_step | go_upon | go_back | dsimp only))
      refine HREF.out.mono ?_
      rintro e w1 ⟨rfl, h1⟩
      obtain ⟨rv, rs, hr, h2⟩ := h1.ref
      have hf := h2.refR hr
      obtain ⟨_, _, c2, _, _⟩ := hf.c
      have fz := hf.fz
      have hn := hf.len HG.out.step
      have e0 : (stepS S).made = S.made := rfl
      rw [e0] at c2
      have hw1 : IntKind.i64.wrap ((S.made : Int) + 1) = (S.made : Int) + 1 := by rw [IntKind.wrap_i64] <;> omega
      have h8' : ¬ (16777216 : Int) ≤ (S.made : Int) := by omega
      have hstR : Stable (Both (TextsT rs) R) := (TextsT.stable _).both HR.out
      have hst : Stable (Both (RowG tRRun 3 rv rs.length (rs.flatMap cellsR)) (Both (TextsT rs) R)) := (RowG.stable _ _ _ _ _).both hstR
      have h3 := h2.setCell hst 2 (.int .i64 ((S.made : Int) + 1))
      have HR3 := Lib.hid hr
      clear h1 h2 h9 hr h8 hf
      have cB := cell_of h3.cell.1 2
      obtain ⟨X, hX⟩ : ∃ X, X = w1.setCell ⟨rb, 2, none⟩ (.int .i64 ((S.made : Int) + 1)) := ⟨_, rfl⟩
      rw [← hX] at h3 cB
      have HX := Lib.hid hX
      have H3 := Lib.hid h3
      have HST := Lib.hid hst
      have HSTR := Lib.hid hstR
      have CB := Lib.hid cB
      clear hX h3 hst hstR cB
      (repeat' (first | (go_big_may; fail) | go_values | go_skip | go_guarded | go_step | go_upon | go_back | dsimp only))
      rw [← HX.out]
      clear HX c2 fz
      have h3 := H3.out
      have cB := CB.out
      have hlt := lt_of_heap h3.cell.1
      have cA := cell_of h3.cell.1 4
      simp only [refCells, List.setIfInBounds_toArray, List.set_cons_zero, List.set_cons_succ, List.getElem?_toArray, List.getElem?_cons_zero, List.getElem?_cons_succ] at cA cB
      have fA := thaw_of h3.cell.1
      obtain ⟨v2, w2, hrun, h4, _, _⟩ := append_at_run (P := Tryd.prog) 70 70 tRRun Tryd.underlying70 info_run rfl (by decide) (h3.swap.mono ((RowG.stable _ _ _ _ _).both ((CellT.stable _ _ _).both HSTR.out)) ((Below.refl _ _).drew)) ((CellT.stable _ _ _).both HSTR.out) (C := #[.int .i64 ((S.made : Int) + 1), .slice none 0 0, .bool false]) (m := 1) (c := 1) rfl (by intro u hu; simp at hu; rcases hu with rfl | rfl | rfl <;> rfl) (by unfold maxLen; omega) (by omega)
      obtain ⟨ao2, cap2, hv2, _, _⟩ := own_shape h4.rowG
      subst hv2
      have cC := cell_of h4.drop.cell.1 4
      have cD := cell_of h4.drop.cell.1 2
      simp only [refCells, List.setIfInBounds_toArray, List.set_cons_zero, List.set_cons_succ, List.getElem?_toArray, List.getElem?_cons_zero, List.getElem?_cons_succ] at cC cD
      have fC := thaw_of h4.drop.cell.1
      have hlt2 := lt_of_heap h4.drop.cell.1
      have h5 := h4.swap.setCell ((RowG.stable _ _ _ _ _).both HSTR.out) 4 (.slice ao2 (rs.length + 1) cap2)
      have h6 : At W (w2.setCell ⟨rb, 4, none⟩ (.slice ao2 (rs.length + 1) cap2)) (Both (RefT rb (createS (stepS S))) R) := by
        refine At.toRef (rv := .slice ao2 (rs.length + 1) cap2) (rs := rs ++ [⟨S.made + 1, .slice none 0 0, [], false⟩]) (by show (stepS S).runs ++ [(S.made + 1, ⟨[], false⟩)] = _; rw [HR3.out, List.map_append]; rfl) (h5.impl fun fp q => ?_)
        have q2 := Both.mono (fun w fp h => Both.mono (fun w fp h => Both.comm (Both.mono (fun w fp h => TextsT.nil_end (n := S.made + 1) (b := false) h) (Both.comm h))) h) q
        simpa [refCells, createS, stepS, cellsR] using q2
      have H6 := Lib.hid h6
      have hm6 : (w2.setCell ⟨rb, 4, none⟩ (.slice ao2 (rs.length + 1) cap2)).cell? ⟨rb, 2, none⟩ = some (.int .i64 ((S.made : Int) + 1)) := by
        have := cell_of h5.cell.1 2
        rw [this]; simp [refCells]
      have HM6 := Lib.hid hm6
      clear h3 h4 h5 h6 hm6 H3 CB
      go_region_law (refine step_append_run rfl _ _ 70 rfl _ _ rfl rfl hrun ?_)
      all_goals
        clear hrun cA cB cC cD fA fC
        have hm := HM6.out
        have h6 := H6.out
        generalize w2.setCell ⟨rb, 4, none⟩ (.slice ao2 (rs.length + 1) cap2) = w6 at *
        have H6 := Lib.hid h6
        clear h6
        (repeat' (first | (go_big_may; fail) | go_values | go_skip | go_guarded | go_step | go_upon | go_back | dsimp only))
        go_ret2
        exact ⟨rfl, H6.out⟩
end Go.Proofs.YtomlkhfmblkpcaaDoor
