/- The document's store (hornbookref05): Seal, Size, Read, Live walked. -/
import Derived.Test.YtomlkhfmblkpcaaDoorRunsRef3
import Derived.Test.YtomlkhfmblkpcaaDoorRunsThing
namespace Go.Proofs.YtomlkhfmblkpcaaDoor
open Go.RowKit

theorem flatMap_set {α : Type} [Inhabited α] {n : Nat} {c : α → List Value} (hc : ∀ x, (c x).length = n) (l : List α) {j k : Nat} {u : Value} {x : α} (hj : j < l.length) (hk : k < n) (hx : (c (l.getD j default)).set k u = c x) :
    (l.flatMap c).set (j * n + k) u = (l.set j x).flatMap c := by
  induction l generalizing j with
  | nil => simp at hj
  | cons a l ih =>
    cases j with
    | zero =>
      rw [List.set_cons_zero, List.flatMap_cons, List.flatMap_cons, Nat.zero_mul, Nat.zero_add, List.set_append_left _ _ (by rw [hc]; exact hk)]
      congr 1
    | succ j =>
      rw [List.set_cons_succ, List.flatMap_cons, List.flatMap_cons, List.set_append_right _ _ (by rw [hc, Nat.add_mul]; omega), hc, show (j + 1) * n + k - n = j * n + k by rw [Nat.add_mul]; omega, ih (by simpa using hj) hx]
theorem split_at {α : Type} [Inhabited α] {l : List α} {j : Nat} (hj : j < l.length) : l = l.take j ++ l.getD j default :: l.drop (j + 1) := by
  rw [List.getD_eq_getElem?_getD, List.getElem?_eq_getElem hj]
  simp
theorem set_split {α : Type} {l : List α} {j : Nat} {x : α} (hj : j < l.length) : l.set j x = l.take j ++ x :: l.drop (j + 1) := by
  rw [List.set_eq_take_append_cons_drop, if_pos hj]
/-- The j-th text to the front. -/
theorem TextsT.get {rs : List RR} {j : Nat} (hj : j < rs.length) {w : World} {fp : List Nat} (h : TextsT rs w fp) : Both (TextT (rs.getD j default)) (TextsT (rs.take j ++ rs.drop (j + 1))) w fp :=
  TextsT.pull (by rw [← split_at hj]; exact h)
theorem TextsT.put {rs : List RR} {j : Nat} (hj : j < rs.length) {x : RR} {w : World} {fp : List Nat} (h : Both (TextT x) (TextsT (rs.take j ++ rs.drop (j + 1))) w fp) : TextsT (rs.set j x) w fp := by
  rw [set_split hj]; exact TextsT.push h
theorem TextsT.same {rs : List RR} {j : Nat} (hj : j < rs.length) {x : RR} (hv : x.v = (rs.getD j default).v) (ht : x.text = (rs.getD j default).text) {w : World} {fp : List Nat} (h : TextsT rs w fp) : TextsT (rs.set j x) w fp := by
  refine TextsT.put hj ?_
  have e : TextT x = TextT (rs.getD j default) := by unfold TextT; rw [hv, ht]
  rw [e]; exact TextsT.get hj h

theorem nums_ne {S : St} (hG : GoodS S) {rs : List RR} (hr : S.runs = rs.map runOf) {i j : Nat} (hi : i < rs.length) (hj : j < rs.length) (hij : i ≠ j) : (rs.getD i default).num ≠ (rs.getD j default).num := by
  have h1 := hG.rising
  rw [hr, List.pairwise_map] at h1
  have h2 := List.pairwise_iff_getElem.1 h1
  rw [List.getD_eq_getElem?_getD, List.getD_eq_getElem?_getD, List.getElem?_eq_getElem hi, List.getElem?_eq_getElem hj]
  show rs[i].num ≠ rs[j].num
  rcases Nat.lt_or_gt_of_ne hij with h3 | h3
  · have := h2 i j hi hj h3
    have : rs[i].num < rs[j].num := this
    omega
  · have := h2 j i hj hi h3
    have : rs[j].num < rs[i].num := this
    omega
theorem runs_set {S : St} (hG : GoodS S) {rs : List RR} (hr : S.runs = rs.map runOf) {j : Nat} (hj : j < rs.length) {x : RR} (hx : x.num = (rs.getD j default).num) :
    (S.runs.map fun q => if q.1 = x.num then (x.num, (runOf x).2) else q) = (rs.set j x).map runOf := by
  rw [hr]
  apply List.ext_getElem?
  intro i
  rw [List.getElem?_map, List.getElem?_map, List.getElem?_map, List.getElem?_set]
  by_cases hij : j = i
  · subst hij
    rw [if_pos rfl, if_pos hj, List.getElem?_eq_getElem hj]
    have e : rs.getD j default = rs[j] := by rw [List.getD_eq_getElem?_getD, List.getElem?_eq_getElem hj]; rfl
    rw [e] at hx
    simp [runOf, hx]
  · rw [if_neg hij]
    by_cases hi : i < rs.length
    · rw [List.getElem?_eq_getElem hi]
      have h2 := nums_ne hG hr hi hj (fun e => hij e.symm)
      rw [← hx, List.getD_eq_getElem?_getD, List.getElem?_eq_getElem hi] at h2
      have h3 : rs[i].num ≠ x.num := h2
      simp [runOf, h3]
    · rw [List.getElem?_eq_none (by omega)]; rfl

set_option maxRecDepth 100000 in
set_option maxHeartbeats 1600000 in
theorem rSeal_at {W w : World} {R : Thing} {rb : Nat} {S : St} (h : At W w (Both (RefT rb S) R)) (hR : Stable R) (hG : GoodS S) {z : Int} (hz : inI64 z) :
    Calls Tryd.prog 37 #[.pointer (some ⟨rb, 0, none⟩), .int .i64 z] w fun e w' => e = .returned (.int .i64 (sealP S z).2) ∧ At W w' (Both (RefT rb (sealP S z).1) R) := by
  have HREF := Lib.hid (refused_at h hR hG)
  have HG := Lib.hid hG
  have HR := Lib.hid hR
  clear h hG hR
  by_cases h9 : S.left = 1
  · rw [show sealP S z = (stepS S, 9) from withRun_broken h9]
    rw [decide_eq_true h9] at HREF
    clear h9
    go_enter Tryd.func37, Tryd.ntmps37
    (repeat' (first | (go_big_may; fail) | go_values | go_skip | go_guarded | go_step | go_upon | go_back | dsimp only))
    refine HREF.out.mono ?_
    rintro e w1 ⟨rfl, h1⟩
    have H1 := Lib.hid h1
    clear h1
    (repeat' (first | (go_big_may; fail) | go_values | go_skip | go_guarded | go_step | go_upon | go_back | dsimp only))
    go_ret
    exact ⟨rfl, H1.out⟩
  · rw [decide_eq_false h9] at HREF
    have HK : ∀ w1, At W w1 (Both (RefT rb (stepS S)) R) → ∃ rv rs, (stepS S).runs = rs.map runOf ∧ RefR w1 rb (stepS S) rv rs ∧ At W w1 (Both (CellT rb (refCells (stepS S) rv) tRef) (Both (RowG tRRun 3 rv rs.length (rs.flatMap cellsR)) (Both (TextsT rs) R))) := fun w1 h1 => by
      obtain ⟨rv, rs, hr, h2⟩ := h1.ref
      exact ⟨rv, rs, hr, h2.refR hr, h2⟩
    have hfe : (stepS S).find z = S.find z := rfl
    cases hf : S.find z with
    | none =>
      rw [show sealP S z = (stepS S, 3) from by unfold sealP withRun; rw [if_neg h9, hf]]
      have HF := Lib.hid (hfe.trans hf)
      have HKK := Lib.hid HK
      clear h9 hf HK hfe
      go_enter Tryd.func37, Tryd.ntmps37
      (repeat' (first | (go_big_may; fail) | go_values | go_skip | go_guarded | go_step | go_upon | go_back | dsimp only))
      refine HREF.out.mono ?_
      rintro e w1 ⟨rfl, h1⟩
      obtain ⟨rv, rs, hr, hrd, h2⟩ := HKK.out _ h1
      have H1 := Lib.hid h1
      have HRD := Lib.hid hrd
      clear h1 hr hrd h2
      (repeat' (first | (go_big_may; fail) | go_values | go_skip | go_guarded | go_step | go_upon | go_back | dsimp only))
      refine (fit_calls HRD.out HG.out.step hz).mono ?_
      rintro e w2 ⟨⟨i, c, rfl, hfit⟩, rfl⟩
      obtain ⟨rfl, rfl⟩ : i = 0 ∧ c = 3 := by
        rcases hfit with ⟨_, h1, h2⟩ | ⟨j, _, _, h1, _⟩
        · exact ⟨h1, h2⟩
        · rw [HF.out] at h1; cases h1
      clear hfit
      (repeat' (first | (go_big_may; fail) | go_values | go_skip | go_guarded | go_step | go_upon | go_back | dsimp only))
      go_ret
      exact ⟨rfl, H1.out⟩
    | some p =>
      by_cases hs : p.2.sealed = true
      · rw [show sealP S z = (stepS S, 4) from by unfold sealP withRun; rw [if_neg h9, hf]; dsimp only; rw [if_pos hs]]
        have HF := Lib.hid (hfe.trans hf)
        have HKK := Lib.hid HK
        have HS := Lib.hid hs
        clear h9 hf HK hfe hs
        go_enter Tryd.func37, Tryd.ntmps37
        (repeat' (first | (go_big_may; fail) | go_values | go_skip | go_guarded | go_step | go_upon | go_back | dsimp only))
        refine HREF.out.mono ?_
        rintro e w1 ⟨rfl, h1⟩
        obtain ⟨rv, rs, hr, hrd, h2⟩ := HKK.out _ h1
        have H1 := Lib.hid h1
        have HRD := Lib.hid hrd
        clear h1 hr hrd h2
        (repeat' (first | (go_big_may; fail) | go_values | go_skip | go_guarded | go_step | go_upon | go_back | dsimp only))
        refine (fit_calls HRD.out HG.out.step hz).mono ?_
        rintro e w2 ⟨⟨i, c, rfl, hfit⟩, rfl⟩
        obtain ⟨rfl, rfl⟩ : i = 0 ∧ c = 4 := by
          rcases hfit with ⟨h1, _⟩ | ⟨j, _, _, h1, h2⟩
          · rw [HF.out] at h1; cases h1
          · rw [HF.out] at h1
            cases h1
            rcases h2 with ⟨_, h3, h4⟩ | ⟨h2, _⟩
            · exact ⟨h3, h4⟩
            · have := HS.out
              simp only [runOf] at this
              rw [h2] at this; cases this
        clear hfit
        (repeat' (first | (go_big_may; fail) | go_values | go_skip | go_guarded | go_step | go_upon | go_back | dsimp only))
        go_ret
        exact ⟨rfl, H1.out⟩
      · rw [show sealP S z = ((stepS S).setRun p.1 ⟨p.2.text, true⟩, 0) from by unfold sealP withRun; rw [if_neg h9, hf]; dsimp only; rw [if_neg hs]]
        have HF := Lib.hid (hfe.trans hf)
        have HKK := Lib.hid HK
        have HS := Lib.hid hs
        clear h9 hf HK hfe hs
        go_enter Tryd.func37, Tryd.ntmps37
        (repeat' (first | (go_big_may; fail) | go_values | go_skip | go_guarded | go_step | go_upon | go_back | dsimp only))
        refine HREF.out.mono ?_
        rintro e w1 ⟨rfl, h1⟩
        obtain ⟨rv, rs, hr, hrd, h2⟩ := HKK.out _ h1
        have HRD := Lib.hid hrd
        have HRS := Lib.hid hr
        have H2 := Lib.hid h2
        clear h1 hr hrd h2
        (repeat' (first | (go_big_may; fail) | go_values | go_skip | go_guarded | go_step | go_upon | go_back | dsimp only))
        refine (fit_calls HRD.out HG.out.step hz).mono ?_
        rintro e w2 ⟨⟨i, c, rfl, hfit⟩, rfl⟩
        obtain ⟨j, hj, hp, rfl, rfl⟩ : ∃ j : Nat, j < rs.length ∧ p = runOf (rs.getD j default) ∧ i = j ∧ c = 0 := by
          rcases hfit with ⟨h1, _⟩ | ⟨j, hj, _, h1, h2⟩
          · rw [HF.out] at h1; cases h1
          · rw [HF.out] at h1
            rcases h2 with ⟨h2, _⟩ | ⟨_, h3, h4⟩
            · cases h1
              exact absurd h2 HS.out
            · exact ⟨j, hj, by cases h1; rfl, h3, h4⟩
        have HP := Lib.hid hp
        have h2 := H2.out
        obtain ⟨g, cap, hsl, _, _, i2, fz⟩ := HRD.out.item hj
        subst hsl
        obtain ⟨_, _, _, _, c4⟩ := HRD.out.c
        have hj0 : (0 : Int) ≤ j := by omega
        have hj1 : (j : Int) < rs.length := by omega
        have hstR : Stable (Both (TextsT rs) R) := (TextsT.stable _).both HR.out
        have h3 := h2.swap.storeG ((CellT.stable _ _ _).both hstR) (j * 3 + 2) (.bool true)
        rw [flatMap_set cellsR_len rs (x := ⟨(rs.getD j default).num, (rs.getD j default).v, (rs.getD j default).text, true⟩) hj (by omega) rfl] at h3
        have h4 : At W (w1.setCell ⟨g, j * 3 + 2, none⟩ (.bool true)) (Both (RefT rb ((stepS S).setRun p.1 ⟨p.2.text, true⟩)) R) := by
          refine At.toRef (rv := .slice (some ⟨g, 0, none⟩) rs.length cap) (rs := rs.set j ⟨(rs.getD j default).num, (rs.getD j default).v, (rs.getD j default).text, true⟩) ?_ (h3.swap.impl fun fp q => ?_)
          · have := runs_set (x := ⟨(rs.getD j default).num, (rs.getD j default).v, (rs.getD j default).text, true⟩) HG.out.step HRS.out hj rfl
            rw [← this, HP.out]
            rfl
          · have q2 := Both.mono (fun w fp h => Both.mono (fun w fp h => Both.comm (Both.mono (fun w fp h => TextsT.same (x := ⟨(rs.getD j default).num, (rs.getD j default).v, (rs.getD j default).text, true⟩) hj rfl rfl h) (Both.comm h))) h) q
            rw [List.length_set]
            exact q2
        have H4 := Lib.hid h4
        clear h2 h3 h4 hp hfit
        (repeat' (first | (go_big_may; fail) | go_values | go_skip | go_guarded | go_step | go_upon | go_back | dsimp only))
        go_ret
        exact ⟨rfl, H4.out⟩
end Go.Proofs.YtomlkhfmblkpcaaDoor
