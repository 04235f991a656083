/- hornbooklaw27: alike and wakes walked. -/
import Derived.Test.YtcbdncjknpdnbaaDlDiff
import Derived.Test.YtcbdncjknpdnbaaDlRef
import Derived.Test.YtcbdncjknpdnbaaWkEqual
import Derived.Test.YtcbdncjknpdnbaaDawgBuild
import Derived.Test.YtcbdncjknpdnbaaDawgU
namespace Go.Proofs.Ytcbdncjknpdnbaa
open Go.RowKit

theorem chg_at {w : World} {v : Value} {D : List Chg} {f : Chg → List Value} (hf : ∀ c, f c = [.string ⟨c.1.toArray⟩, .bool c.2]) (h : RdRow w v D.length 2 (D.flatMap f)) {k : Nat} {c : Chg} (hk : D[k]? = some c) :
    ∃ b off cap, v = .slice (some ⟨b, off, none⟩) D.length cap ∧ w.cell? ⟨b, off + k * 2, none⟩ = some (.string ⟨c.1.toArray⟩) ∧ w.cell? ⟨b, off + k * 2 + 1, none⟩ = some (.bool c.2) := by
  have hj : k < D.length := (List.getElem?_eq_some_iff.1 hk).1
  obtain ⟨b, off, cap, hv, hc⟩ := RdRow.at (fun c => by rw [hf]; rfl) h hj (by decide)
  have e : D.getD k default = c := by rw [List.getD_eq_getElem?_getD, hk]; rfl
  rw [e, hf] at hc
  exact ⟨b, off, cap, hv, hc 0 (by decide), hc 1 (by decide)⟩
theorem lists_eqC {a b : List Chg} (hl : a.length = b.length) (h : ∀ j, j < a.length → a[j]? = b[j]?) : a = b := by
  apply List.ext_getElem?
  intro j
  by_cases hj : j < a.length
  · exact h j hj
  · rw [List.getElem?_eq_none (by omega), List.getElem?_eq_none (by omega)]
theorem below_dN {w wr : World} (h : Below w.heap.size w wr) (n : Nat) : Below w.heap.size w (wr.drewN n) := h.trans ⟨rfl, rfl, rfl, Nat.le_refl _, fun _ _ => rfl⟩
set_option maxRecDepth 100000 in
set_option maxHeartbeats 1600000 in
theorem alike_calls {w : World} {D E : List Chg} {va vb : Value} (ha : RdRow w va D.length 2 (D.flatMap chc)) (hb : RdRow w vb E.length 2 (E.flatMap rchc)) :
    Calls Try.prog 12 #[va, vb] w fun e w' => e = .returned (.bool (decide (D = E))) ∧ Below w.heap.size w w' := by
  obtain ⟨a, cap, rfl, hc1, hc2⟩ := ha.shape
  obtain ⟨a', cap', rfl, hc1', hc2'⟩ := hb.shape
  unfold maxLen at hc2 hc2'
  have HA := Lib.hid ha
  have HB := Lib.hid hb
  clear ha hb
  by_cases hl : D.length = E.length
  · have hlb : ((D.length : Int) != E.length) = false := by simp [hl]
    have HL := Lib.hid hl
    clear hl
    go_enter Try.func12, Try.ntmps12
    (repeat' (first | (go_big_may; fail) | go_values | go_skip | go_guarded | go_step | go_upon | go_back | dsimp only))
    go_loopw [13] (fun i wr => ∃ k : Nat, i = .int .i64 k ∧ k ≤ D.length ∧ (∀ j, j < k → D[j]? = E[j]?) ∧ Below w.heap.size w wr) (fun i _ => D.length - (intOf i).toNat)
    case atStart => exact ⟨0, rfl, Nat.zero_le _, fun j hj => absurd hj (Nat.not_lt_zero _), Below.refl _ _⟩
    case round =>
      obtain ⟨k, rfl, hk, hpre, hbel⟩ := hrel
      have HP := Lib.hid hpre
      clear hpre
      by_cases hlt : k < D.length
      · obtain ⟨x, hx⟩ : ∃ x, D[k]? = some x := ⟨_, List.getElem?_eq_getElem hlt⟩
        have hlt2 : k < E.length := by have := HL.out; omega
        obtain ⟨y, hy⟩ : ∃ y, E[k]? = some y := ⟨_, List.getElem?_eq_getElem hlt2⟩
        obtain ⟨b, off, cp, hsl, hx0, hx1⟩ := chg_at (fun _ => rfl) (HA.out.below hbel) hx
        cases hsl
        obtain ⟨b', off', cp', hsl, hy0, hy1⟩ := chg_at (fun _ => rfl) (HB.out.below hbel) hy
        cases hsl
        have HX := Lib.hid hx
        have HY := Lib.hid hy
        have hi0 : (0 : Int) ≤ k := by omega
        have hi1 : (k : Int) < D.length := by omega
        have hi2 : (k : Int) < E.length := by omega
        obtain ⟨xw, xo⟩ := x
        obtain ⟨yw, yo⟩ := y
        dsimp only at hx0 hx1 hy0 hy1
        clear hx hy
        by_cases hxy : xw = yw
        · have hs : (xw == yw) = true := by simp [hxy]
          have HE := Lib.hid hxy
          clear hxy
          by_cases hxo : xo = yo
          · subst hxo
            (repeat' (first | (go_big_may; fail) | go_values | go_skip | go_guarded | go_step | go_upon | go_back | dsimp only))
            (refine region_still_tail 23 (by kernel_rfl) (by kernel_rfl) ?_; simp only [List.take_succ_cons, List.take_zero, List.drop_succ_cons, List.drop_zero]; (iterate 23 (first | ((with_reducible refine still_plain ?_ rfl ?_ ?_); rotate_left; (next => (go_simp; (try with_reducible rfl))); simp only [Act.put, List.setIfInBounds_toArray, List.set_cons_zero, List.set_cons_succ]) | ((with_reducible refine still_skip ?_ ?_); (next => (go_simp; done)); simp only [Act.put, List.setIfInBounds_toArray, List.set_cons_zero, List.set_cons_succ]) | ((with_reducible refine still_val ?_ ?_ ?_ ?_); rotate_left; (next => (go_simp; done)); (next => (go_simp; (try with_reducible rfl))); simp only [Act.put, List.setIfInBounds_toArray, List.set_cons_zero, List.set_cons_succ]))); (with_reducible refine wpStill_nil ?_))
            (repeat' (first | (go_big_may; fail) | go_values | go_skip | go_guarded | go_step | go_upon | go_back | dsimp only))
            go_roundw
            case rel =>
              refine ⟨k + 1, by go_num, by omega, fun j hj => ?_, hbel.trans ⟨rfl, rfl, rfl, Nat.le_refl _, fun _ _ => rfl⟩⟩
              by_cases hjk : j = k
              · rw [hjk, HX.out, HY.out, HE.out]
              · exact HP.out j (by omega)
            case measure => simp [intOf] <;> omega
          · have hso : (xo != yo) = true := by simpa using hxo
            have hso2 : (xo == yo) = false := by simpa using hxo
            (repeat' (first | (go_big_may; fail) | go_values | go_skip | go_guarded | go_step | go_upon | go_back | dsimp only))
            (refine region_still_tail 23 (by kernel_rfl) (by kernel_rfl) ?_; simp only [List.take_succ_cons, List.take_zero, List.drop_succ_cons, List.drop_zero]; (iterate 23 (first | ((with_reducible refine still_plain ?_ rfl ?_ ?_); rotate_left; (next => (go_simp; (try with_reducible rfl))); simp only [Act.put, List.setIfInBounds_toArray, List.set_cons_zero, List.set_cons_succ]) | ((with_reducible refine still_skip ?_ ?_); (next => (go_simp; done)); simp only [Act.put, List.setIfInBounds_toArray, List.set_cons_zero, List.set_cons_succ]) | ((with_reducible refine still_val ?_ ?_ ?_ ?_); rotate_left; (next => (go_simp; done)); (next => (go_simp; (try with_reducible rfl))); simp only [Act.put, List.setIfInBounds_toArray, List.set_cons_zero, List.set_cons_succ]))); (with_reducible refine wpStill_nil ?_))
            (repeat' (first | (go_big_may; fail) | go_values | go_skip | go_guarded | go_step | go_upon | go_back | dsimp only))
            go_ret
            have hne : decide (D = E) = false := by
              rw [decide_eq_false_iff_not]
              intro h
              have h1 := HX.out
              rw [h, HY.out] at h1
              cases h1
              exact hxo rfl
            exact ⟨by rw [hne]; rfl, hbel.trans ⟨rfl, rfl, rfl, Nat.le_refl _, fun _ _ => rfl⟩⟩
        · have hs : (xw == yw) = false := by simp [hxy]
          (repeat' (first | (go_big_may; fail) | go_values | go_skip | go_guarded | go_step | go_upon | go_back | dsimp only))
          (refine region_still_tail 23 (by kernel_rfl) (by kernel_rfl) ?_; simp only [List.take_succ_cons, List.take_zero, List.drop_succ_cons, List.drop_zero]; (iterate 23 (first | ((with_reducible refine still_plain ?_ rfl ?_ ?_); rotate_left; (next => (go_simp; (try with_reducible rfl))); simp only [Act.put, List.setIfInBounds_toArray, List.set_cons_zero, List.set_cons_succ]) | ((with_reducible refine still_skip ?_ ?_); (next => (go_simp; done)); simp only [Act.put, List.setIfInBounds_toArray, List.set_cons_zero, List.set_cons_succ]) | ((with_reducible refine still_val ?_ ?_ ?_ ?_); rotate_left; (next => (go_simp; done)); (next => (go_simp; (try with_reducible rfl))); simp only [Act.put, List.setIfInBounds_toArray, List.set_cons_zero, List.set_cons_succ]))); (with_reducible refine wpStill_nil ?_))
          (repeat' (first | (go_big_may; fail) | go_values | go_skip | go_guarded | go_step | go_upon | go_back | dsimp only))
          go_ret
          have hne : decide (D = E) = false := by
            rw [decide_eq_false_iff_not]
            intro h
            have h1 := HX.out
            rw [h, HY.out] at h1
            cases h1
            exact hxy rfl
          exact ⟨by rw [hne]; rfl, hbel.trans ⟨rfl, rfl, rfl, Nat.le_refl _, fun _ _ => rfl⟩⟩
      · (repeat' (first | (go_big_may; fail) | go_values | go_skip | go_guarded | go_step | go_upon | go_back | dsimp only))
        go_ret
        have : D = E := lists_eqC HL.out (fun j hj => HP.out j (by omega))
        exact ⟨by rw [decide_eq_true this]; rfl, hbel⟩
  · have hlb : ((D.length : Int) != E.length) = true := by simp; omega
    have hd : decide (D = E) = false := by
      rw [decide_eq_false_iff_not]
      intro h; exact hl (by rw [h])
    go_enter Try.func12, Try.ntmps12
    (repeat' (first | (go_big_may; fail) | go_values | go_skip | go_guarded | go_step | go_upon | go_back | dsimp only))
    go_ret
    exact ⟨by rw [hd]; rfl, Below.refl _ _⟩
abbrev emu : List UInt8 := [101, 109, 117]
theorem rises_r {L : List (List UInt8)} (h : RisesL L) : Rises L := fun j a b ha hb => by
  have h1 := rises_get h (Nat.lt_succ_self j) ha hb
  have h2 := h1.not
  have h3 := h1.ne
  refine ⟨by simpa using h2, ?_⟩
  simp
  exact fun e => h3 e.symm
/-- What Build makes of a few short words that rise. -/
structure Few (L : List (List UInt8)) : Prop where
  rises : RisesL L
  short : ∀ r ∈ L, r.length ≤ 255
  few : L.length + sumL L ≤ 1048575
theorem Few.facts {L : List (List UInt8)} (h : Few L) : buildP L = some (minT (setT L)) ∧ wT (setT L) [] = L ∧ Good (setT L) ∧ ((minT (setT L)).length ≤ 1048576 ∧ edgesN (minT (setT L)) ≤ 1048576) ∧ shapeB (minT (setT L)) = true ∧ Unf (minT (setT L)) 0 (setT L) := by
  obtain ⟨h1, h2⟩ := setT_words h.rises
  obtain ⟨h3, h4⟩ := minT_sz (setT L)
  have h5 := szT_setT L
  have h6 := h.few
  have hl : (minT (setT L)).length ≤ 1048576 := by omega
  exact ⟨build_tree h.short (by omega) h.rises, h1, h2, ⟨hl, by omega⟩, minT_shape h2 hl, minT_unf _⟩
theorem Few.build {L : List (List UInt8)} (h : Few L) {W : World} {v : Value} (hv : RdRow W v L.length 1 (strs L)) : Calls Try.prog 31 #[v] W fun e w' => ∃ ov, e = .returned (.tuple #[ov, .int .i64 0]) ∧ At W w' (Both (AutG tAS tAE ov (minT (setT L))) Nought) := by
  have h6 := h.few
  exact Build_at hv h.short (by omega) (rises_r h.rises) h.facts.1 (by have := h.facts.2.2.2.1.1; omega)
theorem few1 : Few [cat, dog] := ⟨by simp [RisesL]; decide, by decide, by decide⟩
theorem few2 : Few [cats, dog, emu] := ⟨by simp [RisesL]; decide, by decide, by decide⟩
theorem fit_two {A B : List Sta} {ta tb : Trie} (ha : shapeB A = true) (hb : shapeB B = true) (hta : Unf A 0 ta) (htb : Unf B 0 tb) (hca : cntT ta ≤ 65536) (hcb : cntT tb ≤ 65536) : FitR [A, B] 0 :=
  .inr ⟨fun C hC => by simp at hC; rcases hC with rfl | rfl <;> assumption, .inr ⟨rfl, fun C hC => by
    simp at hC
    rcases hC with rfl | rfl
    · exact ⟨ta, hta, hca⟩
    · exact ⟨tb, htb, hcb⟩⟩⟩
theorem diff_wake : diffL [cat, dog] [cats, dog, emu] = [(cat, true), (cats, false), (emu, false)] := by decide
set_option maxRecDepth 100000 in
set_option maxHeartbeats 1600000 in
theorem wakes_calls (w : World) : Calls Try.prog 11 #[] w fun e w' => e = .returned (.bool true) ∧ Below w.heap.size w w' := by
  have hrd := lit_rd (w := w) (T := 9) #[.string ⟨#[99, 97, 116]⟩, .string ⟨#[100, 111, 103]⟩] 2 1 rfl (by simp [maxLen])
  have HB := Lib.hid (few1.build hrd)
  clear hrd
  go_enter Try.func11, Try.ntmps11
  (repeat' (first | (go_big_may; fail) | go_values | go_skip | go_guarded | go_step | go_upon | go_back | dsimp only))
  refine HB.out.mono ?_
  rintro e1 w1 ⟨va, rfl, h1⟩
  have H1 := Lib.hid (h1.rebase (W := w) ((Below.refl _ _).alloc (Nat.le_refl _) _))
  have hrd := lit_rd (w := w1) (T := 9) #[.string ⟨#[99, 97, 116, 115]⟩, .string ⟨#[100, 111, 103]⟩, .string ⟨#[101, 109, 117]⟩] 3 1 rfl (by simp [maxLen])
  have HB2 := Lib.hid (few2.build hrd)
  clear hrd h1 HB
  (repeat' (first | (go_big_may; fail) | go_values | go_skip | go_guarded | go_step | go_upon | go_back | dsimp only))
  refine HB2.out.mono ?_
  rintro e2 w2 ⟨vb, rfl, h2⟩
  have h3 := (H1.out.alloc ((AutG.stable _ _ _ _).both Stable.nought) (.cells #[.string ⟨#[99, 97, 116, 115]⟩, .string ⟨#[100, 111, 103]⟩, .string ⟨#[101, 109, 117]⟩] 9)).glue ((AutG.stable _ _ _ _).both Stable.nought) h2
  obtain ⟨p1, p2, p3, p4, p5, p6⟩ := few1.facts
  obtain ⟨q1, q2, q3, q4, q5, q6⟩ := few2.facts
  have hca : cntT (setT [cat, dog]) ≤ 65536 := by rw [cnt_words p3, p2]; decide
  have hcb : cntT (setT [cats, dog, emu]) ≤ 65536 := by rw [cnt_words q3, q2]; decide
  have hd := Diff_ok h3.drop.autRd h3.autRd p4 q4 (fit_two p5 q5 p6 q6 hca hcb) p6 q6 (by rw [p2]; decide) (by rw [q2]; decide)
  rw [p2, q2, diff_wake] at hd
  obtain ⟨aa, ac, rfl, _, _⟩ := h3.drop.autRd.shape
  obtain ⟨ba, bc, rfl, _, _⟩ := h3.autRd.shape
  have HD := Lib.hid hd
  have HBL := Lib.hid h3.below
  clear hd h2 h3 p1 p2 p3 p4 p5 p6 q1 q2 q3 q4 q5 q6 hca hcb HB2 H1
  (repeat' (first | (go_big_may; fail) | go_values | go_skip | go_guarded | go_step | go_upon | go_back | dsimp only))
  refine HD.out.mono ?_
  rintro e4 w4 ⟨vo, rfl, h4⟩
  obtain ⟨g, cap, rfl, _, _⟩ := own_cut h4.rowG (by decide)
  obtain ⟨c0, _, _⟩ := h4.rowCell (j := 0) rfl
  obtain ⟨c1, _, _⟩ := h4.rowCell (j := 1) rfl
  obtain ⟨c2, _, _⟩ := h4.rowCell (j := 2) rfl
  obtain ⟨c3, _, _⟩ := h4.rowCell (j := 3) rfl
  have HB4 := Lib.hid (HBL.out.trans (h4.below.mono HBL.out.size))
  clear h4 HD
  (repeat' (first | (go_big_may; fail) | go_values | go_skip | go_guarded | go_step | go_upon | go_back | dsimp only))
  go_ret
  exact ⟨rfl, HB4.out⟩
/-- The lists of two automata that fit. -/
structure Fit2 (A B : List Sta) (ta tb : Trie) : Prop where
  sa : shapeB A = true
  sb : shapeB B = true
  ua : Unf A 0 ta
  ub : Unf B 0 tb
  ca : cntT ta ≤ 65536
  cb : cntT tb ≤ 65536
theorem fit2_or (A B : List Sta) : (∃ ta tb, Fit2 A B ta tb) ∨ ∃ E, FitR [A, B] E ∧ E ≠ 0 := by
  obtain ⟨E, hE⟩ := fitR_total [A, B]
  by_cases h0 : E = 0
  · subst h0
    rcases hE with ⟨h, _⟩ | ⟨hall, ⟨h, _⟩ | ⟨_, h⟩⟩
    · cases h
    · cases h
    · obtain ⟨ta, h1, h2⟩ := h A (by simp)
      obtain ⟨tb, h3, h4⟩ := h B (by simp)
      exact .inl ⟨ta, tb, hall A (by simp), hall B (by simp), h1, h3, h2, h4⟩
  · exact .inr ⟨E, hE, h0⟩
theorem Fit2.fit {A B : List Sta} {ta tb : Trie} (h : Fit2 A B ta tb) : FitR [A, B] 0 := fit_two h.sa h.sb h.ua h.ub h.ca h.cb
theorem Fit2.rises {A B : List Sta} {ta tb : Trie} (h : Fit2 A B ta tb) : RisesL (wT ta []) ∧ RisesL (wT tb []) ∧ (wT ta []).length ≤ 65536 ∧ (wT tb []).length ≤ 65536 := by
  have ga := good_root h.sa h.ua
  have gb := good_root h.sb h.ub
  have ha := h.ca
  have hb := h.cb
  rw [cnt_words ga] at ha
  rw [cnt_words gb] at hb
  exact ⟨words_rise ga, words_rise gb, ha, hb⟩
end Go.Proofs.Ytcbdncjknpdnbaa
