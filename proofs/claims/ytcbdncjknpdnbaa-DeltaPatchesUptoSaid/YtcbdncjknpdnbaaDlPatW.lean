/- hornbookref27.Patch walked. · DeltaPatches walked. -/
import Derived.Test.YtcbdncjknpdnbaaAuW
import Derived.Test.YtcbdncjknpdnbaaDlPatch
import Derived.Test.YtcbdncjknpdnbaaWkEqual
import Derived.Test.YtcbdncjknpdnbaaOpen
import Derived.Test.YtcbdncjknpdnbaaDlOpen
namespace Go.Proofs.Ytcbdncjknpdnbaa
section
open Go.RowKit

/-- How the document's Patch ends. -/
def RPatP (W : World) (xs : List (List UInt8)) (D : List Chg) (e : Ending) (w' : World) : Prop :=
  ((longC D || longW xs) = true ∧ e = .returned (.tuple #[.slice none 0 0, .int .i64 22]) ∧ Below W.heap.size W w') ∨
  ((longC D || longW xs) = false ∧ patchS xs D = none ∧ e = .returned (.tuple #[.slice none 0 0, .int .i64 270]) ∧ Below W.heap.size W w') ∨
  ((longC D || longW xs) = false ∧ ∃ S, patchS xs D = some S ∧ ∃ vo, e = .returned (.tuple #[vo, .int .i64 0]) ∧ At W w' (Both (AutG tRS tRE vo (minT (setT S))) Nought))
theorem longW_at {xs : List (List UInt8)} {i : Nat} {x : List UInt8} (hx : xs[i]? = some x) : longW (xs.take (i + 1)) = (longW (xs.take i) || decide (255 < x.length)) := by
  rw [List.take_add_one, hx]
  exact longW_snoc _ _
theorem longC_at {D : List Chg} {i : Nat} {c : Chg} (hx : D[i]? = some c) : longC (D.take (i + 1)) = (longC (D.take i) || decide (255 < c.1.length)) := by
  rw [List.take_add_one, hx]
  unfold longC
  rw [List.any_append]; simp
theorem longW_yes {xs : List (List UInt8)} {i : Nat} {x : List UInt8} (hx : xs[i]? = some x) (h : 255 < x.length) : longW xs = true := List.any_eq_true.2 ⟨x, List.mem_of_getElem? hx, decide_eq_true h⟩
theorem longC_yes {D : List Chg} {i : Nat} {c : Chg} (hx : D[i]? = some c) (h : 255 < c.1.length) : longC D = true := List.any_eq_true.2 ⟨c, List.mem_of_getElem? hx, decide_eq_true h⟩
set_option maxRecDepth 100000 in
set_option maxHeartbeats 3200000 in
theorem RPatch_ok {w : World} {A : List Sta} {va : Value} (hA : RdAut w va A) (hlA : A.length ≤ 1048576 ∧ edgesN A ≤ 1048576) {vd : Value} {D : List Chg} (hD : RdRow w vd D.length 2 (D.flatMap rchc)) (hn : D.length ≤ 1048576) (hdw : ∀ c ∈ D, c.1.length ≤ 1048576) (hs : shapeB A = true) {t : Trie} (ht : Unf A 0 t) (hc : cntT t ≤ 65536) :
    Calls Try.prog 22 #[va, vd] w (RPatP w (wT t []) D) := by
  have hsh := RShape_calls hA hlA
  rw [shapeV_ok hs] at hsh
  have hgd := good_root hs ht
  have hxl : (wT t []).length ≤ 65536 := by rw [← cnt_words hgd]; exact hc
  have HXR := Lib.hid (words_rise hgd)
  have HXW := Lib.hid (fun w (h : w ∈ wT t []) => show w.length ≤ 1048576 by have := word_len hgd h; have := htT_lt ht; omega)
  have HSH := Lib.hid hsh
  have HWS := Lib.hid (fun (w1 : World) (hb : Below w.heap.size w w1) => RWords_calls (hA.below hb) hlA hs ht hc)
  have HD := Lib.hid hD
  have HDW := Lib.hid hdw
  obtain ⟨aa, ac, rfl, _, _⟩ := hA.shape
  obtain ⟨da, dc, rfl, _, hdcm⟩ := hD.shape
  unfold maxLen at hdcm
  clear hsh hgd hA hD hs hc hdw ht
  generalize wT t [] = xs at *
  go_enter Try.func22, Try.ntmps22
  (repeat' (first | (go_big_may; fail) | go_values | go_skip | go_guarded | go_step | go_upon | go_back | dsimp only))
  refine HSH.out.mono ?_
  rintro e1 w1 ⟨rfl, hb1⟩
  have HB1 := Lib.hid hb1
  clear hb1 HSH
  (repeat' (first | (go_big_may; fail) | go_values | go_skip | go_guarded | go_step | go_upon | go_back | dsimp only))
  refine (HWS.out w1 HB1.out).mono ?_
  rintro e2 w2 ⟨vx, rfl, h2⟩
  obtain ⟨xa, xc, rfl, _, hxc⟩ := own_shape h2.rowG
  have H2 := Lib.hid (h2.rebase HB1.out)
  clear h2 HWS
  (repeat' (first | (go_big_may; fail) | go_values | go_skip | go_guarded | go_step | go_upon | go_back | dsimp only))
  go_loopw [9] (fun vi wr => ∃ i : Nat, vi = .int .i64 i ∧ i ≤ xs.length ∧ longW (xs.take i) = false ∧ wr = w2) (fun vi _ => xs.length - (intOf vi).toNat)
  case atStart => exact ⟨0, rfl, Nat.zero_le _, rfl, rfl⟩
  case round =>
    obtain ⟨i, rfl, hi, hlw, rfl⟩ := hrel
    by_cases hlt : i < xs.length
    · obtain ⟨x, hx⟩ : ∃ x, xs[i]? = some x := ⟨_, List.getElem?_eq_getElem hlt⟩
      obtain ⟨g, off, cp, hsl, hcx⟩ := RdRow.str (RdRow.of_own H2.out.rowG) hx
      cases hsl
      have hiI : (i : Int) < (xs.length : Int) := by omega
      have hlx : x.length ≤ 1048576 := HXW.out x (List.mem_of_getElem? hx)
      by_cases hl : 255 < x.length
      · have hlI : (255 : Int) < (x.length : Int) := by omega
        have HLW := Lib.hid (longW_yes hx hl)
        clear hx hlw
        (repeat' (first | (go_big_may; fail) | go_values | go_skip | go_guarded | go_step | go_upon | go_back | dsimp only))
        go_ret2
        exact .inl ⟨by rw [HLW.out, Bool.or_true], rfl, H2.out.below⟩
      · have hlI : ¬ (255 : Int) < (x.length : Int) := by omega
        have hnx := longW_at hx
        rw [hlw, decide_eq_false hl] at hnx
        have HNX := Lib.hid hnx
        clear hx hlw hnx
        (repeat' (first | (go_big_may; fail) | go_values | go_skip | go_guarded | go_step | go_upon | go_back | dsimp only))
        go_roundw
        case rel => exact ⟨i + 1, by go_num, by omega, HNX.out, by first | rfl | trivial⟩
        case measure => simp [intOf] <;> omega
    · obtain rfl : i = xs.length := by omega
      have hiI : ¬ (xs.length : Int) < (xs.length : Int) := by omega
      rw [List.take_length] at hlw
      have HLW := Lib.hid hlw
      clear hlw
      (repeat' (first | (go_big_may; fail) | go_values | go_skip | go_guarded | go_step | go_upon | go_back | dsimp only))
      go_loopw [10] (fun vi wq => ∃ i : Nat, vi = .int .i64 i ∧ i ≤ D.length ∧ longC (D.take i) = false ∧ wq = wr) (fun vi _ => D.length - (intOf vi).toNat)
      case atStart => exact ⟨0, rfl, Nat.zero_le _, rfl, rfl⟩
      case round =>
        obtain ⟨i, rfl, hi, hlw, rfl⟩ := hrel
        by_cases hlt : i < D.length
        · obtain ⟨c, hx⟩ : ∃ c, D[i]? = some c := ⟨_, List.getElem?_eq_getElem hlt⟩
          obtain ⟨g, off, cp, hsl, hcx, hcy⟩ := chg_at (fun _ => rfl) (HD.out.below H2.out.below) hx
          cases hsl
          have hiI : (i : Int) < (D.length : Int) := by omega
          have hlx : c.1.length ≤ 1048576 := HDW.out c (List.mem_of_getElem? hx)
          by_cases hl : 255 < c.1.length
          · have hlI : (255 : Int) < (c.1.length : Int) := by omega
            have HLC := Lib.hid (longC_yes hx hl)
            clear hx hlw
            (repeat' (first | (go_big_may; fail) | go_values | go_skip | go_guarded | go_step | go_upon | go_back | dsimp only))
            go_ret2
            exact .inl ⟨by rw [HLC.out, Bool.true_or], rfl, H2.out.below⟩
          · have hlI : ¬ (255 : Int) < (c.1.length : Int) := by omega
            have hnx := longC_at hx
            rw [hlw, decide_eq_false hl] at hnx
            have HNX := Lib.hid hnx
            clear hx hlw hnx
            (repeat' (first | (go_big_may; fail) | go_values | go_skip | go_guarded | go_step | go_upon | go_back | dsimp only))
            go_roundw
            case rel => exact ⟨i + 1, by go_num, by omega, HNX.out, by first | rfl | trivial⟩
            case measure => simp [intOf] <;> omega
        · obtain rfl : i = D.length := by omega
          have hiI : ¬ (D.length : Int) < (D.length : Int) := by omega
          rw [List.take_length] at hlw
          have HSHORT := Lib.hid (show (longC D || longW xs) = false by rw [hlw, HLW.out]; rfl)
          clear hlw
          (repeat' (first | (go_big_may; fail) | go_values | go_skip | go_guarded | go_step | go_upon | go_back | dsimp only))
          go_loopw [7, 11] (fun vs vi wq => ∃ (i : Nat) (S : List (List UInt8)), vi = .int .i64 i ∧ i ≤ D.length ∧ patchS xs (D.take i) = some S ∧ At w wq (Both (RowG tSt 1 vs S.length (strs S)) Nought)) (fun _ vi _ => D.length - (intOf vi).toNat)
          case atStart => exact ⟨0, xs, rfl, Nat.zero_le _, by simp [patchS], H2.out⟩
          case round =>
            obtain ⟨i, S, rfl, hi, hps, h3⟩ := hrel
            have hok := patch_ok HXR.out hps
            have hSl : S.length ≤ 1114112 := by have := hok.len; have h9 : (D.take i).length ≤ D.length := (List.take_sublist i D).length_le; omega
            obtain ⟨sa, sc, hvs, _, _⟩ := own_shape h3.rowG
            cases hvs
            by_cases hlt : i < D.length
            · obtain ⟨c, hx⟩ : ∃ c, D[i]? = some c := ⟨_, List.getElem?_eq_getElem hlt⟩
              obtain ⟨g, off, cp, hsl, hcx, hcy⟩ := chg_at (fun _ => rfl) (HD.out.below h3.below) hx
              cases hsl
              have hiI : (i : Int) < (D.length : Int) := by omega
              have hhas := RHas_calls hok.rises (RdRow.of_own h3.rowG) (by omega) c.1
              have hnext : patchS xs (D.take (i + 1)) = stepS S c := by rw [List.take_add_one, hx]; show patchS xs (D.take i ++ [c]) = _; rw [patch_snoc, hps]
              have h4 := h3.newLits8 ((RowG.stable _ _ _ _ _).both Stable.nought) tSt 1 1 #[.string ⟨c.1.toArray⟩] rfl (by unfold maxLen; omega)
              by_cases hin : decide (c.1 ∈ S) = c.2
              · rw [step_ok hin] at hnext
                rw [hin] at hhas
                have HHAS := Lib.hid hhas
                have HST2 := Lib.hid ((RowG.stable tSt 1 (.slice (some ⟨wr.heap.size, 0, none⟩) 1 1) 1 [.string ⟨c.1.toArray⟩]).both ((RowG.stable tSt 1 (.slice sa S.length sc) S.length (strs S)).both Stable.nought))
                have hmin := RMinus_calls (lb := [c.1]) (RdRow.of_own h4.drop.rowG) (RdRow.of_own h4.rowG) (rises_one c.1) (by omega) (by simp)
                have huni := RUnion_calls (lb := [c.1]) (RdRow.of_own h4.drop.rowG) (RdRow.of_own h4.rowG) (by simp; omega)
                have H2 := Lib.hid h4
                have HB3 := Lib.hid h3.below
                cases hc2 : c.2 with
                | true =>
                  rw [hc2] at hnext hcy HHAS
                  rw [if_pos rfl] at hnext
                  have HNX := Lib.hid hnext
                  have hcall := hmin
                  clear hx hps hok hnext hhas h3 h4 hin hmin huni hc2
                  (repeat' (first | (go_big_may; fail) | go_values | go_skip | go_guarded | go_step | go_upon | go_back | dsimp only))
                  refine HHAS.out.mono ?_
                  rintro e4 w4 ⟨rfl, rfl⟩
                  have HM2 := Lib.hid hcall
                  clear hcall
                  (repeat' (first | (go_big_may; fail) | go_values | go_skip | go_guarded | go_step | go_upon | go_back | dsimp only))
                  refine HM2.out.mono ?_
                  rintro e6 w6 ⟨vs2, rfl, h6⟩
                  have H6 := Lib.hid (H2.out.glue HST2.out h6).swap.drop.swap.drop
                  clear h6 HM2
                  (repeat' (first | (go_big_may; fail) | go_values | go_skip | go_guarded | go_step | go_upon | go_back | dsimp only))
                  go_roundw
                  case rel => exact ⟨i + 1, _, by go_num, by omega, HNX.out, H6.out⟩
                  case measure => simp [intOf] <;> omega
                | false =>
                  rw [hc2] at hnext hcy HHAS
                  rw [if_neg (by simp)] at hnext
                  have HNX := Lib.hid hnext
                  have hcall := huni
                  clear hx hps hok hnext hhas h3 h4 hin hmin huni hc2
                  (repeat' (first | (go_big_may; fail) | go_values | go_skip | go_guarded | go_step | go_upon | go_back | dsimp only))
                  refine HHAS.out.mono ?_
                  rintro e4 w4 ⟨rfl, rfl⟩
                  have HM2 := Lib.hid hcall
                  clear hcall
                  (repeat' (first | (go_big_may; fail) | go_values | go_skip | go_guarded | go_step | go_upon | go_back | dsimp only))
                  refine HM2.out.mono ?_
                  rintro e6 w6 ⟨vs2, rfl, h6⟩
                  have H6 := Lib.hid (H2.out.glue HST2.out h6).swap.drop.swap.drop
                  clear h6 HM2
                  (repeat' (first | (go_big_may; fail) | go_values | go_skip | go_guarded | go_step | go_upon | go_back | dsimp only))
                  go_roundw
                  case rel => exact ⟨i + 1, _, by go_num, by omega, HNX.out, H6.out⟩
                  case measure => simp [intOf] <;> omega
              · rw [step_no hin] at hnext
                have HNO := Lib.hid (patch_none hnext)
                have HB3 := Lib.hid h3.below
                have hne : ¬ decide (c.1 ∈ S) = c.2 := hin
                generalize decide (c.1 ∈ S) = bi at *
                generalize c.2 = bo at *
                have HHAS := Lib.hid hhas
                clear hx hps hok hnext hhas h3 h4
                cases bi <;> cases bo <;> first | exact absurd rfl hne | skip
                all_goals
                  clear hne hin
                  (repeat' (first | (go_big_may; fail) | go_values | go_skip | go_guarded | go_step | go_upon | go_back | dsimp only))
                  refine HHAS.out.mono ?_
                  rintro e4 w4 ⟨rfl, rfl⟩
                  (repeat' (first | (go_big_may; fail) | go_values | go_skip | go_guarded | go_step | go_upon | go_back | dsimp only))
                  go_ret2
                  exact .inr (.inl ⟨HSHORT.out, HNO.out, rfl, HB3.out⟩)
            · obtain rfl : i = D.length := by omega
              have hiI : ¬ (D.length : Int) < (D.length : Int) := by omega
              rw [List.take_length] at hps hok
              have hau := RAut_calls hok.rises (short_of HSHORT.out hok) (by omega) (RdRow.of_own h3.rowG)
              have HAU := Lib.hid hau
              have H3 := Lib.hid h3
              have HPS := Lib.hid hps
              clear hau h3 hps hok
              (repeat' (first | (go_big_may; fail) | go_values | go_skip | go_guarded | go_step | go_upon | go_back | dsimp only))
              refine HAU.out.mono ?_
              rintro e5 w5 ⟨vo, rfl, h5⟩
              have H5 := Lib.hid (H3.out.glue ((RowG.stable _ _ _ _ _).both Stable.nought) h5).swap.drop
              clear h5 HAU
              (repeat' (first | (go_big_may; fail) | go_values | go_skip | go_guarded | go_step | go_upon | go_back | dsimp only))
              go_ret2
              exact .inr (.inr ⟨HSHORT.out, S, HPS.out, vo, rfl, H5.out⟩)
set_option maxRecDepth 100000 in
set_option maxHeartbeats 1600000 in
theorem RPatch_bad {w : World} {A : List Sta} {va : Value} (hA : RdAut w va A) (hlA : A.length ≤ 1048576 ∧ edgesN A ≤ 1048576) {vd : Value} {D : List Chg} (hD : RdRow w vd D.length 2 (D.flatMap rchc)) {E : Int} (hE : FitR [A] E) (h0 : E ≠ 0) :
    Calls Try.prog 22 #[va, vd] w fun e w' => e = .returned (.tuple #[.slice none 0 0, .int .i64 E]) ∧ Below w.heap.size w w' := by
  have HSA := Lib.hid (RShape_calls hA hlA)
  obtain ⟨aa, ac, hva, _, _⟩ := hA.shape
  obtain ⟨da, dc, rfl, _, _⟩ := hD.shape
  have HA := Lib.hid hA
  have HE := Lib.hid hE
  subst hva
  clear hA hE hD
  cases hsa : shapeB A with
  | false =>
    obtain rfl := HE.out.bad (A := A) (by simp) hsa
    rw [shapeV_bad hsa] at HSA
    clear hsa h0
    go_enter Try.func22, Try.ntmps22
    (repeat' (first | (go_big_may; fail) | go_values | go_skip | go_guarded | go_step | go_upon | go_back | dsimp only))
    refine HSA.out.mono ?_
    rintro e1 w1 ⟨rfl, hb1⟩
    have HB1 := Lib.hid hb1
    clear hb1
    (repeat' (first | (go_big_may; fail) | go_values | go_skip | go_guarded | go_step | go_upon | go_back | dsimp only))
    go_ret2
    exact ⟨rfl, HB1.out⟩
  | true =>
    rw [shapeV_ok hsa] at HSA
    have hall : ∀ C ∈ [A], shapeB C = true := fun C hC => by simp at hC; subst hC; exact hsa
    have hsha := shaped_of hsa
    obtain ⟨ta, hta, _⟩ := hsha.tr 0 hsha.pos
    have h191 : E = 191 := by
      rcases HE.out with ⟨_, C, hC, hs⟩ | ⟨_, ⟨h, _⟩ | ⟨h, _⟩⟩
      · rw [hall C hC] at hs; cases hs
      · exact h
      · exact absurd h h0
    have hmany : 65536 < cntT ta := by
      refine Classical.byContradiction fun h => h0 (HE.out.ok hall fun C hC t ht => ?_)
      simp at hC
      subst hC
      rw [ht.uniq hta]; omega
    subst h191
    have HWA := Lib.hid (fun (w1 : World) (hb : Below w.heap.size w w1) => RWords_many (HA.out.below hb) hlA hsa hta hmany)
    clear hall hsa hta h0 hsha hmany
    go_enter Try.func22, Try.ntmps22
    (repeat' (first | (go_big_may; fail) | go_values | go_skip | go_guarded | go_step | go_upon | go_back | dsimp only))
    refine HSA.out.mono ?_
    rintro e1 w1 ⟨rfl, hb1⟩
    have HB1 := Lib.hid hb1
    clear hb1
    (repeat' (first | (go_big_may; fail) | go_values | go_skip | go_guarded | go_step | go_upon | go_back | dsimp only))
    refine (HWA.out w1 HB1.out).mono ?_
    rintro e2 w2 ⟨rfl, hb2⟩
    have HB2 := Lib.hid (HB1.out.trans (hb2.mono HB1.out.size))
    clear hb2
    (repeat' (first | (go_big_may; fail) | go_values | go_skip | go_guarded | go_step | go_upon | go_back | dsimp only))
    go_ret2
    exact ⟨rfl, HB2.out⟩
end

section
open Go.RowKit

theorem fit1_or (A : List Sta) : (∃ t, shapeB A = true ∧ Unf A 0 t ∧ cntT t ≤ 65536) ∨ ∃ E : Int, FitR [A] E ∧ E ≠ 0 := by
  cases hs : shapeB A with
  | false => exact .inr ⟨190, .inl ⟨rfl, A, by simp, hs⟩, by decide⟩
  | true =>
    have hsh := shaped_of hs
    obtain ⟨t, ht, _⟩ := hsh.tr 0 hsh.pos
    by_cases hc : cntT t ≤ 65536
    · exact .inl ⟨t, rfl, ht, hc⟩
    · exact .inr ⟨191, .inr ⟨fun C hC => by simp at hC; subst hC; exact hs, .inl ⟨rfl, A, by simp, t, ht, by omega⟩⟩, by decide⟩
theorem nil_aut {w w' : World} (hb : Below w.heap.size w w') (tS tE : TypeId) : At w w' (Both (AutG tS tE (.slice none 0 0) []) Nought) := At.autG ((At.nought hb).noAut Stable.nought tS tE)
/-- What both answer. -/
theorem patch_any (A : List Sta) (hlA : A.length ≤ 1048576 ∧ edgesN A ≤ 1048576) (D : List Chg) (hn : D.length ≤ 1048576) (hdw : ∀ c ∈ D, c.1.length ≤ 1048576) : ∃ (M : List Sta) (E : Int), (M.length ≤ 1099511627776 ∧ edgesN M ≤ 1099511627776) ∧
    (∀ (w : World) (va vd : Value), RdAut w va A → RdRow w vd D.length 2 (D.flatMap chc) → Calls Try.prog 21 #[va, vd] w fun e w' => ∃ vb, e = .returned (.tuple #[vb, .int .i64 E]) ∧ At w w' (Both (AutG tAS tAE vb M) Nought)) ∧
    (∀ (w : World) (va vd : Value), RdAut w va A → RdRow w vd D.length 2 (D.flatMap rchc) → Calls Try.prog 22 #[va, vd] w fun e w' => ∃ vb, e = .returned (.tuple #[vb, .int .i64 E]) ∧ At w w' (Both (AutG tRS tRE vb M) Nought)) := by
  rcases fit1_or A with ⟨t, hs, ht, hc⟩ | ⟨E, hE, h0⟩
  · have hr := words_rise (good_root hs ht)
    have hxl : (wT t []).length ≤ 65536 := by rw [← cnt_words (good_root hs ht)]; exact hc
    cases hl : (longC D || longW (wT t [])) with
    | true =>
      refine ⟨[], 22, by simp [edgesN], fun w va vd ha hd => (Patch_ok ha hlA hd hn hdw hs ht hc).mono ?_, fun w va vd ha hd => (RPatch_ok ha hlA hd hn hdw hs ht hc).mono ?_⟩
      · rintro e w' (⟨_, rfl, hb⟩ | ⟨h, _⟩ | ⟨h, _⟩)
        · exact ⟨_, rfl, nil_aut hb _ _⟩
        · rw [hl] at h; cases h
        · rw [hl] at h; cases h
      · rintro e w' (⟨_, rfl, hb⟩ | ⟨h, _⟩ | ⟨h, _⟩)
        · exact ⟨_, rfl, nil_aut hb _ _⟩
        · rw [hl] at h; cases h
        · rw [hl] at h; cases h
    | false =>
      cases hp : patchS (wT t []) D with
      | none =>
        refine ⟨[], 270, by simp [edgesN], fun w va vd ha hd => (Patch_ok ha hlA hd hn hdw hs ht hc).mono ?_, fun w va vd ha hd => (RPatch_ok ha hlA hd hn hdw hs ht hc).mono ?_⟩
        · rintro e w' (⟨h, _⟩ | ⟨_, _, rfl, hb⟩ | ⟨_, S, h, _⟩)
          · rw [hl] at h; cases h
          · exact ⟨_, rfl, nil_aut hb _ _⟩
          · rw [hp] at h; cases h
        · rintro e w' (⟨h, _⟩ | ⟨_, _, rfl, hb⟩ | ⟨_, S, h, _⟩)
          · rw [hl] at h; cases h
          · exact ⟨_, rfl, nil_aut hb _ _⟩
          · rw [hp] at h; cases h
      | some S =>
        have hok := patch_ok hr hp
        have h255 := short_of hl hok
        have hsum := sum_255 h255
        have hlen := hok.len
        have hm := minT_sz (setT S)
        have hz := szT_setT S
        refine ⟨minT (setT S), 0, by omega, fun w va vd ha hd => (Patch_ok ha hlA hd hn hdw hs ht hc).mono ?_, fun w va vd ha hd => (RPatch_ok ha hlA hd hn hdw hs ht hc).mono ?_⟩
        · rintro e w' (⟨h, _⟩ | ⟨_, h, _⟩ | ⟨_, S', h, vo, rfl, hat⟩)
          · rw [hl] at h; cases h
          · rw [hp] at h; cases h
          · rw [hp] at h; cases h; exact ⟨vo, rfl, hat⟩
        · rintro e w' (⟨h, _⟩ | ⟨_, h, _⟩ | ⟨_, S', h, vo, rfl, hat⟩)
          · rw [hl] at h; cases h
          · rw [hp] at h; cases h
          · rw [hp] at h; cases h; exact ⟨vo, rfl, hat⟩
  · exact ⟨[], E, by simp [edgesN], fun w va vd ha hd => (Patch_bad ha hlA hd hE h0).mono (by rintro e w' ⟨rfl, hb⟩; exact ⟨_, rfl, nil_aut hb _ _⟩), fun w va vd ha hd => (RPatch_bad ha hlA hd hE h0).mono (by rintro e w' ⟨rfl, hb⟩; exact ⟨_, rfl, nil_aut hb _ _⟩)⟩
set_option maxRecDepth 100000 in
set_option maxHeartbeats 3200000 in
theorem deltaPatches_walk (W : World) (A : List Sta) (v0 : Value) (hA : RdAut W v0 A) (hlA : A.length ≤ 1048576 ∧ edgesN A ≤ 1048576) (D : List Chg) (v1 : Value) (hD : RdRow W v1 D.length 2 (D.flatMap chc)) (hb : bulkC D ≤ 1048576) :
    Calls Try.prog 6 #[v0, v1] W fun e W' => e = .returned (.bool true) ∧ Below W.heap.size W W' := by
  have hn : D.length ≤ 1048576 := Nat.le_trans (bulkC_len D) hb
  have hdw : ∀ c ∈ D, c.1.length ≤ 1048576 := fun c hc => Nat.le_trans (bulkC_mem hc) hb
  obtain ⟨M, E, hM, hP, hRP⟩ := patch_any A hlA D hn hdw
  obtain ⟨aa, ac, rfl, _, _⟩ := hA.shape
  obtain ⟨da, dc, rfl, _, _⟩ := hD.shape
  have HA := Lib.hid hA
  have HD := Lib.hid hD
  have HM := Lib.hid hM
  have HP := Lib.hid hP
  have HRP := Lib.hid hRP
  have HSA := Lib.hid (ref_calls hA hlA)
  clear hA hD hdw hM hP hRP
  go_enter Try.func6, Try.ntmps6
  (repeat' (first | (go_big_may; fail) | go_values | go_skip | go_guarded | go_step | go_upon | go_back | dsimp only))
  refine HSA.out.mono ?_
  rintro e1 w1 ⟨vx, rfl, h1⟩
  have H1 := Lib.hid h1
  have HTW := Lib.hid (twinC_calls (HD.out.below h1.below) (by omega))
  obtain ⟨xa, xc, rfl, _, _⟩ := h1.autRd.shape
  clear h1 HSA
  (repeat' (first | (go_big_may; fail) | go_values | go_skip | go_guarded | go_step | go_upon | go_back | dsimp only))
  refine HTW.out.mono ?_
  rintro e2 w2 ⟨vg, rfl, h2⟩
  have H2 := Lib.hid (H1.out.glue ((AutG.stable _ _ _ _).both Stable.nought) h2)
  have HST2 := Lib.hid ((RowG.stable tCh 2 vg D.length (D.flatMap chc)).both ((AutG.stable tRS tRE (.slice xa A.length xc) A).both Stable.nought))
  have HPC := Lib.hid (HP.out w2 _ vg (HA.out.below H2.out.below) (RdRow.of_own H2.out.rowG))
  obtain ⟨ga, gc, rfl, _, _⟩ := own_shape h2.rowG
  clear h2 H1 HTW HP
  (repeat' (first | (go_big_may; fail) | go_values | go_skip | go_guarded | go_step | go_upon | go_back | dsimp only))
  refine HPC.out.mono ?_
  rintro e3 w3 ⟨vb, rfl, h3⟩
  have H3 := Lib.hid (H2.out.glue HST2.out h3)
  have HST3 := Lib.hid ((AutG.stable tAS tAE vb M).both HST2.out)
  obtain ⟨ba, bc, rfl, _, _⟩ := h3.autRd.shape
  have HRF := Lib.hid (refs_calls (HD.out.below H3.out.below) (by omega))
  clear h3 H2 HPC
  (repeat' (first | (go_big_may; fail) | go_values | go_skip | go_guarded | go_step | go_upon | go_back | dsimp only))
  refine HRF.out.mono ?_
  rintro e4 w4 ⟨v4, rfl, h4⟩
  have H4 := Lib.hid (H3.out.mono HST3.out h4.below)
  have HRC := Lib.hid (HRP.out w4 _ v4 H4.out.drop.drop.autRd (RdRow.of_own h4.rowG))
  obtain ⟨ra, rc, rfl, _, _⟩ := own_shape h4.rowG
  clear h4 HRF H3 HRP
  (repeat' (first | (go_big_may; fail) | go_values | go_skip | go_guarded | go_step | go_upon | go_back | dsimp only))
  refine HRC.out.mono ?_
  rintro e5 w5 ⟨vw, rfl, h5⟩
  have H5 := Lib.hid (H4.out.glue HST3.out h5)
  have HST5 := Lib.hid ((AutG.stable tRS tRE vw M).both HST3.out)
  obtain ⟨wa, wc, rfl, _, _⟩ := h5.autRd.shape
  have HW := Lib.hid (wakes_calls w5)
  clear h5 H4 HRC
  (repeat' (first | (go_big_may; fail) | go_values | go_skip | go_guarded | go_step | go_upon | go_back | dsimp only))
  refine HW.out.mono ?_
  rintro e6 w6 ⟨rfl, hb6⟩
  have H6 := Lib.hid (H5.out.mono HST5.out hb6)
  have HR1 := Lib.hid (ref_big H6.out.drop.autRd HM.out)
  clear hb6 HW H5
  (repeat' (first | (go_big_may; fail) | go_values | go_skip | go_guarded | go_step | go_upon | go_back | dsimp only))
  refine HR1.out.mono ?_
  rintro e7 w7 ⟨v7, rfl, h7⟩
  have H7 := Lib.hid (H6.out.mono HST5.out h7.below)
  have heq := Equal_big h7.autRd H7.out.autRd HM.out HM.out
  rw [decide_eq_true rfl] at heq
  have HEQ := Lib.hid heq
  obtain ⟨a7, c7, rfl, _, _⟩ := h7.autRd.shape
  clear h7 H6 HR1 heq
  (repeat' (first | (go_big_may; fail) | go_values | go_skip | go_guarded | go_step | go_upon | go_back | dsimp only))
  refine HEQ.out.mono ?_
  rintro e8 w8 ⟨rfl, hb8⟩
  have H8 := Lib.hid (H7.out.mono HST5.out hb8)
  have HR2 := Lib.hid (ref_calls (HA.out.below H8.out.below) hlA)
  clear hb8 H7 HEQ
  (repeat' (first | (go_big_may; fail) | go_values | go_skip | go_guarded | go_step | go_upon | go_back | dsimp only))
  refine HR2.out.mono ?_
  rintro e9 w9 ⟨v9, rfl, h9⟩
  have H9 := Lib.hid (H8.out.mono HST5.out h9.below)
  have heq := Equal_calls h9.autRd H9.out.drop.drop.drop.autRd hlA hlA
  rw [decide_eq_true rfl] at heq
  have HEQ2 := Lib.hid heq
  obtain ⟨a9, c9, rfl, _, _⟩ := h9.autRd.shape
  clear h9 H8 HR2 heq
  (repeat' (first | (go_big_may; fail) | go_values | go_skip | go_guarded | go_step | go_upon | go_back | dsimp only))
  refine HEQ2.out.mono ?_
  rintro e10 w10 ⟨rfl, hb10⟩
  have H10 := Lib.hid (H9.out.mono HST5.out hb10)
  have HRF2 := Lib.hid (refs_calls (HD.out.below H10.out.below) (by omega))
  clear hb10 H9 HEQ2
  (repeat' (first | (go_big_may; fail) | go_values | go_skip | go_guarded | go_step | go_upon | go_back | dsimp only))
  refine HRF2.out.mono ?_
  rintro e11 w11 ⟨v11, rfl, h11⟩
  have H11 := Lib.hid (H10.out.mono HST5.out h11.below)
  have hal := alike_calls (RdRow.of_own H11.out.drop.drop.rowG) (RdRow.of_own h11.rowG)
  rw [decide_eq_true rfl] at hal
  have HAL := Lib.hid hal
  obtain ⟨a11, c11, rfl, _, _⟩ := own_shape h11.rowG
  clear h11 H10 HRF2 hal
  (repeat' (first | (go_big_may; fail) | go_values | go_skip | go_guarded | go_step | go_upon | go_back | dsimp only))
  refine HAL.out.mono ?_
  rintro e12 w12 ⟨rfl, hb12⟩
  have HB := Lib.hid (H11.out.mono HST5.out hb12).below
  clear hb12 H11 HAL
  (repeat' (first | (go_big_may; fail) | go_values | go_skip | go_guarded | go_step | go_upon | go_back | dsimp only))
  go_ret
  exact ⟨rfl, HB.out⟩
end
end Go.Proofs.Ytcbdncjknpdnbaa
