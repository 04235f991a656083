/- The document's Nth walked; walk.Nth where there are too many words, or no automaton. -/
import Derived.Test.YtcbdncjknpdnbaaWkRCnt
namespace Go.Proofs.Ytcbdncjknpdnbaa
open Go.RowKit

theorem At.newLit0 {W w : World} {Φ : Thing} (h : At W w Φ) (hs : Stable Φ) (e : TypeId) : At W (w.alloc (.cells #[] e)) (Both (RowG e 1 (.slice (some ⟨w.heap.size, 0, none⟩) 0 0) 0 []) Φ) :=
  h.newRowG hs ((Below.refl _ _).alloc (Nat.le_refl _) _) ⟨rfl, .inr ⟨w.heap.size, 0, #[], rfl, Nat.le_refl _, heap_alloc_new _ _, Nat.le_refl _, by unfold maxLen; omega, rfl, rfl⟩⟩

set_option maxRecDepth 100000 in
set_option maxHeartbeats 3200000 in
theorem RNth_calls {w : World} {A : List Sta} {va : Value} (hA : RdAut w va A) (hl : A.length ≤ 1048576 ∧ edgesN A ≤ 1048576) {t : Trie} (ht : Unf A 0 t) (hc : cntT t ≤ 1099511627776) (n : Int)
    {g : Nat} {cs : List Int} (hcs : CntL A cs) (hrd : RdRow w (.slice (some ⟨g, 0, none⟩) A.length A.length) A.length 1 (intsI cs)) :
    Calls Try.prog 47 #[va, .slice (some ⟨g, 0, none⟩) A.length A.length, .int .i64 n] w fun e w' => e = .returned (.tuple #[.string (nthS t n), .bool (nthB t n)]) ∧ Below w.heap.size w w' := by
  have HT := Lib.hid ht
  have HA1 := Lib.hid hA
  have hht := htT_lt ht
  obtain ⟨a0, c0, hv, _, hc0⟩ := hA.shape
  unfold maxLen at hc0
  have hpos : 0 < A.length := ht.lt
  have hc0' := cell_row hrd (hcs.2 0 t ht)
  have hct : cntI t = (cntT t : Int) := by unfold cntI; rw [capN_small hc]
  rw [hct] at hc0'
  have HCS := Lib.hid hcs
  have HRD := Lib.hid hrd
  have HN0 := Lib.hid ((At.nought (Below.refl w.heap.size w)).newLit0 Stable.nought 5)
  clear hA ht hcs hrd hct
  subst hv
  go_enter Try.func47, Try.ntmps47
  by_cases hin : nthIn t n
  · obtain ⟨hn0, hn1⟩ := hin
    obtain ⟨m0, rfl⟩ := Int.eq_ofNat_of_zero_le hn0
    have hm1 : m0 < cntT t := by omega
    have HANS := Lib.hid (nthS_in hm1)
    have hm2 : ¬ (cntT t : Int) ≤ (m0 : Int) := by omega
    have hm3 : ¬ (m0 : Int) < 0 := by omega
    (repeat' (first | (go_big_may; fail) | go_values | go_skip | go_guarded | go_step | go_upon | go_back | dsimp only))
    go_loopw [2, 8, 9] (fun vm vw vk wr => ∃ (m k : Nat) (t' : Trie) (pre : List UInt8), vm = .int .i64 m ∧ vk = .int .i64 k ∧ Unf A k t' ∧ m < cntT t' ∧ cntT t' ≤ 1099511627776 ∧ pre ++ nthT t' m = nthT t m0 ∧ pre.length + htT t' ≤ htT t ∧ sLen vw = pre.length ∧ At w wr (Both (RowG 5 1 vw pre.length (bvs pre)) Nought)) (fun _ vw _ _ => htT t - sLen vw)
    case atStart => exact ⟨m0, 0, t, [], rfl, rfl, HT.out, hm1, hc, rfl, by simp, rfl, HN0.out⟩
    case round =>
      obtain ⟨m, k, t', pre, rfl, rfl, hk, hmlt, hcl, hpre, hlen, hsl, h1⟩ := hrel
      obtain ⟨ao, cap, rfl, _, _⟩ := own_shape h1.rowG
      obtain ⟨x, hx, hux⟩ := hk
      have hfin := hux.final
      obtain ⟨b, off, cp, u, hsv, d0, d1, hue⟩ := HA1.out.at hx
      obtain ⟨ua, uc, rfl, _, huc⟩ := hue.shape
      unfold maxLen at huc
      cases hsv
      replace d0 := (h1.below.cell (World.block_lt_of_cell? _ _ d0)).trans d0
      have D1 := Lib.hid d1
      clear d1
      have hel := edgesN_le hx
      have hkl := (List.getElem?_eq_some_iff.1 hx).1
      have hkI : (k : Int) < (A.length : Int) := by omega
      have H1 := Lib.hid h1
      have HU := Lib.hid hux
      have HPRE := Lib.hid hpre
      have HLEN := Lib.hid hlen
      have HE := Lib.hid (show RdEds w (.slice ua x.edges.length uc) x.edges from hue)
      have HFIN := Lib.hid hfin
      clear h1 hx hux hpre hlen hue hfin hsl
      by_cases hret : t'.final = true ∧ m = 0
      · obtain ⟨hr1, rfl⟩ := hret
        have hxf : x.final = true := by rw [← HFIN.out]; exact hr1
        rw [hxf] at d0
        have hpre0 : nthT t m0 = pre := by rw [← HPRE.out, nthT_done hr1, List.append_nil]
        have HP0 := Lib.hid hpre0
        clear hpre0 hr1 hxf
        (repeat' (first | (go_big_may; ((with_reducible (show wpList _ _ _ ({ dst := _, op := Op.convert 102 9 _, type := _, pos := _, after := _, guard := _ } :: _) _ _); refine wpList_string_own rfl 102 9 5 _ rfl Try.underlying102 Try.underlying5 Try.underlying9 _ _ _ rfl H1.out.rowG ?_))) | go_values | go_skip | go_guarded | go_step | go_upon | go_back | dsimp only))
        go_ret2
        exact ⟨by rw [HANS.out.1, HANS.out.2, HP0.out]; rfl, H1.out.below⟩
      · obtain ⟨hmE, hnE⟩ := eN_pos hmlt hret
        rw [HFIN.out] at hmE hnE
        have HNE := Lib.hid hnE
        have HRET := Lib.hid hret
        have hcT : cntT t' = finN x.final + eN t' := by rw [← HFIN.out]; exact cntT_eN t'
        clear hnE hret
        go_upto_if 25 with (fail)
        go_cut [2] (fun vm wx => vm = .int .i64 (m - finN x.final : Nat) ∧ wx = wr)
        case first =>
          refine wp_norm ?_
          rename_i J K' hJ hK
          have HJ := Lib.hid hJ
          have HK := Lib.hid hK
          clear hJ hK
          cases hf : x.final with
          | true =>
            have hm0 : ((m : Int) == 0) = false := by
              rw [beq_eq_false_iff_ne]
              intro h0
              exact HRET.out ⟨by rw [HFIN.out]; exact hf, by omega⟩
            have hm0' : m ≠ 0 := fun h0 => by subst h0; simp at hm0
            have hwr : IntKind.i64.wrap ((m : Int) - 1) = ((m - 1 : Nat) : Int) := by rw [IntKind.wrap_i64] <;> omega
            rw [hf] at d0
            (repeat' (first | (go_big_may; fail) | go_values | go_skip | go_guarded | go_step | go_upon | go_back | dsimp only))
            refine HK.out _ _ ?_
            have hJ := HJ.out
            go_meet
            case rel => exact ⟨by rw [hf]; rfl, rfl⟩
          | false =>
            rw [hf] at d0
            (repeat' (first | (go_big_may; fail) | go_values | go_skip | go_guarded | go_step | go_upon | go_back | dsimp only))
            refine HK.out _ _ ?_
            have hJ := HJ.out
            go_meet
            case rel => exact ⟨by rw [hf]; rfl, rfl⟩
        case rest =>
          obtain ⟨rfl, rfl⟩ := hcut
          (repeat' (first | (go_big_may; fail) | go_values | go_skip | go_guarded | go_step | go_upon | go_back | dsimp only))
          go_loopw [2, 10] (fun vm vj wi => ∃ (m' j : Nat) (tj : Trie), vm = .int .i64 m' ∧ vj = .int .i64 j ∧ UnfE A tj x.final (x.edges.drop j) ∧ m' < eN tj ∧ nthE tj m' = nthT t' m ∧ htT tj ≤ htT t' ∧ eN tj ≤ eN t' ∧ At w wi (Both (RowG 5 1 (.slice ao pre.length cap) pre.length (bvs pre)) Nought)) (fun _ vj _ => x.edges.length - (intOf vj).toNat)
          case atStart => exact ⟨_, 0, t', rfl, rfl, HU.out, hmE, HNE.out.symm, Nat.le_refl _, Nat.le_refl _, H1.out⟩
          case round =>
            obtain ⟨m', j, tj, rfl, rfl, hut, hmj, hnj, hhj, hej, h2⟩ := hrel
            by_cases hlj : j < x.edges.length
            · obtain ⟨e, he⟩ : ∃ e, x.edges[j]? = some e := ⟨_, List.getElem?_eq_getElem hlj⟩
              rw [drop_at he] at hut
              obtain ⟨ct, r, rfl, he0, hct, hr⟩ := hut.cons
              obtain ⟨m2, hm2'⟩ := Int.eq_ofNat_of_zero_le he0
              rw [hm2', Int.toNat_natCast] at hct
              simp only [eN] at hmj hej
              simp only [htT] at hhj
              have hcs2 := HCS.out.2 m2 ct hct
              have hctI : cntI ct = (cntT ct : Int) := by unfold cntI; rw [capN_small (by omega)]
              rw [hctI] at hcs2
              have hm2l := hct.lt
              have hm2I : (m2 : Int) < (A.length : Int) := by omega
              have hjI : (j : Int) < (x.edges.length : Int) := by omega
              obtain ⟨be, oe, ce, hse, e0, e1⟩ := RdEds.at (HE.out.below h2.below) he
              cases hse
              rw [hm2'] at e1
              have d1 := (h2.below.cell (World.block_lt_of_cell? _ _ D1.out)).trans D1.out
              have c1 := cell_row (HRD.out.below h2.below) hcs2
              have H2 := Lib.hid h2
              have HCT := Lib.hid hct
              have HR := Lib.hid hr
              have HNJ := Lib.hid hnj
              have HE2 := Lib.hid he
              have HHJ := Lib.hid hhj
              have HM2 := Lib.hid hm2'
              clear hut he hct hr h2 hcs2 hctI hnj he0 hm2' d0
              by_cases hmc : m' < cntT ct
              · have hmcI : ¬ (cntT ct : Int) ≤ (m' : Int) := by omega
                have hpl : pre.length ≤ 1048576 := by have := HLEN.out; omega
                have hst := Stable.nought
                (repeat' (first | (go_big_may; ((at_builtin; go_must (refine wpList_append_to rfl _ _ 102 5 rfl Try.underlying102 info_u8 rfl (by decide) rfl (H2.out) (Stable.nought) rfl (by first | rfl | simp) rfl (one_int _ _) (by unfold maxLen; omega) (by omega) ?_); intro a4 c4 w4 h4 _); have H4 := Lib.hid h4; obtain ⟨be4, oe4, ce4, hse4, e04, e14⟩ := RdEds.at (HE.out.below h4.below) HE2.out; cases hse4; rw [HM2.out] at e14; have d14 := (h4.below.cell (World.block_lt_of_cell? _ _ D1.out)).trans D1.out; clear h4)) | go_values | go_skip | go_guarded | go_step | go_upon | go_back | dsimp only))
                go_roundw
                case rel =>
                  refine ⟨m', m2, ct, pre ++ [e.1], rfl, rfl, HCT.out, hmc, by omega, ?_, by rw [List.length_append, List.length_singleton]; have := HLEN.out; omega, by simp [sLen], ?_⟩
                  · rw [← HPRE.out, ← HNJ.out, nthE_here hmc, List.append_assoc]; rfl
                  · have h5 := H4.out
                    rw [bvs_append, bvs_one, List.length_append, List.length_singleton]
                    exact h5
                case measure =>
                  have := HLEN.out
                  simp [sLen] <;> omega
              · have hmcI : (cntT ct : Int) ≤ (m' : Int) := by omega
                have hwr : IntKind.i64.wrap ((m' : Int) - (cntT ct : Nat)) = ((m' - cntT ct : Nat) : Int) := by rw [IntKind.wrap_i64] <;> omega
                (repeat' (first | (go_big_may; fail) | go_values | go_skip | go_guarded | go_step | go_upon | go_back | dsimp only))
                go_roundw
                case rel => exact ⟨m' - cntT ct, j + 1, r, by simp, by simp, HR.out, by omega, by rw [← HNJ.out, nthE_on hmc], by omega, by omega, H2.out⟩
                case measure => simp [intOf] <;> omega
            · rw [List.drop_eq_nil_of_le (by omega)] at hut
              exact (eN_nil hut hmj).elim
  · have HANS := Lib.hid (nthS_out hin)
    by_cases h0 : n < 0
    · clear hin
      (repeat' (first | (go_big_may; fail) | go_values | go_skip | go_guarded | go_step | go_upon | go_back | dsimp only))
      go_ret2
      exact ⟨by rw [HANS.out.1, HANS.out.2]; rfl, Below.refl _ _⟩
    · have h1 : (cntT t : Int) ≤ n := by
        refine Classical.byContradiction fun h => hin ⟨by omega, by omega⟩
      clear hin
      (repeat' (first | (go_big_may; fail) | go_values | go_skip | go_guarded | go_step | go_upon | go_back | dsimp only))
      go_ret2
      exact ⟨by rw [HANS.out.1, HANS.out.2]; rfl, Below.refl _ _⟩
end Go.Proofs.Ytcbdncjknpdnbaa
