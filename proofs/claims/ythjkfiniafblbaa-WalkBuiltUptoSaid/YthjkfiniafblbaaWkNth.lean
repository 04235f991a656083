/- walk.Nth walked. -/
import Derived.Test.YthjkfiniafblbaaWkCount
import Derived.Test.YthjkfiniafblbaaTrie
import Derived.Test.YthjkfiniafblbaaBuilder
namespace Go.Proofs.Ythjkfiniafblbaa
open Go.RowKit

/-- Is n the number of a word? -/
abbrev nthIn (t : Trie) (n : Int) : Prop := 0 ≤ n ∧ n < (cntT t : Int)
def nthS (t : Trie) (n : Int) : ByteArray := if nthIn t n then ⟨(nthT t n.toNat).toArray⟩ else ⟨#[]⟩
def nthB (t : Trie) (n : Int) : Bool := decide (nthIn t n)
theorem nthS_in {t : Trie} {m : Nat} (h : m < cntT t) : nthS t (m : Int) = ⟨(nthT t m).toArray⟩ ∧ nthB t (m : Int) = true := by
  have h1 : nthIn t (m : Int) := ⟨by omega, by omega⟩
  unfold nthS nthB
  rw [if_pos h1, Int.toNat_natCast]
  exact ⟨rfl, decide_eq_true h1⟩
theorem nthS_out {t : Trie} {n : Int} (h : ¬ nthIn t n) : nthS t n = ⟨#[]⟩ ∧ nthB t n = false := by
  unfold nthS nthB
  rw [if_neg h]
  exact ⟨rfl, decide_eq_false h⟩
theorem cell_row {w : World} {g i N : Nat} {cs : List Int} (h : RdRow w (.slice (some ⟨g, 0, none⟩) N N) N 1 (intsI cs)) {c : Int} (hc : cs[i]? = some c) : w.cell? ⟨g, i, none⟩ = some (.int .i64 c) := by
  obtain ⟨_, ad, cap', hv, _, _, h2⟩ := h
  obtain ⟨b', off', hb, h3⟩ := h2 i _ (intsI_get hc)
  cases hv
  cases hb
  rw [Nat.zero_add] at h3
  exact h3
def sLen : Value → Nat
  | .slice _ n _ => n
  | _ => 0
theorem drop_at {α : Type} {l : List α} {j : Nat} {e : α} (he : l[j]? = some e) : l.drop j = e :: l.drop (j + 1) := by
  obtain ⟨h1, h2⟩ := List.getElem?_eq_some_iff.1 he
  rw [List.drop_eq_getElem_cons h1, h2]

set_option maxRecDepth 100000 in
set_option maxHeartbeats 3200000 in
theorem Nth_calls {w : World} {A : List Sta} {va : Value} (hA : RdAut w va A) (hl : A.length ≤ 1048576 ∧ edgesN A ≤ 1048576) {t : Trie} (ht : Unf A 0 t) (hc : cntT t ≤ 1099511627776) (n : Int)
    (hsh : shapeB A = true) :
    Calls Try.prog 18 #[va, .int .i64 n] w fun e w' => e = .returned (.tuple #[.string (nthS t n), .bool (nthB t n), .int .i64 0]) ∧ Below w.heap.size w w' := by
  have HCD := Lib.hid (counted_ok hA hl hsh ht hc)
  have HT := Lib.hid ht
  have H := Lib.hid hA
  have hht := htT_lt ht
  have hpos := (shaped_of hsh).pos
  obtain ⟨a0, c0, hv, _, hc0⟩ := hA.shape
  unfold maxLen at hc0
  clear hA ht hsh
  subst hv
  go_enter Try.func18, Try.ntmps18
  (repeat' (first | (go_big_may; fail) | go_values | go_skip | go_guarded | go_step | go_upon | go_back | dsimp only))
  refine HCD.out.mono ?_
  rintro e1 w1 ⟨cs, g, rfl, hcs, hrd, hb1⟩
  have hc0' := cell_row hrd (hcs.2 0 t HT.out)
  have hct : cntI t = (cntT t : Int) := by unfold cntI; rw [capN_small hc]
  rw [hct] at hc0'
  have HB1 := Lib.hid hb1
  have HCS := Lib.hid hcs
  have HRD := Lib.hid hrd
  have HA1 := Lib.hid (H.out.below hb1)
  clear hb1 hcs hrd H hct HCD
  by_cases hin : nthIn t n
  · obtain ⟨hn0, hn1⟩ := hin
    obtain ⟨m0, rfl⟩ := Int.eq_ofNat_of_zero_le hn0
    have hm1 : m0 < cntT t := by omega
    have HANS := Lib.hid (nthS_in hm1)
    have hm2 : ¬ (cntT t : Int) ≤ (m0 : Int) := by omega
    have hm3 : ¬ (m0 : Int) < 0 := by omega
    (repeat' (first | (go_big_may; fail) | go_values | go_skip | go_guarded | go_step | go_upon | go_back | dsimp only))
    go_loopw [1, 9, 10] (fun vm vw vk wr => ∃ (m k : Nat) (t' : Trie) (pre : List UInt8), vm = .int .i64 m ∧ vk = .int .i64 k ∧ Unf A k t' ∧ m < cntT t' ∧ cntT t' ≤ 1099511627776 ∧ pre ++ nthT t' m = nthT t m0 ∧ pre.length + htT t' ≤ htT t ∧ sLen vw = pre.length ∧ At w1 wr (Both (RowG 5 1 vw pre.length (bvs pre)) Nought)) (fun _ vw _ _ => htT t - sLen vw)
    case atStart => exact ⟨m0, 0, t, [], rfl, rfl, HT.out, hm1, hc, rfl, by simp, rfl, (At.nought (Below.refl _ _)).noRowG Stable.nought _ _⟩
    case round =>
      obtain ⟨m, k, t', pre, rfl, rfl, hk, hmlt, hcl, hpre, hlen, hsl, h1⟩ := hrel
      obtain ⟨ao, cap, rfl, _, _⟩ := own_shape h1.rowG
      obtain ⟨x, hx, hux⟩ := hk
      have hfin := hux.final
      obtain ⟨b, off, cp, u, hsv, d0, d1, hue⟩ := HA1.out.at hx
      obtain ⟨ua, uc, rfl, _, huc⟩ := hue.shape
      unfold maxLen at huc
      cases hsv
      replace d0 := (h1.below.cell (World.block_lt_of_cell? _ _ d0)).trans d0
      replace d1 := (h1.below.cell (World.block_lt_of_cell? _ _ d1)).trans d1
      have hel := edgesN_le hx
      have hkl := (List.getElem?_eq_some_iff.1 hx).1
      have hkI : (k : Int) < (A.length : Int) := by omega
      have H1 := Lib.hid h1
      have HX := Lib.hid hx
      have HU := Lib.hid hux
      have HPRE := Lib.hid hpre
      have HLEN := Lib.hid hlen
      have HE := Lib.hid (show RdEds w1 (.slice ua x.edges.length uc) x.edges from hue)
      have HFIN := Lib.hid hfin
      clear h1 hx hux hpre hlen hue hfin hsl
      by_cases hret : t'.final = true ∧ m = 0
      · obtain ⟨hr1, rfl⟩ := hret
        have hxf : x.final = true := by rw [← HFIN.out]; exact hr1
        rw [hxf] at d0
        have hpre0 : nthT t m0 = pre := by rw [← HPRE.out, nthT_done hr1, List.append_nil]
        have HP0 := Lib.hid hpre0
        clear hpre0 hr1 hxf
        (repeat' (first | (go_big_may; ((with_reducible (show wpList _ _ _ ({ dst := _, op := Op.convert 83 9 _, type := _, pos := _, after := _, guard := _ } :: _) _ _); refine wpList_string_own rfl 83 9 5 _ rfl Try.underlying83 Try.underlying5 Try.underlying9 _ _ _ rfl H1.out.rowG ?_))) | go_values | go_skip | go_guarded | go_step | go_upon | go_back | dsimp only))
        go_ret3
        exact ⟨by rw [HANS.out.1, HANS.out.2, HP0.out]; rfl, HB1.out.trans (H1.out.below.mono HB1.out.size)⟩
      · obtain ⟨hmE, hnE⟩ := eN_pos hmlt hret
        rw [HFIN.out] at hmE hnE
        have HNE := Lib.hid hnE
        have HRET := Lib.hid hret
        have hcT : cntT t' = finN x.final + eN t' := by rw [← HFIN.out]; exact cntT_eN t'
        clear hnE hret
        go_upto_if 34 with (fail)
        go_cut [1] (fun vm wx => vm = .int .i64 (m - finN x.final : Nat) ∧ wx = wr)
        case first =>
          refine wp_norm ?_
          rename_i J K' hJ hK
          have HJ := Lib.hid hJ
          have HK := Lib.hid hK
          clear hJ hK
          cases hf : x.final with
          | true =>
            have hm0 : ((m : Int) == 0) = false := by
              rw [beq_eq_false_iff_ne]
              intro h0
              exact HRET.out ⟨by rw [HFIN.out]; exact hf, by omega⟩
            have hm0' : m ≠ 0 := fun h0 => by subst h0; simp at hm0
            have hwr : IntKind.i64.wrap ((m : Int) - 1) = ((m - 1 : Nat) : Int) := by rw [IntKind.wrap_i64] <;> omega
            rw [hf] at d0
            (repeat' (first | (go_big_may; fail) | go_values | go_skip | go_guarded | go_step | go_upon | go_back | dsimp only))
            refine HK.out _ _ ?_
            have hJ := HJ.out
            go_meet
            case rel => exact ⟨by rw [hf]; rfl, rfl⟩
          | false =>
            rw [hf] at d0
            (repeat' (first | (go_big_may; fail) | go_values | go_skip | go_guarded | go_step | go_upon | go_back | dsimp only))
            refine HK.out _ _ ?_
            have hJ := HJ.out
            go_meet
            case rel => exact ⟨by rw [hf]; rfl, rfl⟩
        case rest =>
          obtain ⟨rfl, rfl⟩ := hcut
          (repeat' (first | (go_big_may; fail) | go_values | go_skip | go_guarded | go_step | go_upon | go_back | dsimp only))
          go_loopw [1, 9, 10, 47] (fun vm vw vk vj wi => ∃ (m' j : Nat) (tj : Trie), vm = .int .i64 m' ∧ vw = .slice ao pre.length cap ∧ vk = .int .i64 k ∧ vj = .int .i64 j ∧ UnfE A tj x.final (x.edges.drop j) ∧ m' < eN tj ∧ nthE tj m' = nthT t' m ∧ htT tj ≤ htT t' ∧ eN tj ≤ eN t' ∧ At w1 wi (Both (RowG 5 1 (.slice ao pre.length cap) pre.length (bvs pre)) Nought)) (fun _ _ _ vj _ => x.edges.length - (intOf vj).toNat)
          case atStart => exact ⟨_, 0, t', rfl, rfl, rfl, rfl, HU.out, hmE, HNE.out.symm, Nat.le_refl _, Nat.le_refl _, H1.out⟩
          case round =>
            obtain ⟨m', j, tj, rfl, rfl, rfl, rfl, hut, hmj, hnj, hhj, hej, h2⟩ := hrel
            by_cases hlj : j < x.edges.length
            · obtain ⟨e, he⟩ : ∃ e, x.edges[j]? = some e := ⟨_, List.getElem?_eq_getElem hlj⟩
              rw [drop_at he] at hut
              obtain ⟨ct, r, rfl, he0, hct, hr⟩ := hut.cons
              obtain ⟨m2, hm2'⟩ := Int.eq_ofNat_of_zero_le he0
              rw [hm2', Int.toNat_natCast] at hct
              simp only [eN] at hmj hej
              simp only [htT] at hhj
              have hcs2 := HCS.out.2 m2 ct hct
              have hctI : cntI ct = (cntT ct : Int) := by unfold cntI; rw [capN_small (by omega)]
              rw [hctI] at hcs2
              have hm2l := hct.lt
              have hm2I : (m2 : Int) < (A.length : Int) := by omega
              have hjI : (j : Int) < (x.edges.length : Int) := by omega
              obtain ⟨be, oe, ce, hse, e0, e1⟩ := RdEds.at (HE.out.below h2.below) he
              cases hse
              rw [hm2'] at e1
              have h3 := (h2.newCell ((RowG.stable _ _ _ _ _).both Stable.nought) #[bv e.1, .int .i64 m2] tAE)
              have c1 := cell_row (HRD.out.below (h2.alloc ((RowG.stable _ _ _ _ _).both Stable.nought) (.cells #[bv e.1, .int .i64 m2] tAE)).below) hcs2
              have H3 := Lib.hid h3
              have HE2 := Lib.hid he
              have HCT := Lib.hid hct
              have HR := Lib.hid hr
              have HNJ := Lib.hid hnj
              clear hut he hct hr h2 h3 hcs2 hctI hnj he0 hm2'
              by_cases hmc : m' < cntT ct
              · have hmcI : (m' : Int) < (cntT ct : Int) := by omega
                have hpl : pre.length ≤ 1048576 := by have := HLEN.out; omega
                (repeat' (first | (go_big_may; ((at_builtin; go_must (refine wpList_append_to rfl _ _ 83 5 rfl Try.underlying83 info_u8 rfl (by decide) rfl (H3.out.swap) ((CellT.stable _ _ _).both Stable.nought) rfl (by first | rfl | simp) rfl (one_int _ _) (by unfold maxLen; omega) (by omega) ?_); intro a4 c4 w4 h4 _); have H4 := Lib.hid h4; obtain ⟨q1, _, _⟩ := h4.drop.cellF (o := 1) (u := .int .i64 m2) rfl; clear h4)) | go_values | go_skip | go_guarded | go_step | go_upon | go_back | dsimp only))
                go_roundw
                case rel =>
                  refine ⟨m', m2, ct, pre ++ [e.1], rfl, rfl, HCT.out, hmc, by omega, ?_, by rw [List.length_append, List.length_singleton]; have := HLEN.out; omega, by simp [sLen], ?_⟩
                  · rw [← HPRE.out, ← HNJ.out, nthE_here hmc, List.append_assoc]; rfl
                  · have h5 := H4.out.swap.drop
                    rw [bvs_append, bvs_one, List.length_append, List.length_singleton]
                    exact h5
                case measure =>
                  have := HLEN.out
                  simp [sLen] <;> omega
              · have hmcI : ¬ (m' : Int) < (cntT ct : Int) := by omega
                have hwr : IntKind.i64.wrap ((m' : Int) - (cntT ct : Nat)) = ((m' - cntT ct : Nat) : Int) := by rw [IntKind.wrap_i64] <;> omega
                (repeat' (first | (go_big_may; fail) | go_values | go_skip | go_guarded | go_step | go_upon | go_back | dsimp only))
                go_roundw
                case rel => exact ⟨m' - cntT ct, j + 1, r, by simp, rfl, rfl, by simp, HR.out, by omega, by rw [← HNJ.out, nthE_on hmc], by omega, by omega, H3.out.drop⟩
                case measure => simp [intOf] <;> omega
            · rw [List.drop_eq_nil_of_le (by omega)] at hut
              exact (eN_nil hut hmj).elim
  · have HANS := Lib.hid (nthS_out hin)
    by_cases h0 : n < 0
    · clear hin
      (repeat' (first | (go_big_may; fail) | go_values | go_skip | go_guarded | go_step | go_upon | go_back | dsimp only))
      go_ret3
      exact ⟨by rw [HANS.out.1, HANS.out.2]; rfl, HB1.out⟩
    · have h1 : (cntT t : Int) ≤ n := by
        refine Classical.byContradiction fun h => hin ⟨by omega, by omega⟩
      clear hin
      (repeat' (first | (go_big_may; fail) | go_values | go_skip | go_guarded | go_step | go_upon | go_back | dsimp only))
      go_ret3
      exact ⟨by rw [HANS.out.1, HANS.out.2]; rfl, HB1.out⟩
end Go.Proofs.Ythjkfiniafblbaa
