/- WalkPerfect walked. -/
import Derived.Test.YthjkfiniafblbaaWkRanksW
import Derived.Test.YthjkfiniafblbaaWkOrdP
namespace Go.Proofs.Ythjkfiniafblbaa
open Go.RowKit

theorem nthE_len : ∀ (t : Trie) (n : Nat), (nthE t n).length ≤ htT t
  | .fin _, _ => Nat.zero_le _
  | .edge b c r, n => by
    by_cases h : n < cntT c
    · rw [nthE_here h, List.length_cons]
      have hT : (nthT c n).length ≤ htT c := by
        by_cases h0 : c.final = true ∧ n = 0
        · obtain ⟨hf, rfl⟩ := h0
          rw [nthT_done hf]; exact Nat.zero_le _
        · rw [(eN_pos h h0).2]; exact nthE_len c _
      simp only [htT]; omega
    · rw [nthE_on h]
      have := nthE_len r (n - cntT c)
      simp only [htT]; omega
theorem nthT_len {t : Trie} {n : Nat} (h : n < cntT t) : (nthT t n).length ≤ htT t := by
  by_cases h0 : t.final = true ∧ n = 0
  · obtain ⟨hf, rfl⟩ := h0
    rw [nthT_done hf]; exact Nat.zero_le _
  · rw [(eN_pos h h0).2]; exact nthE_len t _
theorem bl_mk (x y : List UInt8) : Op.bytesLess (⟨x.toArray⟩ : ByteArray).toList (⟨y.toArray⟩ : ByteArray).toList = Op.bytesLess x y := by rw [Lib.toList_data, Lib.toList_data]

set_option maxRecDepth 100000 in
set_option maxHeartbeats 6400000 in
theorem walkPerfect_walk (W : World) (A : List Sta) (v0 : Value) (hA : RdAut W v0 A) (hl : A.length + edgesN A ≤ 1048576) (ss : List (List UInt8)) (v1 : Value) (hk : RdRow W v1 ss.length 1 (strs ss)) (hss : ss.length + sumLen ss ≤ 1048576)
    (ks : List Int) (v2 : Value) (hk2 : RdRow W v2 ks.length 1 (intsI ks)) (_hkl : ks.length ≤ 1048576) :
    Calls Try.prog 9 #[v0, v1, v2] W fun e W' => e = .returned (.bool true) ∧ Below W.heap.size W W' := by
  have HW := Lib.hid (wakes_calls W)
  have HA := Lib.hid hA
  have HK := Lib.hid hk
  have HK2 := Lib.hid hk2
  obtain ⟨a1, c1, rfl, _, hc1⟩ := hk.shape
  obtain ⟨a2, c2, rfl, _, hc2⟩ := hk2.shape
  unfold maxLen at hc1 hc2
  clear hA hk hk2
  go_enter Try.func9, Try.ntmps9
  (repeat' (first | (go_big_may; fail) | go_values | go_skip | go_guarded | go_step | go_upon | go_back | dsimp only))
  refine HW.out.mono ?_
  rintro e1 w1 ⟨rfl, hb1⟩
  have HB1 := Lib.hid hb1
  have HTW := Lib.hid (twin_calls (HA.out.below hb1) hl)
  clear hb1 HW
  (repeat' (first | (go_big_may; fail) | go_values | go_skip | go_guarded | go_step | go_upon | go_back | dsimp only))
  refine HTW.out.mono ?_
  rintro e2 w2 ⟨vt, rfl, h2⟩
  have HB2 := Lib.hid (lk HB1.out h2.below)
  have HS := Lib.hid (Shape_calls h2.autRd hl)
  clear h2 HTW
  (repeat' (first | (go_big_may; fail) | go_values | go_skip | go_guarded | go_step | go_upon | go_back | dsimp only))
  refine HS.out.mono ?_
  rintro e3 w3 ⟨rfl, hb3⟩
  have HB3 := Lib.hid (lk HB2.out hb3)
  clear hb3 HS
  cases hs : shapeB A with
  | false =>
    rw [shapeV_bad hs]
    have HRF := Lib.hid (ref_calls (HA.out.below HB3.out) hl)
    have HSB := Lib.hid hs
    clear hs
    (repeat' (first | (go_big_may; fail) | go_values | go_skip | go_guarded | go_step | go_upon | go_back | dsimp only))
    refine HRF.out.mono ?_
    rintro e4 w4 ⟨vx, rfl, h4⟩
    have HB4 := Lib.hid (lk HB3.out h4.below)
    have hrs := RShape_calls h4.autRd hl
    rw [shapeV_bad HSB.out] at hrs
    have HRS := Lib.hid hrs
    clear h4 hrs
    (repeat' (first | (go_big_may; fail) | go_values | go_skip | go_guarded | go_step | go_upon | go_back | dsimp only))
    refine HRS.out.mono ?_
    rintro e5 w5 ⟨rfl, hb5⟩
    have HB5 := Lib.hid (lk HB4.out hb5)
    clear hb5
    (repeat' (first | (go_big_may; fail) | go_values | go_skip | go_guarded | go_step | go_upon | go_back | dsimp only))
    go_ret
    exact ⟨rfl, HB5.out⟩
  | true =>
    rw [shapeV_ok hs]
    have hsh := shaped_of hs
    obtain ⟨t, ht, hgd, _⟩ := hsh.tr 0 hsh.pos
    have HS := Lib.hid hs
    have HT := Lib.hid ht
    have HSH := Lib.hid hsh
    have HG := Lib.hid hgd
    have hpos := hsh.pos
    have hht := htT_lt ht
    have HTW := Lib.hid (twin_calls (HA.out.below HB3.out) hl)
    clear hs hsh ht hgd
    (repeat' (first | (go_big_may; fail) | go_values | go_skip | go_guarded | go_step | go_upon | go_back | dsimp only))
    refine HTW.out.mono ?_
    rintro e4 w4 ⟨vt4, rfl, h4⟩
    have HB4 := Lib.hid (lk HB3.out h4.below)
    have HCN := Lib.hid (Count_calls h4.autRd hl HS.out HT.out)
    clear h4 HTW
    (repeat' (first | (go_big_may; fail) | go_values | go_skip | go_guarded | go_step | go_upon | go_back | dsimp only))
    refine HCN.out.mono ?_
    rintro e5 w5 ⟨rfl, hb5⟩
    have HB5 := Lib.hid (lk HB4.out hb5)
    clear hb5 HCN
    by_cases hc : cntT t ≤ 1099511627776
    · rw [show countV t = (cntT t : Int) from if_pos hc, show countE t = 0 from if_pos hc]
      (repeat' (first | (go_big_may; fail) | go_values | go_skip | go_guarded | go_step | go_upon | go_back | dsimp only))
      go_loopw [56] (fun vi wr => ∃ i : Nat, vi = .int .i64 i ∧ i ≤ ks.length ∧ Below W.heap.size W wr) (fun vi _ => ks.length - (intOf vi).toNat)
      case atStart => exact ⟨0, rfl, Nat.zero_le _, HB5.out⟩
      case round =>
        obtain ⟨i, rfl, hi, hb⟩ := hrel
        have HB := Lib.hid hb
        by_cases hlt : i < ks.length
        · obtain ⟨n, hn⟩ : ∃ n, ks[i]? = some n := ⟨_, List.getElem?_eq_getElem hlt⟩
          have hiI : (i : Int) < (ks.length : Int) := by omega
          obtain ⟨bb, ob, cb', hse, b1⟩ := (HK2.out.below hb).one (intsI_get hn)
          cases hse
          have HTW := Lib.hid (twin_calls (HA.out.below hb) hl)
          clear hb hn
          (repeat' (first | (go_big_may; fail) | go_values | go_skip | go_guarded | go_step | go_upon | go_back | dsimp only))
          refine HTW.out.mono ?_
          rintro e6 w6 ⟨vt6, rfl, h6⟩
          have HB6 := Lib.hid (lk HB.out h6.below)
          have hnt := Nth_calls h6.autRd hl HT.out hc n HS.out
          clear h6 HTW
          by_cases hin : nthIn t n
          · obtain ⟨hn0, hn1⟩ := hin
            obtain ⟨m, rfl⟩ := Int.eq_ofNat_of_zero_le hn0
            have hm : m < cntT t := by omega
            rw [(nthS_in hm).1, (nthS_in hm).2] at hnt
            have hmI : (m : Int) < (cntT t : Int) := by omega
            have hlen := nthT_len hm
            have HR := Lib.hid (nthT_rank HG.out hm)
            have HNT := Lib.hid hnt
            clear hnt
            (repeat' (first | (go_big_may; fail) | go_values | go_skip | go_guarded | go_step | go_upon | go_back | dsimp only))
            refine HNT.out.mono ?_
            rintro e7 w7 ⟨rfl, hb7⟩
            have HB7 := Lib.hid (lk HB6.out hb7)
            have HTW := Lib.hid (twin_calls (HA.out.below HB7.out) hl)
            clear hb7 HNT
            (repeat' (first | (go_big_may; fail) | go_values | go_skip | go_guarded | go_step | go_upon | go_back | dsimp only))
            refine HTW.out.mono ?_
            rintro e8 w8 ⟨vt8, rfl, h8⟩
            have HB8 := Lib.hid (lk HB7.out h8.below)
            have hrk := Rank_r h8.autRd hl HS.out HT.out hc (nthT t m) (by omega)
            rw [HR.out] at hrk
            have HRK := Lib.hid hrk
            clear h8 HTW hrk
            (repeat' (first | (go_big_may; fail) | go_values | go_skip | go_guarded | go_step | go_upon | go_back | dsimp only))
            refine HRK.out.mono ?_
            rintro e9 w9 ⟨rfl, hb9⟩
            have HB9 := Lib.hid (lk HB8.out hb9)
            have HTW := Lib.hid (twin_calls (HA.out.below HB9.out) hl)
            clear hb9 HRK
            (repeat' (first | (go_big_may; fail) | go_values | go_skip | go_guarded | go_step | go_upon | go_back | dsimp only))
            refine HTW.out.mono ?_
            rintro e10 w10 ⟨vt10, rfl, h10⟩
            have HB10 := Lib.hid (lk HB9.out h10.below)
            have hac := Accepts_r h10.autRd hl HS.out HT.out (nthT t m) (by omega)
            rw [accT_rank, HR.out] at hac
            have HAC := Lib.hid hac
            clear h10 HTW hac
            (repeat' (first | (go_big_may; fail) | go_values | go_skip | go_guarded | go_step | go_upon | go_back | dsimp only))
            refine HAC.out.mono ?_
            rintro e11 w11 ⟨rfl, hb11⟩
            have HB11 := Lib.hid (lk HB10.out hb11)
            clear hb11 HAC
            (repeat' (first | (go_big_may; fail) | go_values | go_skip | go_guarded | go_step | go_upon | go_back | dsimp only))
            go_roundw
            case rel => exact ⟨i + 1, by simp, by omega, HB11.out⟩
            case measure => simp [intOf] <;> omega
          · rw [(nthS_out hin).1, (nthS_out hin).2] at hnt
            have HNT := Lib.hid hnt
            by_cases h0 : (0 : Int) ≤ n
            · have h1 : ¬ n < (cntT t : Int) := fun h => hin ⟨h0, h⟩
              clear hnt hin
              (repeat' (first | (go_big_may; fail) | go_values | go_skip | go_guarded | go_step | go_upon | go_back | dsimp only))
              refine HNT.out.mono ?_
              rintro e7 w7 ⟨rfl, hb7⟩
              have HB7 := Lib.hid (lk HB6.out hb7)
              clear hb7 HNT
              (repeat' (first | (go_big_may; fail) | go_values | go_skip | go_guarded | go_step | go_upon | go_back | dsimp only))
              go_roundw
              case rel => exact ⟨i + 1, by simp, by omega, HB7.out⟩
              case measure => simp [intOf] <;> omega
            · clear hnt hin
              (repeat' (first | (go_big_may; fail) | go_values | go_skip | go_guarded | go_step | go_upon | go_back | dsimp only))
              refine HNT.out.mono ?_
              rintro e7 w7 ⟨rfl, hb7⟩
              have HB7 := Lib.hid (lk HB6.out hb7)
              clear hb7 HNT
              (repeat' (first | (go_big_may; fail) | go_values | go_skip | go_guarded | go_step | go_upon | go_back | dsimp only))
              go_roundw
              case rel => exact ⟨i + 1, by simp, by omega, HB7.out⟩
              case measure => simp [intOf] <;> omega
        · obtain rfl : i = ks.length := by omega
          clear hb
          (repeat' (first | (go_big_may; fail) | go_values | go_skip | go_guarded | go_step | go_upon | go_back | dsimp only))
          go_loopw [121] (fun vi wq => ∃ i : Nat, vi = .int .i64 i ∧ i ≤ ss.length ∧ Below W.heap.size W wq) (fun vi _ => ss.length - (intOf vi).toNat)
          case atStart => exact ⟨0, rfl, Nat.zero_le _, HB.out⟩
          case round =>
            obtain ⟨i, rfl, hi2, hb⟩ := hrel
            have HBq := Lib.hid hb
            by_cases hlt2 : i < ss.length
            · obtain ⟨r, hr⟩ : ∃ r, ss[i]? = some r := ⟨_, List.getElem?_eq_getElem hlt2⟩
              have hrl := len_sum (List.mem_of_getElem? hr)
              have hiI : (i : Int) < (ss.length : Int) := by omega
              obtain ⟨bb, ob, cb', hse, b1⟩ := (HK.out.below hb).str hr
              cases hse
              have HTW := Lib.hid (twin_calls (HA.out.below hb) hl)
              obtain ⟨rk, hrk⟩ : ∃ rk, rk = rankT t r := ⟨_, rfl⟩
              have hle := rankT_le r t
              obtain ⟨hp1, hp2⟩ := rank_nthT HG.out r
              rw [← hrk] at hle hp1 hp2
              have HRKE := Lib.hid hrk
              have HP := Lib.hid (And.intro hp1 hp2)
              clear hb hr hrk hp1 hp2
              (repeat' (first | (go_big_may; fail) | go_values | go_skip | go_guarded | go_step | go_upon | go_back | dsimp only))
              refine HTW.out.mono ?_
              rintro e6 w6 ⟨vt6, rfl, h6⟩
              have HB6 := Lib.hid (lk HBq.out h6.below)
              have hra := Rank_r h6.autRd hl HS.out HT.out hc r (by omega)
              rw [← HRKE.out] at hra
              have HRA := Lib.hid hra
              clear h6 HTW hra
              (repeat' (first | (go_big_may; fail) | go_values | go_skip | go_guarded | go_step | go_upon | go_back | dsimp only))
              refine HRA.out.mono ?_
              rintro e7 w7 ⟨rfl, hb7⟩
              have HB7 := Lib.hid (lk HB6.out hb7)
              have HTW := Lib.hid (twin_calls (HA.out.below HB7.out) hl)
              clear hb7 HRA
              (repeat' (first | (go_big_may; fail) | go_values | go_skip | go_guarded | go_step | go_upon | go_back | dsimp only))
              refine HTW.out.mono ?_
              rintro e8 w8 ⟨vt8, rfl, h8⟩
              have HB8 := Lib.hid (lk HB7.out h8.below)
              have hac := Accepts_r h8.autRd hl HS.out HT.out r (by omega)
              rw [accT_rank, ← HRKE.out] at hac
              have HAC := Lib.hid hac
              clear h8 HTW hac
              (repeat' (first | (go_big_may; fail) | go_values | go_skip | go_guarded | go_step | go_upon | go_back | dsimp only))
              refine HAC.out.mono ?_
              rintro e9 w9 ⟨rfl, hb9⟩
              have HB9 := Lib.hid (lk HB8.out hb9)
              have HTW := Lib.hid (twin_calls (HA.out.below HB9.out) hl)
              clear hb9 HAC
              (repeat' (first | (go_big_may; fail) | go_values | go_skip | go_guarded | go_step | go_upon | go_back | dsimp only))
              refine HTW.out.mono ?_
              rintro e10 w10 ⟨vt10, rfl, h10⟩
              have HB10 := Lib.hid (lk HB9.out h10.below)
              have hnt := Nth_calls h10.autRd hl HT.out hc ((rk.1 : Nat) : Int) HS.out
              have hn1 : ¬ ((rk.1 : Nat) : Int) < 0 := by omega
              have hn2 : ¬ (cntT t : Int) < ((rk.1 : Nat) : Int) := by omega
              clear h10 HTW
              by_cases hlk : rk.1 < cntT t
              · rw [(nthS_in hlk).1, (nthS_in hlk).2] at hnt
                have hlkI : ((rk.1 : Nat) : Int) < (cntT t : Int) := by omega
                have hbl : Op.bytesLess (nthT t rk.1) r = false := HP.out.2 hlk
                cases hr2 : rk.2 with
                | true =>
                  have hw := (HP.out.1 hr2).2
                  rw [hw] at hnt hbl
                  have HNT := Lib.hid hnt
                  clear hnt hw hr2
                  (repeat' (first | (go_big_may; fail) | go_values | go_skip | go_guarded | go_step | go_upon | go_back | dsimp only))
                  refine HNT.out.mono ?_
                  rintro e11 w11 ⟨rfl, hb11⟩
                  have HB11 := Lib.hid (lk HB10.out hb11)
                  clear hb11 HNT
                  (repeat' (first | (go_big_may; fail) | go_values | go_skip | go_guarded | go_step | go_upon | go_back | dsimp only))
                  go_roundw
                  case rel => exact ⟨i + 1, by simp, by omega, HB11.out⟩
                  case measure => simp [intOf] <;> omega
                | false =>
                  have HNT := Lib.hid hnt
                  clear hnt hr2
                  (repeat' (first | (go_big_may; fail) | go_values | go_skip | go_guarded | go_step | go_upon | go_back | dsimp only))
                  refine HNT.out.mono ?_
                  rintro e11 w11 ⟨rfl, hb11⟩
                  have HB11 := Lib.hid (lk HB10.out hb11)
                  clear hb11 HNT
                  (repeat' (first | (go_big_may; fail) | go_values | go_skip | go_guarded | go_step | go_upon | go_back | dsimp only))
                  go_roundw
                  case rel => exact ⟨i + 1, by simp, by omega, HB11.out⟩
                  case measure => simp [intOf] <;> omega
              · have hout : ¬ nthIn t ((rk.1 : Nat) : Int) := fun h => hlk (by have := h.2; omega)
                rw [(nthS_out hout).1, (nthS_out hout).2] at hnt
                have hlkI : ¬ ((rk.1 : Nat) : Int) < (cntT t : Int) := by omega
                have hr2 : rk.2 = false := by
                  cases h : rk.2 with
                  | false => rfl
                  | true => exact absurd (HP.out.1 h).1 hlk
                have HNT := Lib.hid hnt
                rw [hr2]
                clear hnt hr2 hout
                (repeat' (first | (go_big_may; fail) | go_values | go_skip | go_guarded | go_step | go_upon | go_back | dsimp only))
                refine HNT.out.mono ?_
                rintro e11 w11 ⟨rfl, hb11⟩
                have HB11 := Lib.hid (lk HB10.out hb11)
                clear hb11 HNT
                (repeat' (first | (go_big_may; fail) | go_values | go_skip | go_guarded | go_step | go_upon | go_back | dsimp only))
                go_roundw
                case rel => exact ⟨i + 1, by simp, by omega, HB11.out⟩
                case measure => simp [intOf] <;> omega
            · obtain rfl : i = ss.length := by omega
              clear hb
              (repeat' (first | (go_big_may; fail) | go_values | go_skip | go_guarded | go_step | go_upon | go_back | dsimp only))
              go_ret
              exact ⟨rfl, HBq.out⟩
    · rw [show countV t = 0 from if_neg hc, show countE t = 191 from if_neg hc]
      have HRF := Lib.hid (ref_calls (HA.out.below HB5.out) hl)
      (repeat' (first | (go_big_may; fail) | go_values | go_skip | go_guarded | go_step | go_upon | go_back | dsimp only))
      refine HRF.out.mono ?_
      rintro e6 w6 ⟨vx, rfl, h6⟩
      have HB6 := Lib.hid (lk HB5.out h6.below)
      have HRC := Lib.hid (RCounts_calls h6.autRd hl HSH.out)
      clear h6 HRF
      (repeat' (first | (go_big_may; fail) | go_values | go_skip | go_guarded | go_step | go_upon | go_back | dsimp only))
      refine HRC.out.mono ?_
      rintro e7 w7 ⟨cs, g, rfl, hcs, h7⟩
      have hct : cntI t = 1099511627777 := by unfold cntI capN; omega
      have c0 := (RdRow.of_own h7.rowG).at0 (hcs.2 0 t HT.out)
      rw [hct] at c0
      have HB7 := Lib.hid (lk HB6.out h7.below)
      clear h7 hcs hct
      (repeat' (first | (go_big_may; fail) | go_values | go_skip | go_guarded | go_step | go_upon | go_back | dsimp only))
      go_ret
      exact ⟨rfl, HB7.out⟩
end Go.Proofs.Ythjkfiniafblbaa
