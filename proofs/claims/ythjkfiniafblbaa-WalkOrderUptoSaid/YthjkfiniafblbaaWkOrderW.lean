/- WalkOrder walked. -/
import Derived.Test.YthjkfiniafblbaaWkPerfectW
import Derived.Test.YthjkfiniafblbaaWkListsW
namespace Go.Proofs.Ythjkfiniafblbaa
open Go.RowKit

/-- What the list holds. -/
theorem listT_get {t : Trie} (hk : Good t) {f : List UInt8} {most : Int} {i : Nat} {r : List UInt8} (h : (listT t f most)[i]? = some r) : (rankT t f).1 + i < cntT t ∧ r = nthT t ((rankT t f).1 + i) := by
  by_cases hm : most < 1
  · rw [listT_none hm] at h; simp at h
  · rw [listT_some hm, wT_seg hk] at h
    have h1 := (List.getElem?_eq_some_iff.1 h).1
    rw [List.length_take, seg_len] at h1
    have hle := rankT_le f t
    rw [List.getElem?_take_of_lt (by omega), seg_get _ _ _ _ (by omega)] at h
    exact ⟨by omega, by simpa using h.symm⟩
theorem listT_length {t : Trie} (hk : Good t) {f : List UInt8} {most : Int} (hm : most ≤ 300) : ((listT t f most).length : Int) = max 0 (min most ((cntT t : Int) - ((rankT t f).1 : Nat))) := by
  have hle := rankT_le f t
  by_cases h1 : most < 1
  · rw [listT_none h1]
    simp
    omega
  · rw [listT_some h1, wT_seg hk, List.length_take, seg_len]
    omega
theorem listT_le {t : Trie} {f : List UInt8} {most : Int} : ((listT t f most).length : Int) ≤ max 0 most := by
  by_cases h1 : most < 1
  · rw [listT_none h1]
    simp
    omega
  · rw [listT_some h1, List.length_take]
    omega
theorem listT_above {t : Trie} (hk : Good t) {f : List UInt8} {i : Nat} (h : (rankT t f).1 + i < cntT t) : Op.bytesLess (nthT t ((rankT t f).1 + i)) f = false := by
  have h0 := (rank_nthT hk f).2 (by omega)
  by_cases hi : i = 0
  · subst hi; exact h0
  · have h1 := nthT_rise hk (n := (rankT t f).1) (m := (rankT t f).1 + i) (by omega) h
    cases hb : Op.bytesLess (nthT t ((rankT t f).1 + i)) f with
    | false => rfl
    | true => rw [bl_trans h1 hb] at h0; cases h0

set_option maxRecDepth 100000 in
set_option maxHeartbeats 6400000 in
theorem walkOrder_walk (W : World) (A : List Sta) (v0 : Value) (hA : RdAut W v0 A) (hl : A.length + edgesN A ≤ 1048576) (fs : ByteArray) (hfs : fs.size ≤ 1048576) (most0 : Int) (_hmo : -9223372036854775808 ≤ most0 ∧ most0 ≤ 9223372036854775807) :
    Calls Try.prog 12 #[v0, .string fs, .int .i64 most0] W fun e W' => e = .returned (.bool true) ∧ Below W.heap.size W W' := by
  have HW := Lib.hid (wakes_calls W)
  have HA := Lib.hid hA
  obtain ⟨most, hmost⟩ : ∃ most, min most0 300 = most := ⟨_, rfl⟩
  have hm3 : most ≤ 300 := by omega
  have hmlo : -9223372036854775808 ≤ most := by omega
  clear hA
  go_enter Try.func12, Try.ntmps12
  (repeat' (first | (go_big_may; fail) | go_values | go_skip | go_guarded | go_step | go_upon | go_back | dsimp only))
  refine HW.out.mono ?_
  rintro e1 w1 ⟨rfl, hb1⟩
  have HB1 := Lib.hid hb1
  have HRF := Lib.hid (ref_calls (HA.out.below hb1) hl)
  clear hb1 HW
  (repeat' (first | (go_big_may; fail) | go_values | go_skip | go_guarded | go_step | go_upon | go_back | dsimp only))
  refine HRF.out.mono ?_
  rintro e2 w2 ⟨vx, rfl, h2⟩
  have HB2 := Lib.hid (lk HB1.out h2.below)
  have HS := Lib.hid (RShape_calls h2.autRd hl)
  clear h2 HRF
  (repeat' (first | (go_big_may; fail) | go_values | go_skip | go_guarded | go_step | go_upon | go_back | dsimp only))
  refine HS.out.mono ?_
  rintro e3 w3 ⟨rfl, hb3⟩
  have HB3 := Lib.hid (lk HB2.out hb3)
  clear hb3 HS
  cases hs : shapeB A with
  | false =>
    rw [shapeV_bad hs]
    clear hs
    (repeat' (first | (go_big_may; fail) | go_values | go_skip | go_guarded | go_step | go_upon | go_back | dsimp only))
    go_ret
    exact ⟨rfl, HB3.out⟩
  | true =>
    rw [shapeV_ok hs]
    have hsh := shaped_of hs
    obtain ⟨t, ht, hgd, _⟩ := hsh.tr 0 hsh.pos
    have HS := Lib.hid hs
    have HT := Lib.hid ht
    have HG := Lib.hid hgd
    have hht := htT_lt ht
    have HTW := Lib.hid (twin_calls (HA.out.below HB3.out) hl)
    clear hs hsh ht hgd
    (repeat' (first | (go_big_may; fail) | go_values | go_skip | go_guarded | go_step | go_upon | go_back | dsimp only))
    refine HTW.out.mono ?_
    rintro e4 w4 ⟨vt4, rfl, h4⟩
    have HB4 := Lib.hid (lk HB3.out h4.below)
    have hli := List_calls h4.autRd hl HS.out HT.out fs most
    obtain ⟨LT, hLT⟩ : ∃ LT, LT = listT t fs.data.toList most := ⟨_, rfl⟩
    have hlen := listT_length (f := fs.data.toList) HG.out hm3
    have hlele := listT_le (t := t) (f := fs.data.toList) (most := most)
    have hl4 := listT_len t fs.data.toList most
    rw [← hLT] at hli hlen hlele hl4
    have HLI := Lib.hid hli
    have HLT := Lib.hid hLT
    have HLEN := Lib.hid hlen
    have HLELE := Lib.hid hlele
    have hrf := rankT_le fs.data.toList t
    obtain ⟨k0, hk0⟩ : ∃ k0, k0 = (rankT t fs.data.toList).1 := ⟨_, rfl⟩
    have HK0 := Lib.hid hk0
    have HGET := Lib.hid (fun i r (h : LT[i]? = some r) => by rw [hLT] at h; have := listT_get HG.out h; rw [← hk0] at this; exact this)
    clear h4 HTW hli hLT hlen hlele hk0
    (repeat' (first | (go_big_may; fail) | go_values | go_skip | go_guarded | go_step | go_upon | go_back | dsimp only))
    refine HLI.out.mono ?_
    rintro e5 w5 ⟨vl, rfl, h5⟩
    obtain ⟨la, lc, rfl, _, _⟩ := own_shape h5.rowG
    have HB5 := Lib.hid (lk HB4.out h5.below)
    have HL5 := Lib.hid (RdRow.of_own h5.rowG)
    have HTW := Lib.hid (twin_calls (HA.out.below HB5.out) hl)
    clear h5 HLI
    (repeat' (first | (go_big_may; fail) | go_values | go_skip | go_guarded | go_step | go_upon | go_back | dsimp only))
    refine HTW.out.mono ?_
    rintro e6 w6 ⟨vt6, rfl, h6⟩
    have HB6 := Lib.hid h6.below
    have HCN := Lib.hid (Count_calls h6.autRd hl HS.out HT.out)
    clear h6 HTW
    (repeat' (first | (go_big_may; fail) | go_values | go_skip | go_guarded | go_step | go_upon | go_back | dsimp only))
    refine HCN.out.mono ?_
    rintro e7 w7 ⟨rfl, hb7⟩
    have HB7 := Lib.hid (lk HB6.out hb7)
    clear hb7 HCN
    (repeat' (first | (go_big_may; fail) | go_values | go_skip | go_guarded | go_step | go_upon | go_back | dsimp only))
    go_loopw [50] (fun vi wr => ∃ i : Nat, vi = .int .i64 i ∧ i ≤ LT.length ∧ Below w5.heap.size w5 wr) (fun vi _ => LT.length - (intOf vi).toNat)
    case atStart => exact ⟨0, rfl, Nat.zero_le _, HB7.out⟩
    case round =>
      obtain ⟨i, rfl, hi, hb⟩ := hrel
      have HB := Lib.hid hb
      by_cases hlt : i < LT.length
      · obtain ⟨r, hr⟩ : ∃ r, LT[i]? = some r := ⟨_, List.getElem?_eq_getElem hlt⟩
        have hiI : (i : Int) < (LT.length : Int) := by omega
        obtain ⟨hkc, hre⟩ := HGET.out i r hr
        have hbl : Op.bytesLess r fs.toList = false := by rw [hre, Lib.toList_data]; have := listT_above HG.out (f := fs.data.toList) (i := i) (by rw [← HK0.out]; exact hkc); rw [← HK0.out] at this; exact this
        have hrl := nthT_len hkc
        rw [← hre] at hrl
        have HRE := Lib.hid (And.intro hkc hre)
        obtain ⟨bb, ob, cb', hse, b1⟩ := (HL5.out.below hb).str hr
        cases hse
        have HTW := Lib.hid (twin_calls (HA.out.below (lk HB5.out hb)) hl)
        clear hb hre
        (repeat' (first | (go_big_may; fail) | go_values | go_skip | go_guarded | go_step | go_upon | go_back | dsimp only))
        refine HTW.out.mono ?_
        rintro e8 w8 ⟨vt8, rfl, h8⟩
        have HB8 := Lib.hid (lk HB.out h8.below)
        have hac := Accepts_r h8.autRd hl HS.out HT.out r (by omega)
        rw [accT_rank, show (rankT t r).2 = true from by rw [HRE.out.2, nthT_rank HG.out HRE.out.1]] at hac
        have HAC := Lib.hid hac
        clear h8 HTW hac
        by_cases hi0 : i = 0
        · subst hi0
          clear hr
          (repeat' (first | (go_big_may; fail) | go_values | go_skip | go_guarded | go_step | go_upon | go_back | dsimp only))
          refine HAC.out.mono ?_
          rintro e9 w9 ⟨rfl, hb9⟩
          have HB9 := Lib.hid (lk HB8.out hb9)
          clear hb9 HAC
          (repeat' (first | (go_big_may; fail) | go_values | go_skip | go_guarded | go_step | go_upon | go_back | dsimp only))
          go_roundw
          case rel => exact ⟨0 + 1, by simp, by omega, HB9.out⟩
          case measure => simp [intOf] <;> omega
        · obtain ⟨q, rfl⟩ : ∃ q, i = q + 1 := ⟨i - 1, by omega⟩
          obtain ⟨r', hr'⟩ : ∃ r', LT[q]? = some r' := ⟨_, List.getElem?_eq_getElem (by omega)⟩
          obtain ⟨hkc', hre'⟩ := HGET.out q r' hr'
          have hris : Op.bytesLess r' r = true := by rw [HRE.out.2, hre']; exact nthT_rise HG.out (by omega) HRE.out.1
          have hq0 : (0 : Int) < ((q : Nat) : Int) + 1 := by omega
          have hqw : IntKind.i64.wrap (q : Int) = (q : Int) := by rw [IntKind.wrap_i64] <;> omega
          have hqI : (q : Int) < (LT.length : Int) := by omega
          have HR' := Lib.hid hr'
          clear hr hr' hre'
          (repeat' (first | (go_big_may; fail) | go_values | go_skip | go_guarded | go_step | go_upon | go_back | dsimp only))
          refine HAC.out.mono ?_
          rintro e9 w9 ⟨rfl, hb9⟩
          have HB9 := Lib.hid (lk HB8.out hb9)
          obtain ⟨bb2, ob2, cb2', hse2, b2⟩ := (HL5.out.below HB9.out).str HR'.out
          cases hse2
          clear hb9 HAC
          (repeat' (first | (go_big_may; fail) | go_values | go_skip | go_guarded | go_step | go_upon | go_back | dsimp only))
          go_roundw
          case rel => exact ⟨q + 1 + 1, by simp, by omega, HB9.out⟩
          case measure => simp [intOf] <;> omega
      · obtain rfl : i = LT.length := by omega
        clear hb
        by_cases hc : cntT t ≤ 1099511627776
        · rw [show countE t = 0 from if_pos hc, show countV t = (cntT t : Int) from if_pos hc]
          have HTW := Lib.hid (twin_calls (HA.out.below (lk HB5.out HB.out)) hl)
          (repeat' (first | (go_big_may; fail) | go_values | go_skip | go_guarded | go_step | go_upon | go_back | dsimp only))
          refine HTW.out.mono ?_
          rintro e8 w8 ⟨vt8, rfl, h8⟩
          have HB8 := Lib.hid (lk HB.out h8.below)
          have hrk := Rank_calls h8.autRd hl HS.out HT.out hc fs hfs
          rw [← HK0.out] at hrk
          have HRK := Lib.hid hrk
          clear h8 HTW hrk
          (repeat' (first | (go_big_may; fail) | go_values | go_skip | go_guarded | go_step | go_upon | go_back | dsimp only))
          refine HRK.out.mono ?_
          rintro e9 w9 ⟨rfl, hb9⟩
          have HB9 := Lib.hid (lk HB8.out hb9)
          have hk0c : k0 ≤ cntT t := by rw [HK0.out]; exact hrf
          have hlenI : (LT.length : Int) = max 0 (min most ((cntT t : Int) - (k0 : Nat))) := by rw [HLEN.out, ← HK0.out]
          have HLN := Lib.hid hlenI
          clear hb9 HRK hlenI hlt hi
          (repeat' (first | (go_big_may; fail) | go_values | go_skip | go_guarded | go_step | go_upon | go_back | dsimp only))
          go_loopw [105] (fun vi wq => ∃ i : Nat, vi = .int .i64 i ∧ i ≤ LT.length ∧ Below w5.heap.size w5 wq) (fun vi _ => LT.length - (intOf vi).toNat)
          case atStart => exact ⟨0, rfl, Nat.zero_le _, HB9.out⟩
          case round =>
            obtain ⟨i, rfl, hi, hb⟩ := hrel
            have HBq := Lib.hid hb
            by_cases hlt : i < LT.length
            · obtain ⟨r, hr⟩ : ∃ r, LT[i]? = some r := ⟨_, List.getElem?_eq_getElem hlt⟩
              have hiI : (i : Int) < (LT.length : Int) := by omega
              obtain ⟨hkc, hre⟩ := HGET.out i r hr
              have hrl := nthT_len hkc
              rw [← hre] at hrl
              obtain ⟨bb, ob, cb', hse, b1⟩ := (HL5.out.below hb).str hr
              cases hse
              have hrr : rankT t r = (k0 + i, true) := by rw [hre]; exact nthT_rank HG.out hkc
              have HRR := Lib.hid hrr
              have HTW := Lib.hid (twin_calls (HA.out.below (lk HB5.out hb)) hl)
              have hwk : IntKind.i64.wrap ((k0 : Int) + (i : Int)) = ((k0 + i : Nat) : Int) := by rw [IntKind.wrap_i64] <;> omega
              clear hb hre hrr hr
              (repeat' (first | (go_big_may; fail) | go_values | go_skip | go_guarded | go_step | go_upon | go_back | dsimp only))
              refine HTW.out.mono ?_
              rintro e10 w10 ⟨vt10, rfl, h10⟩
              have HB10 := Lib.hid (lk HBq.out h10.below)
              have hrk := Rank_r h10.autRd hl HS.out HT.out hc r (by omega)
              rw [HRR.out] at hrk
              have HRK := Lib.hid hrk
              clear h10 HTW hrk
              (repeat' (first | (go_big_may; fail) | go_values | go_skip | go_guarded | go_step | go_upon | go_back | dsimp only))
              refine HRK.out.mono ?_
              rintro e11 w11 ⟨rfl, hb11⟩
              have HB11 := Lib.hid (lk HB10.out hb11)
              clear hb11 HRK
              (repeat' (first | (go_big_may; fail) | go_values | go_skip | go_guarded | go_step | go_upon | go_back | dsimp only))
              go_roundw
              case rel => exact ⟨i + 1, by simp, by omega, HB11.out⟩
              case measure => simp [intOf] <;> omega
            · obtain rfl : i = LT.length := by omega
              have hwk : IntKind.i64.wrap ((cntT t : Int) - (k0 : Int)) = (cntT t : Int) - (k0 : Int) := by rw [IntKind.wrap_i64] <;> omega
              have hfin : ((LT.length : Int) == max 0 (min most ((cntT t : Int) - (k0 : Int)))) = true := by rw [beq_iff_eq]; exact HLN.out
              clear hb
              (repeat' (first | (go_big_may; fail) | go_values | go_skip | go_guarded | go_step | go_upon | go_back | dsimp only))
              go_ret
              exact ⟨rfl, lk HB5.out HBq.out⟩
        · have hcv : countE t = 191 := if_neg hc
          have hLI : (LT.length : Int) ≤ max 0 most := HLELE.out
          (repeat' (first | (go_big_may; fail) | go_values | go_skip | go_guarded | go_step | go_upon | go_back | dsimp only))
          go_ret
          exact ⟨rfl, lk HB5.out HB.out⟩
end Go.Proofs.Ythjkfiniafblbaa
