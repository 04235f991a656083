/- StreamsAsked walked. -/
import Derived.Test.YtbmfaffnbjmipaaStEnv
import Derived.Test.YtbmfaffnbjmipaaStRef
import Derived.Test.YtbmfaffnbjmipaaStructRows
namespace Go.Proofs.Ytbmfaffnbjmipaa
open Go.ChangeShapes Go.WideShapes Go.ChangeAt Go.RowKit

/-- A text list's value and its texts. -/
abbrev TxsV : Type := Value × List (List UInt8)
abbrev cTxs (x : TxsV) : List Value := [x.1]
theorem open_strss {H : Type} {enc : TypeId × Value → H} {W : World} {r : Reach} {b0 : Nat} {v : Value} {d : DataW H} {ps : List MemPlace}
    (_ : Value.okWide Try.prog W r b0 43 v) (hd : DataW.Trod enc Try.prog W 0 (fun _ => true) true 43 v d ps) :
    ∃ xs : List TxsV, RdRow W v xs.length 1 (xs.flatMap cTxs) ∧ (∀ x ∈ xs, RdRow W x.1 x.2.length 1 (strs x.2)) ∧ (xs.map fun x => x.2.length + sumLen x.2 + 1).sum + 1 ≤ Rows.uptoBulk d := by
  obtain ⟨a0, len, cap, rfl⟩ := okWide_slice Try.underlying43 ‹_›
  obtain ⟨fuel, hf⟩ := hd
  refine open_rowsG (c := cTxs) (Q := fun x => RdRow W x.1 x.2.length 1 (strs x.2)) (B := fun x => x.2.length + sumLen x.2 + 1) (fun _ => rfl) (by decide) Try.underlying43 (by kernel_rfl) (fun fuel cs y hl hy => ?_) hf
  obtain ⟨v, rfl⟩ := List.length_eq_one_iff.1 hl
  obtain ⟨ss, h1, h2⟩ := strs_of Try.underlying22 Try.underlying9 (by kernel_rfl) (d := y.1) (ps := y.2) hy
  exact ⟨(v, ss), rfl, h1, h2⟩
theorem unionL_snoc {Ls : List (List (List UInt8))} {X : List (List UInt8)} (hX : RisesL X) : mergeL (cu.unionL Ls) X = cu.unionL (Ls ++ [X]) :=
  RisesL.ext (mergeL_rises (unionL_rises _) hX) (unionL_rises _) fun x => by
    rw [mergeL_mem, mem_unionL, mem_unionL]
    simp only [List.mem_append, List.mem_singleton]
    constructor
    · rintro (⟨L, h1, h2⟩ | h)
      · exact ⟨L, .inl h1, h2⟩
      · exact ⟨X, .inr rfl, h⟩
    · rintro ⟨L, h1 | rfl, h2⟩
      · exact .inl ⟨L, h1, h2⟩
      · exact .inr h2
def ofs (xs : List TxsV) : List (List (List UInt8)) := xs.map fun x => ofL x.2
theorem ofs_len (xs : List TxsV) : (ofs xs).length = xs.length := by simp [ofs]
theorem ofs_rises (xs : List TxsV) : ∀ L ∈ ofs xs, RisesL L := fun L hL => by
  obtain ⟨x, _, rfl⟩ := List.mem_map.1 hL
  exact ofL_rises _
theorem ofs_flat (xs : List TxsV) : (ofs xs).flatten.length ≤ (xs.map fun x => x.2.length + sumLen x.2 + 1).sum := by
  induction xs with
  | nil => simp [ofs]
  | cons x xs ih =>
    have := ofL_len x.2
    simp only [ofs, List.map_cons, List.flatten_cons, List.length_append, List.sum_cons] at ih ⊢
    omega
theorem len_le_sum (xs : List TxsV) : xs.length ≤ (xs.map fun x => x.2.length + sumLen x.2 + 1).sum := by
  induction xs with
  | nil => simp
  | cons x xs ih => simp only [List.length_cons, List.map_cons, List.sum_cons]; omega
theorem le_sum {xs : List TxsV} {x : TxsV} (h : x ∈ xs) : x.2.length ≤ (xs.map fun x => x.2.length + sumLen x.2 + 1).sum := by
  induction xs with
  | nil => cases h
  | cons y xs ih =>
    simp only [List.map_cons, List.sum_cons]
    rcases List.mem_cons.1 h with rfl | h
    · omega
    · have := ih h; omega
theorem sum_take (xs : List TxsV) (k : Nat) : ((xs.take k).map fun x => x.2.length + sumLen x.2 + 1).sum ≤ (xs.map fun x => x.2.length + sumLen x.2 + 1).sum := by
  have := congrArg (fun l => (l.map fun x : TxsV => x.2.length + sumLen x.2 + 1).sum) (List.take_append_drop k xs)
  simp only [List.map_append, List.sum_append] at this
  omega
theorem ofs_take {xs : List TxsV} {k : Nat} {x : TxsV} (h : xs[k]? = some x) : ofs (xs.take (k + 1)) = ofs (xs.take k) ++ [ofL x.2] := by
  unfold ofs
  rw [List.take_add_one, h, List.map_append]; rfl
theorem RdRow.first {w : World} {a : Option Addr} {n c : Nat} {L : List (List UInt8)} (h : RdRow w (.slice a n c) L.length 1 (strs L)) (m : Nat) : RdRow w (.slice a (L.take m).length c) (L.take m).length 1 (strs (L.take m)) := by
  obtain ⟨_, a', c', e, h1, h2, hc⟩ := h
  cases e
  refine ⟨by simp [strs], a, c, rfl, Nat.le_trans (by rw [List.length_take]; exact Nat.min_le_right _ _) h1, h2, fun j u hu => hc j u ?_⟩
  have e : strs (L.take m) = (strs L).take m := by simp [strs, List.map_take]
  rw [e, List.getElem?_take] at hu
  split at hu
  · exact hu
  · cases hu
set_option maxRecDepth 100000 in
set_option maxHeartbeats 8000000 in
theorem streamsAsked_walk (W : World) (xs : List TxsV) (v : Value) (rd : RdRow W v xs.length 1 (xs.flatMap cTxs)) (hxs : ∀ x ∈ xs, RdRow W x.1 x.2.length 1 (strs x.2)) (hm : (xs.map fun x => x.2.length + sumLen x.2 + 1).sum + 1 ≤ 1048576) (most : Int) (hmost : -9223372036854775808 ≤ most ∧ most ≤ 9223372036854775807) (zb : ByteArray) (_ : zb.size ≤ 1048576) :
    Calls Try.prog 7 #[v, .int .i64 most, .string zb] W fun e w' => e = .returned (.bool true) ∧ Below W.heap.size W w' := by
  obtain ⟨z, rfl⟩ : ∃ z : List UInt8, zb = ⟨z.toArray⟩ := ⟨zb.data.toList, by simp⟩
  obtain ⟨a, cap, rfl, hc1, hc2⟩ := rd.shape
  unfold maxLen at hc2
  have hxl := len_le_sum xs
  have h1 := (((At.nought (Below.refl W.heap.size W)).noRowG Stable.nought tSt 1).noRowG ((RowG.stable _ _ _ _ _).both Stable.nought) tStr 1).noughtL ((RowG.stable _ _ _ _ _).both ((RowG.stable _ _ _ _ _).both Stable.nought))
  have RD := Lib.hid rd
  have HXS := Lib.hid hxs
  have H1 := Lib.hid h1
  clear rd hxs h1
  go_enter Try.func7, Try.ntmps7
  (repeat' (first | (go_big_may; fail) | go_values | go_skip | go_guarded | go_step | go_upon | go_back | dsimp only))
  go_loopw [7, 8, 15] (fun v7 v8 vi wr => ∃ (k : Nat) (Φ : Thing) (es : List (Value × List (List UInt8))) (us : List Value), vi = .int .i64 k ∧ k ≤ xs.length ∧ Stable Φ ∧ Envs W Φ es ∧ us.length = k ∧ (∀ p ∈ us.zip (ofs (xs.take k)), p ∈ es) ∧ (∀ u ∈ us, u.oneCell' = true) ∧ At W wr (Both Φ (Both (RowG tStr 1 v7 k us) (Both (RowG tSt 1 v8 (cu.unionL (ofs (xs.take k))).length (strs (cu.unionL (ofs (xs.take k))))) Nought)))) (fun _ _ vi _ => xs.length - (intOf vi).toNat)
  case atStart => exact ⟨0, Nought, [], [], rfl, Nat.zero_le _, Stable.nought, Envs.nil _ _, rfl, by simp, by simp, by
    have e0 : cu.unionL (ofs (xs.take 0)) = [] := by simp [ofs, cu.unionL, ofL_nil]
    rw [e0]; exact H1.out⟩
  case round =>
    obtain ⟨k, Φ, es, us, rfl, hk, hΦ, he, hul, hin, hone, h2⟩ := hrel
    clear H1
    have hof := ofs_flat (xs.take k)
    have hst := sum_take xs k
    have hUl := unionL_len (ofs (xs.take k))
    by_cases hlt : k < xs.length
    · obtain ⟨x, hx⟩ : ∃ x, xs[k]? = some x := ⟨_, List.getElem?_eq_getElem hlt⟩
      have hxm := List.mem_of_getElem? hx
      have hxl2 := le_sum hxm
      have hot := ofs_take hx
      obtain ⟨g, off, cp, hsl, hcx⟩ := RdRow.at (c := cTxs) (n := 1) (fun _ => rfl) (RD.out.below h2.below) hlt (by decide)
      cases hsl
      have hcx0 := hcx 0 (by decide)
      rw [List.getD_eq_getElem?_getD, hx] at hcx0
      have hcx1 : wr.cell? ⟨g, off + k, none⟩ = some x.1 := by simpa using hcx0
      have HRX := Lib.hid (HXS.out x hxm)
      obtain ⟨xa, xc, hxv, _, _⟩ := HRX.out.shape
      rw [hxv] at hcx1
      have HTW := Lib.hid (twin8_calls x.2 _ wr (HRX.out.below h2.below) (by omega))
      rw [hxv] at HTW
      have H2 := Lib.hid h2
      have HIN := Lib.hid hin
      have HOT := Lib.hid hot
      have hki : (k : Int) < xs.length := by omega
      have hk0 : (0 : Int) ≤ k := by omega
      have HXV := Lib.hid hxv
      clear hcx hcx0 hx h2 hin hot hxv
      (repeat' (first | (go_big_may; fail) | go_values | go_skip | go_guarded | go_step | go_upon | go_back | dsimp only))
      refine HTW.out.mono ?_
      rintro e w2 ⟨v2, rfl, ho, hbl⟩
      obtain ⟨a7, p7, rfl, _, hp7⟩ := own_shape H2.out.drop.rowG
      obtain ⟨a8, p8, rfl, _, hp8⟩ := own_shape H2.out.drop.drop.rowG
      unfold maxLen at hp7 hp8
      have hR2 := (RowG.stable tStr 1 (.slice a7 k p7) k us).both ((RowG.stable tSt 1 (.slice a8 (cu.unionL (ofs (xs.take k))).length p8) (cu.unionL (ofs (xs.take k))).length (strs (cu.unionL (ofs (xs.take k))))).both Stable.nought)
      have HO := Lib.hid (OfTwin_env H2.out hΦ hR2 he hbl ho (by omega))
      clear HTW ho hbl H2
      (repeat' (first | (go_big_may; fail) | go_values | go_skip | go_guarded | go_step | go_upon | go_back | dsimp only))
      refine HO.out.mono ?_
      rintro e w3 ⟨Φ2, u, hΦ2, rfl, he2, h3⟩
      have hu1 := (he2.get u (ofL x.2) (by simp)).one
      have HH := Lib.hid h3.swap
      have HR := Lib.hid (hΦ2.both ((RowG.stable tSt 1 (.slice a8 (cu.unionL (ofs (xs.take k))).length p8) (cu.unionL (ofs (xs.take k))).length (strs (cu.unionL (ofs (xs.take k))))).both Stable.nought))
      clear h3 HO
      (repeat' (first | (go_big_may; ((at_builtin; go_must (refine wpList_append_to rfl _ _ 44 tStr rfl Try.underlying44 info_St rfl (by decide) rfl (HH.out) (HR.out) rfl (by first | rfl | simp) rfl ((by intro q hq; simp at hq; subst hq; exact hu1)) (by unfold maxLen; omega) (by omega) ?_); intro a9 p9 w4 h4 _))) | go_values | go_skip | go_guarded | go_step | go_upon | go_back | dsimp only))
      have hrx := HRX.out.below h4.below
      rw [HXV.out] at hrx
      have HRO := Lib.hid (Of_at x.2.length w4 x.2 _ (Nat.le_refl _) (by omega) hrx)
      have H4 := Lib.hid h4
      have hs4 := (RowG.stable tStr 1 (.slice a9 (k + 1) p9) (k + 1) (us ++ [u])).both HR.out
      clear hrx h4 HH
      refine HRO.out.mono ?_
      rintro e w5 ⟨vo, rfl, h5q⟩
      have h5 := At.glue H4.out hs4 h5q
      have hrU := RUnion_calls (RdRow.of_own h5.drop.drop.drop.rowG) (RdRow.of_own h5.rowG) (by have := ofL_len x.2; omega)
      rw [unionL_snoc (ofL_rises x.2), ← HOT.out] at hrU
      have HRU := Lib.hid hrU
      have H5 := Lib.hid h5
      clear h5q h5 hrU H4 HRO
      (repeat' (first | (go_big_may; fail) | go_values | go_skip | go_guarded | go_step | go_upon | go_back | dsimp only))
      refine HRU.out.mono ?_
      rintro e w6 ⟨vn, rfl, h6q⟩
      have h6 := At.glue H5.out ((RowG.stable _ _ _ _ _).both hs4) h6q
      have h7 := h6.swap.drop.pull4.drop.pull3.swap2
      have H7 := Lib.hid h7
      obtain ⟨an, pn, rfl, _, _⟩ := own_shape h6.rowG
      clear h6q h6 h7 H5 HRU
      (repeat' (first | (go_big_may; fail) | go_values | go_skip | go_guarded | go_step | go_upon | go_back | dsimp only))
      go_roundw
      case rel =>
        refine ⟨k + 1, Φ2, _, us ++ [u], by go_num, hlt, hΦ2, he2, by simp [hul], fun p hp => ?_, fun q hq => ?_, H7.out⟩
        · rw [HOT.out, List.zip_append (by rw [hul, ofs_len, List.length_take]; omega)] at hp
          rcases List.mem_append.1 hp with h8 | h8
          · exact List.mem_cons_of_mem _ (HIN.out p h8)
          · simp at h8; subst h8; simp
        · rcases List.mem_append.1 hq with h8 | h8
          · exact hone q h8
          · simp at h8; subst h8; exact hu1
      case measure => simp [intOf]; omega
    · obtain rfl : k = xs.length := by omega
      rw [List.take_of_length_le (Nat.le_refl _)] at hin h2 hof hUl
      obtain ⟨a7, p7, rfl, _, hp7⟩ := own_shape h2.drop.rowG
      obtain ⟨a8, p8, rfl, _, hp8⟩ := own_shape h2.drop.drop.rowG
      unfold maxLen at hp7 hp8
      have hR2 := (RowG.stable tStr 1 (.slice a7 xs.length p7) xs.length us).both ((RowG.stable tSt 1 (.slice a8 (cu.unionL (ofs xs)).length p8) (cu.unionL (ofs xs)).length (strs (cu.unionL (ofs xs)))).both Stable.nought)
      have hrd := RdRow.of_own h2.drop.rowG
      rw [← hul] at hrd
      have HU := Lib.hid (SUnion_at (IsStrs.of he (by rw [hul, ofs_len]) hin) hΦ hR2 h2 hrd (ofs_rises _) (by rw [ofs_len]; omega) (by omega))
      rw [hul] at HU
      have hrU := unionL_rises (ofs xs)
      have hlU : (cu.unionL (ofs xs)).length ≤ 1048576 := by omega
      generalize cu.unionL (ofs xs) = U at *
      clear hrd h2 hin hof hUl
      (repeat' (first | (go_big_may; fail) | go_values | go_skip | go_guarded | go_step | go_upon | go_back | dsimp only))
      refine HU.out.mono ?_
      intro e w3 hmk
      obtain ⟨Φ2, u, hΦ2, rfl, he2, h3⟩ := hmk.env hΦ he
      have hs := he2.get u U (by simp)
      obtain ⟨hst, h4⟩ := h3.keepStr hΦ2 hR2 hs.one
      have hR4 := (CellT.stable w3.heap.size #[u] tStr).both hR2
      have hWk := Lib.hid (wakes8_calls (w3.alloc (.cells #[u] tStr)))
      have H4 := Lib.hid h4
      have HS := Lib.hid hs
      clear h3 h4 hs HU hmk
      (repeat' (first | (go_big_may; fail) | go_values | go_skip | go_guarded | go_step | go_upon | go_back | dsimp only))
      clear hst
      refine hWk.out.mono ?_
      rintro e w5 ⟨rfl, hb5⟩
      have h5 := H4.out.mono (hΦ2.both hR4) hb5
      generalize w3.heap.size = k11 at *
      have c5 := (h5.drop.cellF (o := 0) (u := u) rfl).1
      have HI := Lib.hid (is_at HS.out hΦ2 hR4 h5 (by omega) (fun w' h => RdRow.of_own h.drop.drop.drop.rowG))
      clear hb5 h5 H4 hWk
      (repeat' (first | (go_big_may; fail) | go_values | go_skip | go_guarded | go_step | go_upon | go_back | dsimp only))
      refine HI.out.mono ?_
      rintro e w6 ⟨rfl, h6⟩
      have c6 := (h6.drop.cellF (o := 0) (u := u) rfl).1
      have HH := Lib.hid (Has_at HS.out hΦ2 hR4 h6 hrU z)
      clear h6 HI c5
      (repeat' (first | (go_big_may; fail) | go_values | go_skip | go_guarded | go_step | go_upon | go_back | dsimp only))
      refine HH.out.mono ?_
      rintro e w7 ⟨rfl, h7⟩
      have c7 := (h7.drop.cellF (o := 0) (u := u) rfl).1
      have HRH := Lib.hid (RHas_calls hrU (RdRow.of_own h7.drop.drop.drop.rowG) (by omega) z)
      have H7 := Lib.hid h7
      clear h7 HH c6
      generalize decide (z ∈ U) = bz at *
      (repeat' (first | (go_big_may; fail) | go_values | go_skip | go_guarded | go_step | go_upon | go_back | dsimp only))
      refine HRH.out.mono ?_
      rintro e w8 ⟨rfl, rfl⟩
      have hbz : (bz != bz) = false := by simp
      have hbz2 : (bz == bz) = true := by simp
      clear HRH
      by_cases hm1 : most < 1
      · have HL := Lib.hid (List0_at (v := u) hΦ2 hR4 H7.out hm1)
        (repeat' (first | (go_big_may; fail) | go_values | go_skip | go_guarded | go_step | go_upon | go_back | dsimp only))
        refine HL.out.mono ?_
        rintro e w9 ⟨rfl, h9⟩
        have hb9 := Lib.hid h9.below
        clear h9 HL
        (repeat' (first | (go_big_may; fail) | go_values | go_skip | go_guarded | go_step | go_upon | go_back | dsimp only))
        go_ret
        exact ⟨rfl, hb9.out⟩
      · have HL := Lib.hid (List_at HS.out hΦ2 hR4 H7.out (by omega) (m := most) (by omega) hmost.2)
        (repeat' (first | (go_big_may; fail) | go_values | go_skip | go_guarded | go_step | go_upon | go_back | dsimp only))
        refine HL.out.mono ?_
        rintro e w9 ⟨r, rfl, h9⟩
        have H9 := Lib.hid h9
        have hmin : (min most (U.length : Int)).toNat = (U.take most.toNat).length := by rw [List.length_take]; omega
        have hsm := same8_calls (U.take most.toNat) (U.take most.toNat) r (.slice a8 (U.take most.toNat).length p8) w9 (RdRow.of_own H9.out.rowG) (RdRow.first (RdRow.of_own H9.out.drop.drop.drop.drop.rowG) most.toNat)
        rw [← hmin] at hsm
        have HSM := Lib.hid hsm
        clear h9 HL hsm hmin
        (repeat' (first | (go_big_may; fail) | go_values | go_skip | go_guarded | go_step | go_upon | go_back | dsimp only))
        refine HSM.out.mono ?_
        rintro e w10 ⟨rfl, hb10⟩
        have HB := Lib.hid (H9.out.below.trans (hb10.mono H9.out.below.size))
        have hdt : decide (U.take most.toNat = U.take most.toNat) = true := by simp
        rw [hdt]
        clear hb10 HSM H9
        (repeat' (first | (go_big_may; fail) | go_values | go_skip | go_guarded | go_step | go_upon | go_back | dsimp only))
        go_ret
        exact ⟨rfl, HB.out⟩
end Go.Proofs.Ytbmfaffnbjmipaa
