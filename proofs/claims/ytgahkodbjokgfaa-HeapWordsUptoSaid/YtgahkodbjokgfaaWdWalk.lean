/- HeapWords walked. -/
import Derived.Test.YtgahkodbjokgfaaWdTake
import Derived.Test.YtgahkodbjokgfaaHeapWakes
namespace Go.Proofs.Ytgahkodbjokgfaa.wd
open Go.RowKit

theorem info_str2 : (Try.prog.info? 9).map (fun i => (i.zero, i.size, i.bytes)) = some (some (.string ⟨#[]⟩), 1, 16) := by kernel_rfl
theorem cellsT_oneCell (l : List ByteArray) : ∀ u ∈ cellsT l, u.oneCell' = true := by
  intro u hu; obtain ⟨c, _, rfl⟩ := List.mem_map.1 hu; rfl
theorem cellsT_append (a b : List ByteArray) : cellsT (a ++ b) = cellsT a ++ cellsT b := by simp [cellsT]

/-- The least taken out on both sides. -/
theorem take_perm {B L : List ByteArray} {m i : Nat} (hB : B.length = m + 1) (hpm : B.Perm L) (hL : L ≠ []) (hi : i ≤ m) (hx : B.getD i default = firstR ltB L) :
    ((hp.swapL B i m).take m).Perm (leftR ltB L) := by
  have h1 : (hp.swapL B i m).Perm B := hp.swapL_perm (by omega) (by omega)
  have hk := leastAt_lt ltB L L.length (by simpa using hL)
  have h2 := hp.perm_eraseIdx L _ hk
  have hlast : (hp.swapL B i m).getD m default = firstR ltB L := by
    rw [hp.getD_swapL (by omega) (by omega), if_pos rfl]; exact hx
  have hlen : (hp.swapL B i m).length = m + 1 := by rw [hp.swapL_length]; exact hB
  have h3 : hp.swapL B i m = (hp.swapL B i m).take m ++ [firstR ltB L] := by
    conv => lhs; rw [← List.take_length (l := hp.swapL B i m), hlen]
    rw [List.take_succ_eq_append_getElem (by omega), ← hlast, List.getD_eq_getElem?_getD, List.getElem?_eq_getElem (by omega)]
    rfl
  have h4 : firstR ltB L = L[leastAt ltB L L.length] := by unfold firstR; rw [List.getD_eq_getElem?_getD, List.getElem?_eq_getElem hk]; rfl
  rw [h3] at h1
  have h5 : (firstR ltB L :: (hp.swapL B i m).take m).Perm (firstR ltB L :: leftR ltB L) := by
    refine (List.perm_append_singleton _ _).symm.trans (h1.trans (hpm.trans ?_))
    rw [h4]; exact h2
  exact List.Perm.cons_inv h5
theorem first_mem {L : List ByteArray} (hL : L ≠ []) : firstR ltB L ∈ L := by
  have hk := leastAt_lt ltB L L.length (by simpa using hL)
  unfold firstR
  rw [List.getD_eq_getElem?_getD, List.getElem?_eq_getElem hk]
  exact List.getElem_mem hk
theorem first_least {L : List ByteArray} (hL : L ≠ []) : ∀ y ∈ leftR ltB L, ltB y (firstR ltB L) = false := by
  intro y hy
  have hm : y ∈ L := List.mem_of_mem_eraseIdx hy
  obtain ⟨j, hj, rfl⟩ := List.getElem_of_mem hm
  have := (leastAt_is ordB hL).2.1 j hj
  rw [List.getD_eq_getElem?_getD, List.getElem?_eq_getElem hj] at this
  exact this
theorem leftR_len {L : List ByteArray} (hL : L ≠ []) : (leftR ltB L).length + 1 = L.length := leftR_length hL

theorem not_below_empty (y : ByteArray) : ltB y ⟨#[]⟩ = false := by
  unfold ltB
  rw [Lib.toList_data ⟨#[]⟩]
  cases y.toList <;> rfl
theorem AllAt.of_own {w : World} {B0 g n cap : Nat} {B : List ByteArray} (h : w.ownsRow B0 9 1 (.slice (some ⟨g, 0, none⟩) n cap) n (cellsT B)) : AllAt w g B := by
  have hl : B.length = n := by simpa [cellsT] using h.1
  rcases h.2 with ⟨h', _⟩ | ⟨g', cap', cur, h', hb, hg, hnc, hcm, hcs, htake⟩
  · simp at h'
  · cases h'
    exact ⟨cur, hg, by rw [hl]; simpa using htake⟩

/-- The loop of HeapWords: n texts are left, none below last. -/
def WdAt (w : World) (b : Nat) (ao : Option Addr) (last : ByteArray) (n : Nat) (wr : World) : Prop :=
  ∃ v L B t, HeapH wr b fLess ltB L t v ∧ L.length = n ∧ B.Perm L ∧ (∀ y ∈ L, ltB y last = false) ∧ (∀ k ∈ b :: rowOf v, w.heap.size ≤ k) ∧
    (∀ a, ao = some a → ∃ g, a = ⟨g, 0, none⟩ ∧ w.heap.size ≤ g ∧ g ∉ b :: rowOf v ∧ AllAt wr g B) ∧ Below w.heap.size w wr

set_option maxRecDepth 100000 in
set_option maxHeartbeats 3200000 in
theorem heapWords_walk (w : World) (words : List ByteArray) (v0 : Value) (rd0 : RdRow w v0 words.length 1 (cellsT words)) (hn0 : words.length ≤ 1048576) (more : List ByteArray) (v1 : Value) (rd1 : RdRow w v1 more.length 1 (cellsT more)) (hn1 : more.length ≤ 1048576) :
    Calls Try.prog 7 #[v0, v1] w fun e w' => e = .returned (.bool true) ∧ Below w.heap.size w w' := by
  obtain ⟨a0, c0, hv0, hc0, hd0⟩ := rd0.shape
  obtain ⟨a1, c1, hv1, hc1, hd1⟩ := rd1.shape
  unfold maxLen at hd0 hd1
  subst hv0 hv1
  have RD0 := Lib.hid rd0
  have RD1 := Lib.hid rd1
  clear rd0 rd1
  have H0 := Lib.hid (World.ownsRow_nil w w.heap.size 9 1)
  go_enter Try.func7, Try.ntmps7
  (repeat' (first | (go_big_may; (at_builtin; go_must (refine wpList_append_rd rfl _ _ 50 9 rfl Try.underlying50 info_str2 rfl (by decide) rfl H0.out rfl RD0.out (cellsT_oneCell _) (Nat.le_refl _) (by unfold maxLen; omega) (by omega) ?_); intro vt w1 hown1 hg1 _; have HO1 := Lib.hid hown1; have HB1 := Lib.hid (grownOwn (Below.refl _ _) (Nat.le_refl _) H0.out hg1); clear hown1 hg1)) | go_values | go_skip | go_guarded | go_step | go_upon | go_back | dsimp only))
  have hrd1 : RdRow w1 vt words.length 1 (cellsT words) := RdRow.of_own (by simpa using HO1.out)
  refine (Words_holds hrd1 (by omega)).mono ?_
  rintro e w2 ⟨b, vh, rfl, hh, hu, hg⟩
  have hb12 : Below w1.heap.size w1 w2 := hu.below (Nat.le_refl _) (by simp)
  have HB2 := Lib.hid (HB1.out.trans (hb12.mono HB1.out.size))
  have HGE := Lib.hid (show ∀ k ∈ b :: rowOf vh, w.heap.size ≤ k from fun k hk => (hg k hk).elim (fun h => by cases h) (fun h => Nat.le_trans HB1.out.size h))
  have HH2 := Lib.hid hh
  clear hh hu hg hb12 hrd1 HO1 HB1
  (repeat' (first | (go_big_may; fail) | go_values | go_skip | go_guarded | go_step | go_upon | go_back | dsimp only))
  refine (wakes_calls _).mono ?_
  rintro e w3 ⟨rfl, hb3⟩
  have HB3 := Lib.hid (HB2.out.trans (hb3.mono HB2.out.size))
  have HH3 := Lib.hid (HH2.out.below hb3)
  have H3 := Lib.hid (World.ownsRow_nil w3 w3.heap.size 9 1)
  have HRD3 := Lib.hid (RD1.out.below HB3.out)
  clear hb3 HB2 HH2
  (repeat' (first | (go_big_may; (at_builtin; go_must (refine wpList_append_rd rfl _ _ 50 9 rfl Try.underlying50 info_str2 rfl (by decide) rfl H3.out rfl HRD3.out (cellsT_oneCell _) (Nat.le_refl _) (by unfold maxLen; omega) (by omega) ?_); intro vt4 w4 hown4 hg4 _; have HO4 := Lib.hid hown4; have HB4 := Lib.hid (grownOwn (Below.refl _ _) (Nat.le_refl _) H3.out hg4); clear hown4 hg4)) | go_values | go_skip | go_guarded | go_step | go_upon | go_back | dsimp only))
  have hown4 : w4.ownsRow w3.heap.size 9 1 vt4 more.length (cellsT more) := by simpa using HO4.out
  have hh4 := HH3.out.below HB4.out
  refine (Push_holds lessB hh4 (RdRow.of_own hown4) (fun k off c e _ hm => by
    have h1 := (hown4.lt k (by rw [e]; rfl)).1
    have h2 := HH3.out.lt k hm
    omega) (by omega) (by omega)).mono ?_
  rintro e w5 ⟨rfl, v5, hh5, hu5, hg5⟩
  have hbw4 := HB3.out.trans (HB4.out.mono HB3.out.size)
  have HB5 := Lib.hid (hbw4.trans (hu5.below hbw4.size HGE.out))
  have HGE5 := Lib.hid (show ∀ k ∈ b :: rowOf v5, w.heap.size ≤ k from fun k hk => (hg5 k hk).elim (HGE.out k) (fun h => Nat.le_trans hbw4.size h))
  have HH5 := Lib.hid hh5
  have H5 := Lib.hid (World.ownsRow_nil w5 w5.heap.size 9 1)
  have HRD5 := Lib.hid (RD0.out.below HB5.out)
  clear hown4 hh4 hbw4 hh5 hu5 hg5 HO4 HB4 HB3 HH3 H3 HRD3 HGE H0
  (repeat' (first | (go_big_may; (at_builtin; go_must (refine wpList_append_rd rfl _ _ 50 9 rfl Try.underlying50 info_str2 rfl (by decide) rfl H5.out rfl HRD5.out (cellsT_oneCell _) (Nat.le_refl _) (by unfold maxLen; omega) (by omega) ?_); intro vt6 w6 hown6 hg6 _; have hb6 := grownOwn (Below.refl _ _) (Nat.le_refl _) H5.out hg6; rw [List.nil_append, Nat.zero_add] at hown6; have HO6 := Lib.hid hown6; have HB6 := Lib.hid hb6; have hs6 := hb6.size; have HRD6 := Lib.hid (RD1.out.below (HB5.out.trans (hb6.mono HB5.out.size))); clear hown6 hg6 hb6; (repeat' (first | (go_big_may; (at_builtin; go_must (refine wpList_append_rd rfl _ _ 50 9 rfl Try.underlying50 info_str2 rfl (by decide) rfl HO6.out rfl HRD6.out (cellsT_oneCell _) hs6 (by unfold maxLen; omega) (by omega) ?_); intro va w7 hown7 hg7 _; have HO7 := Lib.hid hown7; have HB7 := Lib.hid (grownOwn HB6.out hs6 HO6.out hg7); obtain ⟨ao, ca, hva, hca1, hca2⟩ := (RdRow.of_own hown7).shape; subst hva; unfold maxLen at hca2; clear hown7 hg7)) | go_values | go_skip | go_guarded | go_step | go_upon | go_back | dsimp only)))) | go_values | go_skip | go_guarded | go_step | go_upon | go_back | dsimp only))
  have hstart : WdAt w b ao ⟨#[]⟩ (words.length + more.length) w7 := by
    have hown : w7.ownsRow w5.heap.size 9 1 (.slice ao (words.length + more.length) ca) (words.length + more.length) (cellsT (words ++ more)) := by rw [cellsT_append]; exact HO7.out
    refine ⟨v5, words ++ more, words ++ more, _, HH5.out.below HB7.out, by simp, List.Perm.refl _, fun y _ => not_below_empty y, HGE5.out, fun a e => ?_, HB5.out.trans (HB7.out.mono HB5.out.size)⟩
    subst e
    rcases hown.2 with ⟨h', _⟩ | ⟨g, cap', cur, h', hbg, _⟩
    · simp at h'
    · cases h'
      exact ⟨g, rfl, Nat.le_trans HB5.out.size hbg, fun hm => by have := HH5.out.lt g hm; omega, AllAt.of_own hown⟩
  have hnone : ao = none → words.length + more.length = 0 := fun e => by
    subst e
    rcases HO7.out.2 with ⟨h', h0⟩ | ⟨g, cap', cur, h', _⟩
    · exact h0
    · cases h'
  have HST := Lib.hid hstart
  have HNO := Lib.hid hnone
  clear hstart hnone HO7 HB7 HO6 HB6 HRD6 HRD5 H5 HH5 HGE5 HB5 hs6
  go_loopw [7, 8] (fun la z wr => ∃ (last : ByteArray) (n : Nat), la = .string last ∧ z = .int .i64 n ∧ n ≤ words.length + more.length ∧ WdAt w b ao last n wr) (fun _ z _ => (intOf z).toNat)
  case atStart => exact ⟨⟨#[]⟩, words.length + more.length, rfl, by simp, Nat.le_refl _, HST.out⟩
  case round =>
    obtain ⟨last, n, rfl, rfl, hn, v, L, B, t, hh, hl, hpm, hla, hge, hall, hb⟩ := hrel
    clear HST
    have HLE := Lib.hid (Len_holds hh)
    rw [hl] at HLE
    have HB := Lib.hid hb
    have HGE := Lib.hid hge
    by_cases hn0 : n = 0
    · subst hn0
      have hL : L = [] := List.length_eq_zero_iff.1 hl
      subst hL
      have hP := Pop_holds lessB hh (by simp)
      rw [if_pos rfl] at hP
      have HP := Lib.hid hP
      clear hh hl hpm hla hge hall hb hP HLE
      (repeat' (first | (go_big_may; fail) | go_values | go_skip | go_guarded | go_step | go_upon | go_back | dsimp only))
      refine HP.out.mono ?_
      rintro e w8 ⟨rfl, v8, hh8, hu8, hg8⟩
      have HB8 := Lib.hid (HB.out.trans (hu8.below HB.out.size HGE.out))
      have HL8 := Lib.hid (Len_holds hh8)
      clear hh8 hu8 hg8 HP HB HGE
      (repeat' (first | (go_big_may; fail) | go_values | go_skip | go_guarded | go_step | go_upon | go_back | dsimp only))
      refine HL8.out.mono ?_
      rintro e w9 ⟨rfl, rfl⟩
      (repeat' (first | (go_big_may; fail) | go_values | go_skip | go_guarded | go_step | go_upon | go_back | dsimp only))
      go_ret
      exact ⟨rfl, HB8.out⟩
    · obtain ⟨m, rfl⟩ : ∃ m, n = m + 1 := ⟨n - 1, by omega⟩
      have hL : L ≠ [] := fun e => by subst e; simp at hl
      obtain ⟨g, hg, hwg, hgn, hAt⟩ : ∃ g, ao = some ⟨g, 0, none⟩ ∧ w.heap.size ≤ g ∧ g ∉ b :: rowOf v ∧ AllAt wr g B := by
        cases hao : ao with
        | none => have := HNO.out hao; omega
        | some a =>
          obtain ⟨g, h1, h2⟩ := hall a hao
          exact ⟨g, by rw [h1], h2⟩
      subst hg
      have hPk := Peek_holds hh
      have hP := Pop_holds lessB hh (by omega)
      rw [if_neg hL] at hPk hP
      have hfm := first_mem hL
      have hfl := first_least hL
      have hll := leftR_len hL
      have hbl : B.length = m + 1 := by rw [hpm.length_eq, hl]
      have htp := fun i (hi : i ≤ m) (hx : B.getD i default = firstR ltB L) => take_perm hbl hpm hL hi hx
      have hlt := hla _ hfm
      generalize firstR ltB L = x at *
      generalize leftR ltB L = L' at *
      have hxB : x ∈ B := hpm.mem_iff.2 hfm
      have HPK := Lib.hid hPk
      have HP := Lib.hid hP
      have HFL := Lib.hid hfl
      have HLL := Lib.hid hll
      have HBL := Lib.hid hbl
      have HTP := Lib.hid htp
      have HXB := Lib.hid hxB
      have HAT := Lib.hid hAt
      have HGN := Lib.hid hgn
      have HL0 := Lib.hid hl
      have hs1 := toList_same x
      have hs2 : Op.bytesLess x.toList last.toList = false := hlt
      have hq : (((m + 1 : Nat) : Int) != ((m + 1 : Nat) : Int)) = false := by simp
      have hq2 : (((m : Int) + 1) != ((m : Int) + 1)) = false := by simp
      have hm1 : (m : Int) + 1 ≤ words.length + more.length := by omega
      have hgw : g < wr.heap.size := by obtain ⟨cur, h1, _⟩ := hAt; exact lt_of_heap h1
      clear hh hl hpm hla hge hall hb hPk hP hfm hfl hll hbl htp hlt hxB hAt hgn hL hn0
      (repeat' (first | (go_big_may; fail) | go_values | go_skip | go_guarded | go_step | go_upon | go_back | dsimp only))
      refine HLE.out.mono ?_
      rintro e w8 ⟨rfl, rfl⟩
      (repeat' (first | (go_big_may; fail) | go_values | go_skip | go_guarded | go_step | go_upon | go_back | dsimp only))
      refine HPK.out.mono ?_
      rintro e w9 ⟨rfl, rfl⟩
      (repeat' (first | (go_big_may; fail) | go_values | go_skip | go_guarded | go_step | go_upon | go_back | dsimp only))
      refine HP.out.mono ?_
      rintro e w10 ⟨rfl, v10, hh10, hu10, hg10⟩
      have HH10 := Lib.hid hh10
      have HB10 := Lib.hid (HB.out.trans (hu10.below HB.out.size HGE.out))
      have HGE10 := Lib.hid (show ∀ k ∈ b :: rowOf v10, w.heap.size ≤ k from fun k hk => (hg10 k hk).elim (HGE.out k) (fun h => Nat.le_trans HB.out.size h))
      have HAT10 := Lib.hid (HAT.out.block (hu10.block g hgw HGN.out))
      have HGN10 := Lib.hid (show g ∉ b :: rowOf v10 from fun hm => (hg10 g hm).elim HGN.out (fun h => by omega))
      clear hh10 hu10 hg10 HP HPK HLE HB HGE HAT HGN
      (repeat' (first | (go_big_may; fail) | go_values | go_skip | go_guarded | go_step | go_upon | go_back | dsimp only))
      refine (take_calls HAT10.out HBL.out (by omega) HXB.out).mono ?_
      rintro e w11 ⟨rfl, i, hi, hix, hat11, hu11⟩
      have hfin : WdAt w b (some ⟨g, 0, none⟩) x m w11 := by
        refine ⟨v10, L', (hp.swapL B i m).take m, t, HH10.out.upd hu11 (fun k hk hm => HGN10.out (by simp at hm; rw [← hm]; exact hk)), by have := HLL.out; have := HL0.out; omega, HTP.out i hi hix, HFL.out, HGE10.out, fun a e => ?_, HB10.out.trans (hu11.below HB10.out.size fun k hk => by simp at hk; omega)⟩
        cases e
        exact ⟨g, rfl, hwg, HGN10.out, hat11.front (by rw [hp.swapL_length, HBL.out]; omega)⟩
      have HF := Lib.hid hfin
      clear hat11 hu11 hix hfin
      (repeat' (first | (go_big_may; fail) | go_values | go_skip | go_guarded | go_step | go_upon | go_back | dsimp only))
      go_roundw
      case rel => exact ⟨x, m, rfl, by simp, by omega, HF.out⟩
      case measure => simp [intOf] <;> omega
end Go.Proofs.Ytgahkodbjokgfaa.wd
