/- BatchKeeps walked. -/
import Derived.Test.YthcicmbkkkhifaaDoorBuBatKeLaw36
import Derived.Test.YthcicmbkkkhifaaDoorBuBatKeLaw38
import Derived.Test.YthcicmbkkkhifaaDoorBuBatKeLaw20
set_option linter.unusedSimpArgs false
set_option linter.unusedVariables false
namespace Go.Proofs.YthcicmbkkkhifaaDoor
open Go.RowKit

theorem strs_set9 (M : List (List UInt8)) (j : Nat) (x : List UInt8) : (strs M).set j (.string ⟨x.toArray⟩) = strs (M.set j x) := by simp [strs, List.map_set]
theorem two_str9 (a b : ByteArray) : ∀ u ∈ (#[Value.string a, Value.string b] : Array Value).toList, u.oneCell' = true := by
  intro u hu; simp at hu; rcases hu with rfl | rfl <;> rfl
theorem At.nought9 {W w : World} {A B C D : Thing} (h : At W w (Both A (Both B (Both C D)))) : At W w (Both C (Both D (Both A (Both B Nought)))) :=
  (h.impl fun _ q => Both.nought q).perm (by ac_rfl)
abbrev zz9 : List (List UInt8) := [[122, 122], [122, 121]]
set_option maxRecDepth 100000 in
set_option maxHeartbeats 6400000 in
theorem batchKeeps_walk (W : World) (ef : Nat → Nat × Nat) (hF : Fails W ef fails12) (ss : List (List UInt8)) (v : Value) (rd : RdRow W v ss.length 1 (strs ss)) (hbulk : ss.length + sumLen ss ≤ 1048576) (B : Int) (_ : inI64 B) :
    Calls Tryd.prog 3 #[v, .int .i64 B] W fun e w' => e = .returned (.bool true) ∧ Below W.heap.size W w' := by
  obtain ⟨hss, hsx⟩ := bulk_each (ss := ss) (by omega)
  obtain ⟨ft1, ft2, ft3, ft4⟩ := fitW_facts ss 0
  have ft3 := ft3 (by omega)
  obtain ⟨b, hb1, hb2, hb3, hb3w⟩ := block_mod 20 (by omega) B
  have hb4 : IntKind.i64.wrap (b : Int) = (b : Int) := by rw [IntKind.wrap_i64] <;> omega
  rw [show ((20 : Nat) : Int) = 20 from rfl] at hb3 hb3w
  have hnot : ∀ (x : Bool) (w : World), (Op.unary .not (.bool x)).run Tryd.prog w = .ok (.bool (!x)) w := fun _ _ => rfl
  have HWK := Lib.hid (wakes9_calls hF)
  have HF := Lib.hid hF
  have HF11 := Lib.hid (fails12_11 hF)
  have RD := Lib.hid rd
  have HSS := Lib.hid hss
  have HSX := Lib.hid hsx
  have hA := allOf (c := (fitW ss 0).2) (b := b) (ws := (fitW ss 0).1) (by omega) (by omega) ft1 (by omega) (by omega)
  have hll : (fitW ss 0).1.length ≤ 1048576 := by omega
  have HA := Lib.hid hA
  have HFT := Lib.hid (And.intro ft1 (And.intro ft3 hll))
  have HB := Lib.hid (And.intro hb1 hb2)
  clear hF rd hss hsx hA ft1 ft2 ft3 ft4 hll hb1 hb2 hbulk
  go_enter Tryd.func3, Tryd.ntmps3
  (repeat' (first | (go_big_may; fail) | go_values | go_skip | go_guarded | go_step | go_upon | go_back | dsimp only))
  refine HWK.out.mono ?_
  rintro e w1 ⟨rfl, hbw⟩
  have H1 := Lib.hid (At.nought hbw)
  clear hbw HWK
  (repeat' (first | (go_big_may; fail) | go_values | go_skip | go_guarded | go_step | go_upon | go_back | dsimp only))
  refine (fit9_at H1.out Stable.nought RD.out HSS.out HSX.out).mono ?_
  rintro e w2 ⟨vg, rfl, hnil, h2⟩
  obtain ⟨ga, gc, hvg, hgc, hgm⟩ := own_shape h2.rowG
  subst hvg
  have H2 := Lib.hid h2
  clear h2 H1 hb3w hb3 hb4 hnil
  generalize (fitW ss 0).1 = L at *
  generalize (fitW ss 0).2 = n at *
  (repeat' (first | (go_big_may; fail) | go_values | go_skip | go_guarded | go_step | go_upon | go_back | dsimp only))
  have hst2 := (RowG.stable tSx 1 (.slice ga L.length gc) L.length (strs L)).both Stable.nought
  refine (twin9_calls L (.slice ga L.length gc) w2 (RdRow.of_own H2.out.rowG) (by have := HFT.out.2.2; omega)).mono ?_
  rintro e w3 ⟨vt, rfl, hto, hbt⟩
  have H3 := Lib.hid (H2.out.newRowG hst2 hbt hto)
  have HST2 := Lib.hid hst2
  have HLN := Lib.hid HFT.out.2.2
  clear hto hbt hst2 H2
  (repeat' (first | (go_big_may; (at_builtin; go_must (refine wpList_append_to (m := 2) (c := 2) rfl _ _ 22 tSx rfl Tryd.underlying22 info_Sx rfl (by decide) rfl (H3.out) HST2.out rfl (by first | rfl | simp) rfl (two_str9 _ _) (by have := HLN.out; unfold maxLen; omega) (by have := HLN.out; omega) ?_); intro ao cp w4 h4 _; have H4 := Lib.hid h4; clear h4)) | go_values | go_skip | go_guarded | go_step | go_upon | go_back | dsimp only))
  obtain ⟨rg, hao⟩ : ∃ g, ao = some ⟨g, 0, none⟩ := by
    obtain ⟨g, _, he, _⟩ := own_cut H4.out.rowG (by omega)
    cases he
    exact ⟨g, rfl⟩
  subst hao
  have h4 : At W w4 (Both (RowG tSx 1 (.slice (some ⟨rg, 0, none⟩) (L.length + 2) cp) (L.length + 2) (strs (L ++ zz9))) (Both (RowG tSx 1 (.slice ga L.length gc) L.length (strs L)) Nought)) := by
    have := H4.out
    simpa [strs] using this
  have H5 := Lib.hid h4
  have hcp : L.length + 2 ≤ cp := own_le9 h4.rowG
  clear h4 H4 H3
  have HCP := Lib.hid hcp
  have hsr : Stable (Both (RowG tSx 1 (.slice (some ⟨rg, 0, none⟩) (L.length + 2) cp) (L.length + 2) (strs (L ++ zz9))) (Both (RowG tSx 1 (.slice ga L.length gc) L.length (strs L)) Nought)) := (RowG.stable _ _ _ _ _).both HST2.out
  have HSR := Lib.hid hsr
  refine (New_at H5.out hsr (c := n) (by have := HFT.out.2.1; unfold inI64; omega)).mono ?_
  rintro e w6 ⟨rfl, h6⟩
  have H6 := Lib.hid h6
  clear h6 hsr hcp H5
  generalize w4.heap.size + 1 = sb at *
  (repeat' (first | (go_big_may; fail) | go_values | go_skip | go_guarded | go_step | go_upon | go_back | dsimp only))
  refine (FNew_at (b := sb) (ef := ef) H6.out ((StoreT.stable _ _).both HSR.out) (n := b) (by have := HB.out; omega)).mono ?_
  rintro e w7 ⟨k, rfl, h7⟩
  have neqn : ∀ wz : World, (binOp .neq tErr .nilIface .nilIface).run Tryd.prog wz = .ok (.bool false) wz := fun wz => neq_nil wz
  have hAd := Add_at (ws := L) (v := .slice (some ⟨rg, 0, none⟩) L.length cp) h7 HSR.out HF11.out (GoodS.new n) (fun p hp => by cases hp) (newF_ok _ (by have := HB.out; omega)) ⟨_, _, rfl, by have := HFT.out.2.2; omega⟩ (fun x hx => by have := fits_mem.1 HFT.out.1 x hx; omega) (fun w' h' => (RdRow.of_own h'.rowG).front9)
  have hFi := fun (w' : World) (M : List (List UInt8)) (h' : At W w' (Both (FoT k sb ef (addP (newSt n) (newF b) L).2.1) (Both (StoreT sb (addP (newSt n) (newF b) L).1) (Both (RowG tSx 1 (.slice (some ⟨rg, 0, none⟩) (L.length + 2) cp) (L.length + 2) (strs M)) (Both (RowG tSx 1 (.slice ga L.length gc) L.length (strs L)) Nought))))) =>
    Finish_at h' ((RowG.stable _ _ _ _ _).both HST2.out) HF11.out HA.out.good HA.out.seal_ HA.out.fok
  have hok := HA.out.ok
  have hdn := HA.out.done
  obtain ⟨Ls, hr1, hr2, hr3, hr4⟩ := HA.out.runs
  have hgq := HA.out.fin
  generalize addP (newSt n) (newF b) L = P at *
  generalize finishP P.1 P.2.1 = Q at *
  rw [hok, errV_zero] at hAd
  simp only [hdn, errV_zero, hr2] at hFi
  have HAD := Lib.hid hAd
  have HFI := Lib.hid hFi
  have HR1 := Lib.hid hr1
  have HR3 := Lib.hid hr3
  have HR4 := Lib.hid hr4
  have HGQ := Lib.hid hgq
  have hb1 : (0 : Int) ≤ (L.length : Int) := by omega
  have hb2 : (L.length : Int) ≤ (cp : Int) := by have := HCP.out; omega
  clear h7 hAd hFi hok hdn hr1 hr2 hr3 hr4 hgq HA H6
  (repeat' (first | (go_big_may; fail) | go_values | go_skip | go_guarded | go_step | go_upon | go_back | dsimp only))
  refine HAD.out.mono ?_
  rintro e w8 ⟨rfl, h8⟩
  have h9 := (h8.perm (show _ = Both Nought (Both (RowG tSx 1 (.slice (some ⟨rg, 0, none⟩) (L.length + 2) cp) (L.length + 2) (strs (L ++ zz9))) (Both (RowG tSx 1 (.slice ga L.length gc) L.length (strs L)) (Both (FoT k sb ef P.2.1) (StoreT sb P.1)))) by ac_rfl)).drop
  have H9 := Lib.hid h9
  clear h8 h9 HAD
  (repeat' (first | (go_big_may; fail) | go_values | go_skip | go_guarded | go_step | go_upon | go_back | dsimp only))
  clear hb1 hb2
  have HS9 := Lib.hid (show Stable (Both (RowG tSx 1 (.slice (some ⟨rg, 0, none⟩) (L.length + 2) cp) (L.length + 2) (strs (L ++ zz9))) (Both (RowG tSx 1 (.slice ga L.length gc) L.length (strs L)) (Both (FoT k sb ef P.2.1) (StoreT sb P.1)))) from (RowG.stable _ _ _ _ _).both ((RowG.stable _ _ _ _ _).both ((FoT.stable _ _ _ _).both (StoreT.stable _ _))))
  go_loopw [58] (fun vi wr => ∃ (q : Nat), vi = .int .i64 q ∧ q ≤ L.length ∧ At W wr (Both (RowG tSx 1 (.slice (some ⟨rg, 0, none⟩) (L.length + 2) cp) (L.length + 2) (strs (L ++ zz9))) (Both (RowG tSx 1 (.slice ga L.length gc) L.length (strs L)) (Both (FoT k sb ef P.2.1) (StoreT sb P.1))))) (fun vi _ => L.length - (intOf vi).toNat)
  case atStart => exact ⟨0, rfl, Nat.zero_le _, H9.out⟩
  case round =>
    obtain ⟨q, rfl, hq, h10⟩ := hrel
    have hlll := HLN.out
    have H10 := Lib.hid h10
    clear H9
    by_cases hlt : q < L.length
    · obtain ⟨x, hx⟩ : ∃ x, L[q]? = some x := ⟨_, List.getElem?_eq_getElem hlt⟩
      obtain ⟨gg, gc', hgv, _, _, _⟩ := own_cut h10.drop.rowG (by omega)
      simp only [Value.slice.injEq] at hgv
      obtain ⟨hg1, _, hg2⟩ := hgv
      subst hg1
      subst hg2
      have hc1 := (h10.rowCell (j := q) (u := .string ⟨x.toArray⟩) (by rw [strs, List.getElem?_map, List.getElem?_append_left hlt, hx]; rfl)).1
      have hc2 := (h10.drop.rowCell (j := q) (u := .string ⟨x.toArray⟩) (by simp [strs, hx])).1
      have hi0 : (0 : Int) ≤ q := by omega
      have hi1 : (q : Int) < L.length := by omega
      have hi2 : (q : Int) < (L.length : Int) + 2 := by omega
      have hi3 : (q : Int) < ((L.length + 2 : Nat) : Int) := by omega
      have hwr : IntKind.i64.wrap ((q : Int) + 1) = ((q + 1 : Nat) : Int) := by rw [IntKind.wrap_i64] <;> omega
      have hxx : (x != x) = false := by simp
      clear h10 hx hlll
      (repeat' (first | (go_big_may; fail) | go_values | go_skip | go_guarded | go_step | go_upon | go_back | dsimp only))
      (refine region_still_tail 8 (by kernel_rfl) (by kernel_rfl) ?_; simp only [List.take_succ_cons, List.take_zero, List.drop_succ_cons, List.drop_zero]; (iterate 8 (first | ((with_reducible refine still_plain ?_ rfl ?_ ?_); rotate_left; (next => (go_simp; (try with_reducible rfl))); simp only [Act.put, List.setIfInBounds_toArray, List.set_cons_zero, List.set_cons_succ]) | ((with_reducible refine still_skip ?_ ?_); (next => (go_simp; done)); simp only [Act.put, List.setIfInBounds_toArray, List.set_cons_zero, List.set_cons_succ]) | ((with_reducible refine still_val ?_ ?_ ?_ ?_); rotate_left; (next => (go_simp; done)); (next => (go_simp; (try with_reducible rfl))); simp only [Act.put, List.setIfInBounds_toArray, List.set_cons_zero, List.set_cons_succ]))); (with_reducible refine wpStill_nil ?_))
      (repeat' (first | (go_big_may; fail) | go_values | go_skip | go_guarded | go_step | go_upon | go_back | dsimp only))
      go_roundw
      case rel => exact ⟨q + 1, rfl, hlt, H10.out.mono HS9.out (Below.refl _ _).drew⟩
      case measure => simp [intOf]; omega
    · have hi1 : ¬ (q : Int) < L.length := by omega
      have hc1 := (h10.rowCell (j := L.length) (u := .string ⟨#[122, 122]⟩) (by simp [strs])).1
      have hc2 := (h10.rowCell (j := L.length + 1) (u := .string ⟨#[122, 121]⟩) (by simp [strs])).1
      have hi2 : (L.length : Int) < (L.length : Int) + 2 := by omega
      have hi3 : (L.length : Int) < ((L.length + 2 : Nat) : Int) := by omega
      have hi4 : ((L.length : Int) + 1) < (L.length : Int) + 2 := by omega
      have hi5 : ((L.length : Int) + 1) < ((L.length + 2 : Nat) : Int) := by omega
      have hwr : IntKind.i64.wrap ((L.length : Int) + 1) = ((L.length + 1 : Nat) : Int) := by rw [IntKind.wrap_i64] <;> omega
      clear h10 hlll
      (repeat' (first | (go_big_may; fail) | go_values | go_skip | go_guarded | go_step | go_upon | go_back | dsimp only))
      clear hc1 hc2 hi2 hi3 hi4 hi5 hwr hi1
      go_loopw [88] (fun vi wr => ∃ (q : Nat) (M : List (List UInt8)), vi = .int .i64 q ∧ q ≤ L.length + 2 ∧ M.length = L.length + 2 ∧ At W wr (Both (RowG tSx 1 (.slice (some ⟨rg, 0, none⟩) (L.length + 2) cp) (L.length + 2) (strs M)) (Both (RowG tSx 1 (.slice ga L.length gc) L.length (strs L)) (Both (FoT k sb ef P.2.1) (StoreT sb P.1))))) (fun vi _ => L.length + 2 - (intOf vi).toNat)
      case atStart => exact ⟨0, _, rfl, Nat.zero_le _, by simp, H10.out⟩
      case round =>
        obtain ⟨q2, M, rfl, hq2, hM, h11⟩ := hrel
        clear H10
        have hlll := HLN.out
        by_cases hlt2 : q2 < L.length + 2
        · obtain ⟨x, hx⟩ : ∃ x, M[q2]? = some x := ⟨_, List.getElem?_eq_getElem (by omega)⟩
          have c7 := h11.rowCell (j := q2) (u := .string ⟨x.toArray⟩) (by simp [strs, hx])
          have g7 := c7.1
          have f7 := c7.2.1
          have hj0 : (0 : Int) ≤ q2 := by omega
          have hj1 : (q2 : Int) < ((L.length + 2 : Nat) : Int) := by omega
          have hj2 : (q2 : Int) < (L.length : Int) + 2 := by omega
          have hwr : IntKind.i64.wrap ((q2 : Int) + 1) = ((q2 + 1 : Nat) : Int) := by rw [IntKind.wrap_i64] <;> omega
          have h12 := h11.storeG ((RowG.stable _ _ _ _ _).both ((FoT.stable _ _ _ _).both (StoreT.stable _ _))) q2 (.string ⟨[109, 97, 114, 107].toArray⟩)
          rw [strs_set9] at h12
          have H12 := Lib.hid h12
          have HM := Lib.hid hM
          clear h11 h12 c7 hx hM hlll
          (repeat' (first | (go_big_may; fail) | go_values | go_skip | go_guarded | go_step | go_upon | go_back | dsimp only))
          go_roundw
          case rel => exact ⟨q2 + 1, _, rfl, by omega, by simp [HM.out], H12.out⟩
          case measure => simp [intOf]; omega
        · have hi1 : ¬ (q2 : Int) < ((L.length + 2 : Nat) : Int) := by omega
          have hi2 : ¬ (q2 : Int) < (L.length : Int) + 2 := by omega
          have hsN : At W wr (Both (FoT k sb ef P.2.1) (Both (StoreT sb P.1) (Both (RowG tSx 1 (.slice (some ⟨rg, 0, none⟩) (L.length + 2) cp) (L.length + 2) (strs M)) (Both (RowG tSx 1 (.slice ga L.length gc) L.length (strs L)) Nought)))) := by
            exact At.nought9 h11
          have HFN := Lib.hid (HFI.out wr M hsN)
          clear h11 hsN hM hlll HFI
          (repeat' (first | (go_big_may; fail) | go_values | go_skip | go_guarded | go_step | go_upon | go_back | dsimp only))
          refine HFN.out.mono ?_
          rintro e w13 ⟨v7, rfl, h13⟩
          have hml : (mz (List.range' 1 Ls.length)).length = Ls.length := by simp [mz]
          obtain ⟨la, lc, hv7, _, _⟩ := own_shape h13.row
          subst hv7
          rw [hml] at h13
          rw [hml]
          have H7 := Lib.hid (h13.perm (show _ = Both (StoreT sb Q.1) (Both (RowT (.slice la Ls.length lc) (mz (List.range' 1 Ls.length))) (Both (FoT k sb ef Q.2.1) (Both (RowG tSx 1 (.slice (some ⟨rg, 0, none⟩) (L.length + 2) cp) (L.length + 2) (strs M)) (Both (RowG tSx 1 (.slice ga L.length gc) L.length (strs L)) Nought)))) by ac_rfl))
          have HML := Lib.hid hml
          have hll : L.length ≤ 1048576 := HFT.out.2.2
          obtain ⟨hb1, hb2⟩ := HB.out
          obtain ⟨s1, hs1⟩ : ∃ s1, s1 = L.length + b := ⟨_, rfl⟩
          obtain ⟨s2, hs2⟩ : ∃ s2, s2 = s1 - 1 := ⟨_, rfl⟩
          have hr3 : Ls.length = s2 / b := by rw [HR3.out, hs2, hs1]
          have hlsl : Ls.length ≤ 1048626 := by rw [hr3]; exact Nat.le_trans (Nat.div_le_self _ _) (by omega)
          have hw1 : IntKind.i64.wrap ((L.length : Int) + (b : Int)) = (s1 : Int) := by rw [IntKind.wrap_i64] <;> omega
          have hw2 : IntKind.i64.wrap ((s1 : Int) - 1) = (s2 : Int) := by rw [IntKind.wrap_i64] <;> omega
          have hd1 : (s2 : Int) / (b : Int) = (Ls.length : Int) := by rw [hr3]; exact (Int.natCast_ediv _ _).symm
          have hd2 : (s2 : Int).tdiv (b : Int) = (Ls.length : Int) := by rw [Int.tdiv_eq_ediv_of_nonneg (by omega)]; exact hd1
          have hw3 : IntKind.i64.wrap (Ls.length : Int) = (Ls.length : Int) := by rw [IntKind.wrap_i64] <;> omega
          have hbz : ¬ (b : Int) = 0 := by omega
          have hne : ((Ls.length : Int) != (Ls.length : Int)) = false := by simp
          have HS := Lib.hid (And.intro hs1 (And.intro hs2 (And.intro hr3 (And.intro hll (And.intro hb1 hb2)))))
          have HLS := Lib.hid hlsl
          clear h13 HFN hml hs1 hs2 hr3 hll hb1 hb2 hlsl hi1 hi2
          (repeat' (first | (go_big_may; fail) | go_values | go_skip | go_guarded | go_step | go_upon | go_back | dsimp only))
          clear hw1 hw2 hd1 hd2 hw3 hne
          have HSTQ := Lib.hid (show Stable (Both (RowT (.slice la Ls.length lc) (mz (List.range' 1 Ls.length))) (Both (FoT k sb ef Q.2.1) (Both (RowG tSx 1 (.slice (some ⟨rg, 0, none⟩) (L.length + 2) cp) (L.length + 2) (strs M)) (Both (RowG tSx 1 (.slice ga L.length gc) L.length (strs L)) Nought)))) from (RowT.stable _ _).both ((FoT.stable _ _ _ _).both ((RowG.stable _ _ _ _ _).both HST2.out)))
          go_loopw [114] (fun vi wr => ∃ (k' : Nat), vi = .int .i64 k' ∧ k' ≤ Ls.length ∧ At W wr (Both (StoreT sb Q.1) (Both (RowT (.slice la Ls.length lc) (mz (List.range' 1 Ls.length))) (Both (FoT k sb ef Q.2.1) (Both (RowG tSx 1 (.slice (some ⟨rg, 0, none⟩) (L.length + 2) cp) (L.length + 2) (strs M)) (Both (RowG tSx 1 (.slice ga L.length gc) L.length (strs L)) Nought)))))) (fun vi _ => Ls.length - (intOf vi).toNat)
          case atStart => exact ⟨0, rfl, Nat.zero_le _, H7.out⟩
          case round =>
            obtain ⟨q, rfl, hq, h8⟩ := hrel
            clear H7
            by_cases hlt : q < Ls.length
            · obtain ⟨Lk, hLk⟩ : ∃ Lk, Ls[q]? = some Lk := ⟨_, List.getElem?_eq_getElem hlt⟩
              obtain ⟨hpc, hqb⟩ := HR4.out q Lk hLk
              obtain ⟨ga', gc', hgv, _, hgc1, hgc2⟩ := own_cut h8.drop.drop.drop.drop.rowG (by omega)
              simp only [Value.slice.injEq] at hgv
              obtain ⟨hg1, _, hg2⟩ := hgv
              subst hg1
              subst hg2
              obtain ⟨t1, t2⟩ := take_min (l := L) (k := q) (b := b) hqb
              rw [hpc] at t1 t2
              have hll := HS.out.2.2.2.1
              have hbb := HS.out.2.2.2.2
              have hqs := HLS.out
              have hmul : q * b ≤ 1048576 := by omega
              have hmul2 : (q + 1) * b ≤ 1048676 := by rw [Nat.succ_mul]; omega
              have hcast : ((q * b : Nat) : Int) = (q : Int) * (b : Int) := by simp
              have hcast2 : (((q + 1) * b : Nat) : Int) = ((q + 1 : Nat) : Int) * (b : Int) := by simp
              have hrd := RdRow.piece9 h8.drop.drop.drop.drop.rowG (i := q * b) (j := min ((q + 1) * b) L.length) (by rw [Nat.succ_mul]; omega) (Nat.min_le_right _ _) (gc - q * b) (by omega) (by omega)
              rw [strs_piece9, t1] at hrd
              have hlo : q * b ≤ min ((q + 1) * b) L.length := by rw [Nat.succ_mul]; omega
              have hhi : min ((q + 1) * b) L.length ≤ gc := by omega
              have hmin : min (((q + 1) * b : Nat) : Int) (L.length : Int) = ((min ((q + 1) * b) L.length : Nat) : Int) := by omega
              rw [← t2] at hrd
              obtain ⟨lo, hlo0⟩ : ∃ lo, lo = q * b := ⟨_, rfl⟩
              obtain ⟨h0, hh0⟩ : ∃ h0, h0 = (q + 1) * b := ⟨_, rfl⟩
              obtain ⟨hi, hhi0⟩ : ∃ hi, hi = min h0 L.length := ⟨_, rfl⟩
              obtain ⟨q1, hq1⟩ : ∃ q1, q1 = q + 1 := ⟨_, rfl⟩
              rw [← hlo0] at hmul hcast hrd hlo hqb t2
              rw [← hh0] at hmul2 hcast2 hlo hhi hmin t2
              rw [← hhi0] at hlo hhi hmin t2
              rw [← hq1] at hcast2
              have hwa : IntKind.i64.wrap ((q : Int) * (b : Int)) = (lo : Int) := by rw [← hcast, IntKind.wrap_i64] <;> omega
              have hwb : IntKind.i64.wrap ((q : Int) + 1) = (q1 : Int) := by rw [IntKind.wrap_i64] <;> omega
              have hwc : IntKind.i64.wrap ((q1 : Int) * (b : Int)) = (h0 : Int) := by rw [← hcast2, IntKind.wrap_i64] <;> omega
              have hi0 : (0 : Int) ≤ q := by omega
              have hi1 : (q : Int) < Ls.length := by omega
              have hb0 : (0 : Int) ≤ lo := by omega
              have hb1 : (lo : Int) ≤ hi := by omega
              have hb2 : (hi : Int) ≤ gc := by omega
              have hrl := RdRow.of_own h8.drop.row
              obtain ⟨gl, off, cl, hsl, hcell⟩ := hrl.intA (k := q) (z := ((1 + q : Nat) : Int)) (by simp [mz, hlt])
              obtain ⟨zr, hzr⟩ : ∃ zr, zr = 1 + q := ⟨_, rfl⟩
              rw [← hzr] at hcell
              have hml := HML.out
              rw [hml] at hsl
              simp only [Value.slice.injEq] at hsl
              obtain ⟨hl1, _, hl2⟩ := hsl
              subst hl1
              subst hl2
              have hgl : ¬ gc = lo := by omega
              have hmem : (zr, (⟨frameL (ofL Lk), true⟩ : RunD)) ∈ Q.1.runs := by
                rw [HR1.out]
                refine List.mem_of_getElem? (i := q) ?_
                rw [runsL_get, hLk, hzr]
                rfl
              have hfl : fits Lk = true := by
                rw [← hpc]
                exact fits_mem.2 fun r hr => fits_mem.1 HFT.out.1 r (List.mem_of_mem_drop (List.mem_of_mem_take hr))
              have hfo := fits_ofL hfl
              have hlk : Lk.length ≤ 50 := by rw [← hpc]; exact Nat.le_trans (List.length_take_le _ _) (by omega)
              have hfsz : (frameL (ofL Lk)).length ≤ 100000 := by
                have h1 := frame_wsum hfo
                have h2 := wsum_fit hfo
                have h3 := ofL_len Lk
                omega
              have hof := Of_at Lk.length wr Lk (.slice (some ⟨ga', lo, none⟩) Lk.length (gc - lo)) (Nat.le_refl _) (by omega) hrd
              rw [t2] at hof
              have hfr := fun (w' : World) (u : Value) (hu : RdRow w' u (ofL Lk).length 1 (strs (ofL Lk))) => refFrame_calls (ofL Lk) u w' hu (by omega)
              have hfe : frameR (ofL Lk) = (frameL (ofL Lk), 0) := by unfold frameR; rw [hfo]; rfl
              simp only [hfe] at hfr
              have htx := fun (w' : World) (h' : At W w' (Both (StoreT sb Q.1) (Both (RowT (.slice (some ⟨gl, off, none⟩) Ls.length lc) (mz (List.range' 1 Ls.length))) (Both (FoT k sb ef Q.2.1) (Both (RowG tSx 1 (.slice (some ⟨rg, 0, none⟩) (L.length + 2) cp) (L.length + 2) (strs M)) (Both (RowG tSx 1 (.slice (some ⟨ga', 0, none⟩) L.length gc) L.length (strs L)) Nought)))))) => text_at h' HSTQ.out HF.out HGQ.out (z := (zr : Int)) (by unfold inI64; omega)
              have htp := textP_of HGQ.out hmem rfl
              dsimp only at htp
              simp only [htp] at htx
              have HTX := Lib.hid htx
              have HOF := Lib.hid hof
              have HFR := Lib.hid hfr
              have HQ1 := Lib.hid hq1
              have H8 := Lib.hid h8
              clear htp hfe hof hfr htx hmem hfl hfo hlk hfsz hrd t1 t2 hpc hcast hcast2 hlo0 hh0 hhi0 hq1 hzr hml hLk hqb hmul hmul2 hlo hhi hbb hll hqs hrl h8
              (repeat' (first | (go_big_may; fail) | go_values | go_skip | go_guarded | go_step | go_upon | go_back | dsimp only))
              refine HOF.out.mono ?_
              rintro e w14 ⟨vo, rfl, h14⟩
              have hst8 : Stable (Both (StoreT sb Q.1) (Both (RowT (.slice (some ⟨gl, off, none⟩) Ls.length lc) (mz (List.range' 1 Ls.length))) (Both (FoT k sb ef Q.2.1) (Both (RowG tSx 1 (.slice (some ⟨rg, 0, none⟩) (L.length + 2) cp) (L.length + 2) (strs M)) (Both (RowG tSx 1 (.slice (some ⟨ga', 0, none⟩) L.length gc) L.length (strs L)) Nought))))) := (StoreT.stable _ _).both HSTQ.out
              have h15 := H8.out.glue hst8 h14
              have HFR2 := Lib.hid (HFR.out w14 vo (RdRow.of_own h15.rowG))
              have H15 := Lib.hid h15.drop
              have HST8 := Lib.hid hst8
              clear h14 h15 hst8 HOF H8 HFR
              (repeat' (first | (go_big_may; fail) | go_values | go_skip | go_guarded | go_step | go_upon | go_back | dsimp only))
              refine HFR2.out.mono ?_
              rintro e w15 ⟨rfl, hb15⟩
              have H16 := Lib.hid (H15.out.mono HST8.out hb15)
              clear hb15 HFR2 H15
              have htt : (frameL (ofL Lk) != frameL (ofL Lk)) = false := by simp
              (repeat' (first | (go_big_may; fail) | go_values | go_skip | go_guarded | go_step | go_upon | go_back | dsimp only))
              refine (HTX.out w15 H16.out).mono ?_
              rintro e w16 ⟨rfl, h17⟩
              have H17 := Lib.hid h17
              clear h17 HTX H16
              (repeat' (first | (go_big_may; fail) | go_values | go_skip | go_guarded | go_step | go_upon | go_back | dsimp only))
              go_roundw
              case rel => exact ⟨q1, rfl, by have := HQ1.out; omega, H17.out⟩
              case measure => have := HQ1.out; simp [intOf]; omega
            · have hi1 : ¬ (q : Int) < Ls.length := by omega
              have HBE := Lib.hid h8.below
              clear h8
              (repeat' (first | (go_big_may; fail) | go_values | go_skip | go_guarded | go_step | go_upon | go_back | dsimp only))
              go_ret
              exact ⟨rfl, HBE.out⟩
end Go.Proofs.YthcicmbkkkhifaaDoor
