/- hornbookref19.Minimize walked: the least automaton of the tree. -/
import Derived.Test.YthjkfiniafblbaaNumW
import Derived.Test.YthjkfiniafblbaaWkShape
import Derived.Test.YthjkfiniafblbaaDawgBuild
namespace Go.Proofs.Ythjkfiniafblbaa
open Go.RowKit

/-- Things made behind others. -/
theorem At.joint {W w w' : World} {Φ Ψ : Thing} (h : At W w Φ) (hs : Stable Φ) (k : At w w' Ψ) : At W w' (Both Ψ Φ) := by
  obtain ⟨hb, fp, h1, h2⟩ := k
  exact h.add hs hb h1 h2
theorem shaped_edges {A : List Sta} (h : Shaped A) : ∀ x ∈ A, ∀ e ∈ x.edges, 0 ≤ e.2 ∧ e.2.toNat < A.length := by
  intro x hx e he
  obtain ⟨i, hi, rfl⟩ := List.getElem_of_mem hx
  obtain ⟨t, ⟨y, hy, hu⟩, _⟩ := h.tr i hi
  rw [List.getElem?_eq_getElem hi] at hy
  cases hy
  obtain ⟨c, h0, hc, _⟩ := hu.mem e he
  exact ⟨h0, hc.lt⟩
theorem MzK.small {A : List Sta} {K : List Nat} {c : Nat} (h : MzK A K c) (hl : K.length = A.length) (hc : c ≤ A.length) (hA : A.length ≤ 1048576) : ∀ i, K.getD i 0 < 1048577 := by
  intro i
  by_cases hi : i < A.length
  · have := h.bnd i hi; omega
  · rw [List.getD_eq_getElem?_getD, List.getElem?_eq_none (by omega)]
    decide
theorem rep_intsQ (j : Nat) : intsQ (List.replicate (j + 1) (-1)) = intsQ (List.replicate j (-1)) ++ [.int .i64 (-1)] := by simp [intsQ, List.replicate_succ']
theorem rep_nats (j : Nat) : nats (List.replicate (j + 1) 0) = nats (List.replicate j 0) ++ [.int .i64 0] := by simp [nats, List.replicate_succ']
set_option maxRecDepth 100000 in
set_option maxHeartbeats 6400000 in
theorem RMin_calls {w : World} {A : List Sta} {va : Value} (hA : RdAut w va A) (hl : A.length + edgesN A ≤ 1048576) (hs : shapeB A = true) {t : Trie} (ht : Unf A 0 t) :
    Calls Try.prog 31 #[va] w fun e w' => ∃ ov, e = .returned ov ∧ At w w' (Both (AutG tRS tRE ov (minT t)) Nought) := by
  have hsh := shaped_of hs
  have hpos := hsh.pos
  obtain ⟨a0, c0, hv, _, hc0⟩ := hA.shape
  have hn : A.length ≤ 1048576 := by omega
  have HA := Lib.hid hA
  have HSH := Lib.hid hsh
  have HT := Lib.hid ht
  have H0 := Lib.hid (At.nought (Below.refl w.heap.size w))
  subst hv
  clear hA hs hsh ht
  go_enter Try.func31, Try.ntmps31
  (repeat' (first | (go_big_may; ((at_make; go_must (refine wpList_make_at rfl _ _ 23 rfl tInt Try.underlying23 info_Int rfl rfl rfl rfl rfl (by omega) (by unfold maxLen; omega) H0.out Stable.nought ?_)); intro w2 h2 _; have H2 := Lib.hid h2; clear h2)) | go_values | go_skip | go_guarded | go_step | go_upon | go_back | dsimp only))
  have h3 := H2.out
  rw [show List.replicate A.length (Value.int .i64 0) = nats (List.replicate A.length 0) from by simp [nats]] at h3
  have H3 := Lib.hid h3
  clear h3 H2
  go_loopw [3, 4] (fun vk vc wr => ∃ (gK : Nat) (K : List Nat) (c : Nat), vk = .slice (some ⟨gK, 0, none⟩) A.length A.length ∧ vc = .int .i64 c ∧ MzK A K c ∧ K.length = A.length ∧ c ≤ A.length ∧ At w wr (Both (RowG tInt 1 (.slice (some ⟨gK, 0, none⟩) A.length A.length) A.length (nats K)) Nought)) (fun _ vc _ => A.length - (intOf vc).toNat)
  case atStart => exact ⟨_, _, 1, rfl, rfl, MzK.start (by omega), by simp, by omega, H3.out⟩
  case round =>
    obtain ⟨gK, K, c, rfl, rfl, hmz, hKl, hcA, h1⟩ := hrel
    have hrd := RdRow.of_own h1.rowG
    have hrd2 : RdRow wr (.slice (some ⟨gK, 0, none⟩) A.length A.length) K.length 1 (K.map fun c => Value.int .i64 (c : Nat)) := by rw [hKl]; exact hrd
    have HRF := Lib.hid (refine_calls (K := K) (HA.out.below h1.below) hrd2 hl (by rw [hKl]; exact shaped_edges HSH.out) (hmz.small hKl hcA hn))
    have HMZ := Lib.hid hmz
    have H1 := Lib.hid h1
    clear hmz h1 hrd hrd2
    (repeat' (first | (go_big_may; fail) | go_values | go_skip | go_guarded | go_step | go_upon | go_back | dsimp only))
    refine HRF.out.mono ?_
    rintro e4 w4 ⟨gN, S, N, rfl, hrk, h4⟩
    obtain ⟨hm2, hcS, hSA, hst⟩ := HMZ.out.step (fun x hx e he => (shaped_edges HSH.out x hx e he).2) hn hrk
    have h5 := (H1.out.joint ((RowG.stable _ _ _ _ _).both Stable.nought) h4.keep).swapDrop
    have H5 := Lib.hid h5
    have HM2 := Lib.hid hm2
    have HRK := Lib.hid hrk
    have HSTB := Lib.hid hst
    clear h4 h5 HRF hm2 hrk hst H1
    by_cases hSc : S.length = c
    · have hst := HSTB.out hSc
      have HST := Lib.hid hst
      have hScI : ((S.length : Int) == (c : Int)) = true := by simp [hSc]
      have hNl : N.length = A.length := HRK.out.len
      have HM3 := Lib.hid (show MzK A N c from hSc ▸ HM2.out)
      have hs5 := (RowG.stable tInt 1 (.slice (some ⟨gN, 0, none⟩) A.length A.length) A.length (nats N)).both Stable.nought
      have HS5 := Lib.hid hs5
      have hSA2 := hSA
      have hS1 : 0 < S.length := by have := HM3.out.bnd 0 (by omega); omega
      clear hst HSTB HM2 hs5 hSA hcS HMZ
      subst hSc
      (repeat' (first | (go_big_may; fail) | go_values | go_skip | go_guarded | go_step | go_upon | go_back | dsimp only))
      have h6 := ((H5.out.noRowG HS5.out tInt 1).noRowG ((RowG.stable _ _ _ _ _).both HS5.out) tInt 1).newCell ((RowG.stable _ _ _ _ _).both ((RowG.stable _ _ _ _ _).both HS5.out)) #[.slice a0 A.length c0, .slice (some ⟨gN, 0, none⟩) A.length A.length, .slice none 0 0, .slice none 0 0, .slice none 0 0] tQo
      have H6 := Lib.hid h6
      clear h6
      go_loopw [8] (fun vi wr => ∃ (j : Nat) (vf vq : Value), vi = .int .i64 j ∧ j ≤ S.length ∧ At w wr (Both (CellT w4.heap.size #[.slice a0 A.length c0, .slice (some ⟨gN, 0, none⟩) A.length A.length, vf, vq, .slice none 0 0] tQo) (Both (RowG tInt 1 vq j (intsQ (List.replicate j (-1)))) (Both (RowG tInt 1 vf j (nats (List.replicate j 0))) (Both (RowG tInt 1 (.slice (some ⟨gN, 0, none⟩) A.length A.length) A.length (nats N)) Nought))))) (fun vi _ => S.length - (intOf vi).toNat)
      case atStart => exact ⟨0, _, _, rfl, Nat.zero_le _, H6.out⟩
      case round =>
        obtain ⟨j, vf, vq, rfl, hj, h7⟩ := hrel
        by_cases hlj : j < S.length
        · have hjI : (j : Int) < (S.length : Int) := by omega
          obtain ⟨c3, c3f, c3l⟩ := h7.cellF (o := 3) (u := vq) rfl
          have H7 := Lib.hid h7.swap
          have HS7 := Lib.hid ((CellT.stable w4.heap.size #[.slice a0 A.length c0, .slice (some ⟨gN, 0, none⟩) A.length A.length, vf, vq, .slice none 0 0] tQo).both ((RowG.stable tInt 1 vf j (nats (List.replicate j 0))).both HS5.out))
          have HF7 := Lib.hid ((RowG.stable tInt 1 vf j (nats (List.replicate j 0))).both HS5.out)
          clear h7
          (repeat' (first | (go_big_may; ((at_builtin; go_must (refine wpList_append_to rfl _ _ 23 tInt rfl Try.underlying23 info_Int rfl (by decide) rfl (H7.out) (HS7.out) rfl (by first | rfl | simp) rfl (one_int _ _) (by unfold maxLen; omega) (by omega) ?_); intro a8 c8 w8 h8 _); obtain ⟨q3, q3f, q3l⟩ := h8.drop.cellF (o := 3) rfl; have h9 := h8.swap.setCell ((RowG.stable _ _ _ _ _).both HF7.out) 3 (.slice a8 (j + 1) c8); clear h8; obtain ⟨q2, q2f, q2l⟩ := h9.cellF (o := 2) (u := vf) rfl; have H9 := Lib.hid h9.pull3; have HS9 := Lib.hid ((CellT.stable w4.heap.size #[.slice a0 A.length c0, .slice (some ⟨gN, 0, none⟩) A.length A.length, vf, .slice a8 (j + 1) c8, .slice none 0 0] tQo).both ((RowG.stable tInt 1 (.slice a8 (j + 1) c8) (j + 1) (intsQ (List.replicate j (-1)) ++ [.int .i64 (-1)])).both HS5.out)); clear h9; (repeat' (first | (go_big_may; ((at_builtin; go_must (refine wpList_append_to rfl _ _ 23 tInt rfl Try.underlying23 info_Int rfl (by decide) rfl (H9.out) (HS9.out) rfl (by first | rfl | simp) rfl (one_int _ _) (by unfold maxLen; omega) (by omega) ?_); intro a10 c10 w10 h10 _); obtain ⟨p2, p2f, p2l⟩ := h10.drop.cellF (o := 2) rfl; have H10 := Lib.hid (h10.swap.setCell ((RowG.stable _ _ _ _ _).both ((RowG.stable _ _ _ _ _).both HS5.out)) 2 (.slice a10 (j + 1) c10)).pull3; clear h10)) | go_values | go_skip | go_guarded | go_step | go_upon | go_back | dsimp only)))) | go_values | go_skip | go_guarded | go_step | go_upon | go_back | dsimp only))
          go_roundw
          case rel =>
            refine ⟨j + 1, .slice a10 (j + 1) c10, .slice a8 (j + 1) c8, by simp, by omega, ?_⟩
            have h11 := H10.out.swap
            rw [rep_intsQ, rep_nats]
            exact h11
          case measure => simp [intOf] <;> omega
        · obtain rfl : j = S.length := by omega
          have hjI : ¬ (S.length : Int) < (S.length : Int) := by omega
          obtain ⟨gq, cq, hvq, _, _, _⟩ := own_cut h7.drop.rowG (by omega)
          obtain ⟨gf, cf, hvf, _, _, _⟩ := own_cut h7.drop.drop.rowG (by omega)
          subst hvq hvf
          have H7 := Lib.hid h7
          clear h7
          have hw1 : IntKind.i64.wrap ((A.length : Int) - 1) = ((A.length - 1 : Nat) : Int) := by rw [IntKind.wrap_i64]; omega
          (repeat' (first | (go_big_may; fail) | go_values | go_skip | go_guarded | go_step | go_upon | go_back | dsimp only))
          go_loopw [9] (fun vi wr => ∃ (i : Nat) (F : List Nat), vi = .int .i64 ((i : Int) - 1) ∧ i ≤ A.length ∧ FrS A N S.length i F ∧ At w wr (Both (CellT w4.heap.size #[.slice a0 A.length c0, .slice (some ⟨gN, 0, none⟩) A.length A.length, .slice (some ⟨gf, 0, none⟩) S.length cf, .slice (some ⟨gq, 0, none⟩) S.length cq, .slice none 0 0] tQo) (Both (RowG tInt 1 (.slice (some ⟨gq, 0, none⟩) S.length cq) S.length (intsQ (List.replicate S.length (-1)))) (Both (RowG tInt 1 (.slice (some ⟨gf, 0, none⟩) S.length cf) S.length (nats F)) (Both (RowG tInt 1 (.slice (some ⟨gN, 0, none⟩) A.length A.length) A.length (nats N)) Nought))))) (fun vi _ => (intOf vi + 1).toNat)
          case atStart => exact ⟨A.length, _, by congr 1; omega, Nat.le_refl _, FrS.start A N S.length, H7.out⟩
          case round =>
            obtain ⟨i, F, rfl, hi, hfr, h8⟩ := hrel
            cases i with
            | succ i =>
              have hge : (0 : Int) ≤ (((i + 1 : Nat) : Int) - 1) := by omega
              have he1 : (((i + 1 : Nat) : Int) - 1) = (i : Int) := by omega
              rw [he1] at hge ⊢
              have hNi : N[i]? = some (N.getD i 0) := by rw [List.getD_eq_getElem?_getD, List.getElem?_eq_getElem (by omega)]; rfl
              have hbn := HM3.out.bnd i (by omega)
              obtain ⟨vF, hvF⟩ : ∃ z, F[N.getD i 0]? = some z := ⟨_, List.getElem?_eq_getElem (by rw [hfr.len]; exact hbn)⟩
              obtain ⟨b2, _, _⟩ := h8.cellF (o := 2) rfl
              obtain ⟨n1, _, _⟩ := h8.drop.drop.drop.rowCell (nats_get hNi)
              obtain ⟨f1, f1f, f1l⟩ := h8.drop.drop.rowCell (nats_get hvF)
              have h9 := h8.pull3.storeG ((CellT.stable _ _ _).both ((RowG.stable _ _ _ _ _).both HS5.out)) (N.getD i 0) (.int .i64 (i : Nat))
              rw [nats_set] at h9
              have H9 := Lib.hid h9.push3
              have HFR := Lib.hid (hfr.step HM3.out.bnd (by omega))
              have hiI : (i : Int) < (A.length : Int) := by omega
              have hbnI : ((N.getD i 0 : Nat) : Int) < (S.length : Int) := by omega
              have hw2 : IntKind.i64.wrap ((i : Int) - 1) = (i : Int) - 1 := by rw [IntKind.wrap_i64]; omega
              have HS9 := Lib.hid (fun F => (CellT.stable w4.heap.size #[.slice a0 A.length c0, .slice (some ⟨gN, 0, none⟩) A.length A.length, .slice (some ⟨gf, 0, none⟩) S.length cf, .slice (some ⟨gq, 0, none⟩) S.length cq, .slice none 0 0] tQo).both ((RowG.stable tInt 1 (.slice (some ⟨gq, 0, none⟩) S.length cq) S.length (intsQ (List.replicate S.length (-1)))).both ((RowG.stable tInt 1 (.slice (some ⟨gf, 0, none⟩) S.length cf) S.length (nats F)).both HS5.out)))
              generalize N.getD i 0 = ni at *
              clear h8 h9 hfr hvF hNi
              (repeat' (first | (go_big_may; fail) | go_values | go_skip | go_guarded | go_step | go_upon | go_back | dsimp only))
              (refine region_still_tail 10 (by kernel_rfl) (by kernel_rfl) ?_; simp only [List.take_succ_cons, List.take_zero, List.drop_succ_cons, List.drop_zero]; (iterate 10 (first | ((with_reducible refine still_plain ?_ rfl ?_ ?_); rotate_left; (next => (go_simp; (try with_reducible rfl))); simp only [Act.put, List.setIfInBounds_toArray, List.set_cons_zero, List.set_cons_succ]) | ((with_reducible refine still_skip ?_ ?_); (next => (go_simp; done)); simp only [Act.put, List.setIfInBounds_toArray, List.set_cons_zero, List.set_cons_succ]) | ((with_reducible refine still_val ?_ ?_ ?_ ?_); rotate_left; (next => (go_simp; done)); (next => (go_simp; (try with_reducible rfl))); simp only [Act.put, List.setIfInBounds_toArray, List.set_cons_zero, List.set_cons_succ]))); (with_reducible refine wpStill_nil ?_))
              (repeat' (first | (go_big_may; fail) | go_values | go_skip | go_guarded | go_step | go_upon | go_back | dsimp only))
              go_roundw
              case rel => exact ⟨i, _, rfl, by omega, HFR.out, H9.out.drew (HS9.out _)⟩
              case measure => simp [intOf] <;> omega
            | zero =>
              have hge : ¬ (0 : Int) ≤ (((0 : Nat) : Int) - 1) := by omega
              obtain ⟨cl, hcl⟩ := ClK.of HRK.out.len HM3.out HST.out hfr.len (fun j hj => hfr.fst j (Nat.zero_le _) hj) (fun i hi => ⟨_, (HSH.out.tr i hi).choose_spec.1⟩)
              have hK0 := hcl.cls 0 t HT.out
              have hin : ∀ s, InA A s → cl s < S.length := hcl.lt
              have h9 := (h8.impl fun _ q => Both.mono (fun _ _ q => Both.mono (fun _ _ q => q.assoc) q) q).noAut ((CellT.stable _ _ _).both ((RowG.stable _ _ _ _ _).both ((RowG.stable _ _ _ _ _).both ((RowG.stable _ _ _ _ _).both Stable.nought)))) tRS tRE
              have h10 : At w wr (QuoT w4.heap.size A.length S.length (.slice a0 A.length c0) gN A.length gf cf gq cq N F (.slice none 0 0) [] (List.replicate S.length (-1)) Nought) := h9.pull3
              obtain ⟨n0, _, _⟩ := h8.drop.drop.drop.rowCell (nats_get hK0)
              have hcall := num_at (W := w) HA.out hl hcl hSA2 w4.heap.size gN A.length gf cf gq cq (htT t + 1) wr t [] [] (.slice none 0 0) _ Nought h10 Stable.nought (by simp) List.nodup_nil ⟨0, HT.out⟩ (NQ.start A hin) (by omega) rfl
              rw [numS_new (by simp)] at hcall
              have HCALL := Lib.hid hcall
              have hAI : (0 : Int) < (A.length : Int) := by omega
              clear h8 h9 h10 hcall hK0 hin hcl hfr
              (repeat' (first | (go_big_may; fail) | go_values | go_skip | go_guarded | go_step | go_upon | go_back | dsimp only))
              refine HCALL.out.mono ?_
              rintro e11 w11 ⟨ov, Q', ys, rfl, hys, _, h11⟩
              obtain ⟨x4, _, _⟩ := h11.cellF (o := 4) (u := ov) rfl
              have h12 := At.autG h11.drop
              rw [List.nil_append, hys] at h12
              have H12 := Lib.hid h12.swapDrop.swapDrop.swapDrop
              clear h11 h12 hys HCALL
              (repeat' (first | (go_big_may; fail) | go_values | go_skip | go_guarded | go_step | go_upon | go_back | dsimp only))
              go_ret
              exact ⟨_, rfl, H12.out⟩
    · have hScI : ((S.length : Int) == (c : Int)) = false := by simp; omega
      have hNl : N.length = A.length := HRK.out.len
      clear HSTB HRK HMZ
      (repeat' (first | (go_big_may; fail) | go_values | go_skip | go_guarded | go_step | go_upon | go_back | dsimp only))
      go_roundw
      case rel => exact ⟨gN, N, S.length, rfl, rfl, HM2.out, hNl, hSA, H5.out⟩
      case measure => simp [intOf] <;> omega
end Go.Proofs.Ythjkfiniafblbaa
