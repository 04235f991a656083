/- hornbookref19.refine walked: a round. -/
import Derived.Test.YthjkfiniafblbaaMinSg
import Derived.Test.YthjkfiniafblbaaWkList
import Derived.Test.YthjkfiniafblbaaWkRCnt
import Derived.Test.YthjkfiniafblbaaMinFold
namespace Go.Proofs.Ythjkfiniafblbaa
open Go.RowKit

theorem info_tStr : (Try.prog.info? tStr).map (fun i => (i.zero, i.size, i.bytes)) = some (some (.string ⟨#[]⟩), 1, 16) := by kernel_rfl
theorem fill_set {N : List Nat} {i n k : Nat} (h : N.length = i) (hi : i < n) : (N ++ List.replicate (n - i) 0).set i k = (N ++ [k]) ++ List.replicate (n - (i + 1)) 0 := by
  subst h
  obtain ⟨m, rfl⟩ : ∃ m, n = N.length + 1 + m := ⟨n - N.length - 1, by omega⟩
  rw [show N.length + 1 + m - N.length = m + 1 from by omega, show N.length + 1 + m - (N.length + 1) = m from by omega, List.set_append_right _ _ (Nat.le_refl _), Nat.sub_self, List.replicate_succ, List.set_cons_zero, List.append_assoc]
  rfl
theorem fill_get {N : List Nat} {i n : Nat} (h : N.length = i) (hi : i < n) : (N ++ List.replicate (n - i) 0)[i]? = some 0 := by
  subst h
  rw [List.getElem?_append_right (Nat.le_refl _), Nat.sub_self, List.getElem?_replicate, if_pos (by omega)]
theorem addS_hit {S : List (List UInt8)} {s : List UInt8} (h : s ∈ S) : addS S s = S := by unfold addS; rw [if_pos h]
theorem addS_new {S : List (List UInt8)} {s : List UInt8} (h : s ∉ S) : addS S s = S ++ [s] := by unfold addS; rw [if_neg h]
set_option maxRecDepth 100000 in
set_option maxHeartbeats 6400000 in
theorem refine_calls {w : World} {A : List Sta} {va kv : Value} {K : List Nat} (hA : RdAut w va A) (hK : RdRow w kv K.length 1 (K.map fun c => Value.int .i64 (c : Nat))) (hl : A.length + edgesN A ≤ 1048576) (hto : ∀ x ∈ A, ∀ e ∈ x.edges, 0 ≤ e.2 ∧ e.2.toNat < K.length) (hb : ∀ i, K.getD i 0 < 1048577) :
    Calls Try.prog 44 #[va, kv] w fun e w' => ∃ gN S N, e = .returned (.tuple #[.slice (some ⟨gN, 0, none⟩) A.length A.length, .int .i64 (S.length : Nat)]) ∧ RdK A K A.length S N ∧ At w w' (Both (RowG tInt 1 (.slice (some ⟨gN, 0, none⟩) A.length A.length) A.length (nats N)) Nought) := by
  obtain ⟨a0, c0, hv, _, hc0⟩ := hA.shape
  have hn : A.length ≤ 1048576 := by omega
  have HA := Lib.hid hA
  have HK := Lib.hid hK
  have HTO := Lib.hid hto
  have HB := Lib.hid hb
  have H0 := Lib.hid (At.nought (Below.refl w.heap.size w))
  subst hv
  clear hA hK hto hb
  go_enter Try.func44, Try.ntmps44
  (repeat' (first | (go_big_may; ((at_make; go_must (refine wpList_make_at rfl _ _ 23 rfl tInt Try.underlying23 info_Int rfl rfl rfl rfl rfl (by omega) (by unfold maxLen; omega) H0.out Stable.nought ?_)); intro w2 h2 _; have H2 := Lib.hid h2; clear h2)) | go_values | go_skip | go_guarded | go_step | go_upon | go_back | dsimp only))
  have h3 := H2.out.noRowG ((RowG.stable _ _ _ _ _).both Stable.nought) tStr 1
  rw [show List.replicate A.length (Value.int .i64 0) = nats ([] ++ List.replicate (A.length - 0) 0) from by simp [nats]] at h3
  have H3 := Lib.hid h3
  clear h3 H2
  go_loopw [6, 8] (fun vs vi wr => ∃ (i : Nat) (S : List (List UInt8)) (N : List Nat), vi = .int .i64 i ∧ i ≤ A.length ∧ S.length ≤ i ∧ RdK A K i S N ∧ At w wr (Both (RowG tStr 1 vs S.length (strs S)) (Both (RowG tInt 1 (.slice (some ⟨w.heap.size, 0, none⟩) A.length A.length) A.length (nats (N ++ List.replicate (A.length - i) 0))) Nought))) (fun _ vi _ => A.length - (intOf vi).toNat)
  case atStart => exact ⟨0, [], [], rfl, Nat.zero_le _, Nat.le_refl _, RdK.start A K, H3.out⟩
  case round =>
    obtain ⟨i, S, N, rfl, hi, hSl, hr, h1⟩ := hrel
    have hNl := hr.len
    by_cases hlt : i < A.length
    · obtain ⟨x, hx⟩ : ∃ x, A[i]? = some x := ⟨_, List.getElem?_eq_getElem hlt⟩
      obtain ⟨b, off, cap, u, hsl, d0, d1, hu⟩ := HA.out.at hx
      cases hsl
      replace d0 := (h1.below.cell (World.block_lt_of_cell? _ _ d0)).trans d0
      replace d1 := (h1.below.cell (World.block_lt_of_cell? _ _ d1)).trans d1
      obtain ⟨ua, uc, hus, _, _⟩ := hu.shape
      subst hus
      have hel := edgesN_le hx
      have hiI : (i : Int) < (A.length : Int) := by omega
      have hu2 : RdEds wr (.slice ua x.edges.length uc) x.edges := RdRow.below hu h1.below
      have HSG := Lib.hid (sign_calls (w := wr) (x := x) (ev := .slice ua x.edges.length uc) (kv := kv) (K := K) hu2 (HK.out.below h1.below) (by omega) (HTO.out x (List.mem_of_getElem? hx)) HB.out)
      have hst := (RowG.stable tStr 1 u6 S.length (strs S)).both ((RowG.stable tInt 1 (.slice (some ⟨w.heap.size, 0, none⟩) A.length A.length) A.length (nats (N ++ List.replicate (A.length - i) 0))).both Stable.nought)
      have HST := Lib.hid hst
      have H1 := Lib.hid h1
      have HX := Lib.hid hx
      have HR := Lib.hid hr
      have HSTEP := Lib.hid (hr.step hx)
      clear hx hu hu2 h1 hst hr
      (repeat' (first | (go_big_may; fail) | go_values | go_skip | go_guarded | go_step | go_upon | go_back | dsimp only))
      refine HSG.out.mono ?_
      rintro e2 w2 ⟨rfl, hb2⟩
      have h2 := H1.out.mono HST.out hb2
      generalize hsx : sgA K x = sx at *
      have H2 := Lib.hid h2
      obtain ⟨sa, sc, hu6, _, _⟩ := own_shape h2.rowG
      subst hu6
      clear h2 hb2 d0 d1 H1 HSG
      (repeat' (first | (go_big_may; fail) | go_values | go_skip | go_guarded | go_step | go_upon | go_back | dsimp only))
      go_loopw [10] (fun vk wx => ∃ k : Nat, vk = .int .i64 k ∧ k ≤ S.length ∧ (∀ q, q < k → S[q]? ≠ some sx) ∧ At w wx (Both (RowG tStr 1 (.slice sa S.length sc) S.length (strs S)) (Both (RowG tInt 1 (.slice (some ⟨w.heap.size, 0, none⟩) A.length A.length) A.length (nats (N ++ List.replicate (A.length - i) 0))) Nought))) (fun vk _ => S.length - (intOf vk).toNat)
      case atStart => exact ⟨0, rfl, Nat.zero_le _, fun q hq => absurd hq (Nat.not_lt_zero _), H2.out⟩
      case round =>
        rename_i wx _
        obtain ⟨k, rfl, hk, hpre, h3⟩ := hrel
        have hkI : (k : Int) ≤ (S.length : Int) := by omega
        obtain ⟨o1, o2, o3⟩ := h3.drop.rowCell (nats_get (fill_get hNl hlt))
        have h4 := h3.swap.storeG ((RowG.stable _ _ _ _ _).both Stable.nought) i (.int .i64 (k : Nat))
        rw [nats_set, fill_set hNl hlt] at h4
        by_cases hlk : k < S.length
        · obtain ⟨y, hy⟩ : ∃ y, S[k]? = some y := ⟨_, List.getElem?_eq_getElem hlk⟩
          obtain ⟨g, cp, hg, _, _, _⟩ := own_cut h3.rowG (by omega)
          simp only [Value.slice.injEq] at hg
          obtain ⟨rfl, _, rfl⟩ := hg
          obtain ⟨r1, r2, r3⟩ := h3.rowCell (j := k) (u := .string ⟨y.toArray⟩) (by simp [strs, hy])
          have hkI2 : (k : Int) < (S.length : Int) := by omega
          have hkne : ((k : Int) == (S.length : Int)) = false := by simp; omega
          have H3 := Lib.hid h3
          have H4 := Lib.hid h4
          have HPRE := Lib.hid hpre
          have HY := Lib.hid hy
          by_cases hys : y = sx
          · have hs : (y == sx) = true := by simp [hys]
            have HE := Lib.hid hys
            clear h3 h4 hpre hy hys
            (repeat' (first | (go_big_may; fail) | go_values | go_skip | go_guarded | go_step | go_upon | go_back | dsimp only))
            go_roundw
            case rel =>
              have hmem : sx ∈ S := List.mem_of_getElem? (HE.out ▸ HY.out)
              refine ⟨i + 1, S, N ++ [k], by simp, by omega, by omega, ?_, H4.out.swap⟩
              have h9 := HSTEP.out
              rw [addS_hit hmem, ixS_of HR.out.nodup (HE.out ▸ HY.out)] at h9
              exact h9
            case measure => simp [intOf] <;> omega
          · have hs : (y == sx) = false := by simp [hys]
            have HE := Lib.hid hys
            clear h3 h4 hpre hy hys
            (repeat' (first | (go_big_may; fail) | go_values | go_skip | go_guarded | go_step | go_upon | go_back | dsimp only))
            go_roundw
            case rel =>
              refine ⟨k + 1, by simp, by omega, fun q hq hq2 => ?_, H3.out⟩
              by_cases hqk : q = k
              · subst hqk
                rw [HY.out] at hq2
                exact HE.out (Option.some.inj hq2)
              · exact HPRE.out q (by omega) hq2
            case measure => simp [intOf] <;> omega
        · obtain rfl : k = S.length := by omega
          have hkI2 : ¬ (S.length : Int) < (S.length : Int) := by omega
          have hkeq : ((S.length : Int) == (S.length : Int)) = true := by simp
          have hnm : sx ∉ S := fun hm => by
            obtain ⟨q, hq⟩ := List.getElem?_of_mem hm
            exact hpre q (List.getElem?_eq_some_iff.1 hq).1 hq
          have H3 := Lib.hid h3
          have HNM := Lib.hid hnm
          clear h3 h4 hpre hnm o1 o2 o3
          (repeat' (first | (go_big_may; ((at_builtin; go_must (refine wpList_append_to rfl _ _ 36 tStr rfl Try.underlying36 info_tStr rfl (by decide) rfl (H3.out) (((RowG.stable _ _ _ _ _).both Stable.nought)) rfl (by first | rfl | simp) rfl (one_str _) (by unfold maxLen; omega) (by omega) ?_); intro a5 c5 w5 h5 _); obtain ⟨o1, o2, o3⟩ := h5.drop.rowCell (nats_get (fill_get hNl hlt)); have h6 := h5.swap.storeG ((RowG.stable _ _ _ _ _).both Stable.nought) i (.int .i64 (S.length : Nat)); rw [nats_set, fill_set hNl hlt] at h6; have H6 := Lib.hid h6; clear h5 h6)) | go_values | go_skip | go_guarded | go_step | go_upon | go_back | dsimp only))
          go_roundw
          case rel =>
            refine ⟨i + 1, S ++ [sx], N ++ [S.length], by simp, by omega, by simp; omega, ?_, ?_⟩
            · have h9 := HSTEP.out
              rw [addS_new HNM.out, ixS_new HNM.out] at h9
              exact h9
            · have h9 := H6.out.swap
              rw [show strs (S ++ [sx]) = strs S ++ [.string ⟨sx.toArray⟩] from by simp [strs], List.length_append, List.length_singleton]
              exact h9
          case measure => simp [intOf] <;> omega
    · obtain rfl : i = A.length := by omega
      have hiI : ¬ (A.length : Int) < (A.length : Int) := by omega
      rw [Nat.sub_self, List.replicate_zero, List.append_nil] at h1
      obtain ⟨sa, sc, hu6, _, _⟩ := own_shape h1.rowG
      subst hu6
      have H1 := Lib.hid h1
      have HR := Lib.hid hr
      clear h1 hr
      (repeat' (first | (go_big_may; fail) | go_values | go_skip | go_guarded | go_step | go_upon | go_back | dsimp only))
      go_ret2
      exact ⟨_, S, N, rfl, HR.out, H1.out.drop⟩
end Go.Proofs.Ythjkfiniafblbaa
