/- hornbookref10: Merge walked. · hornbookref10: Sort walked. · MergeSorts, MergeSame, MergeAgain: what a sort leaves in a store with room; no program in sight. -/
import Derived.Test.YtadokkffmekndaaGreatDoorBuMgPlLaw48
import Derived.Test.YtadokkffmekndaaGreatDoorBuMgPlLaw50
import Derived.Test.YtadokkffmekndaaGreatDoorBuMgPlLaw44
import Derived.Test.YtadokkffmekndaaGreatDoorBuMgPlLaw30
import Derived.Test.YtadokkffmekndaaGreatDoorBuMgPlLaw45
set_option linter.unusedSimpArgs false
set_option linter.unusedVariables false
namespace Go.Proofs.YtadokkffmekndaaGreatDoor
open Go.RowKit
theorem ofL_merge (A : List (List UInt8)) {X : List (List UInt8)} (hX : RisesL X) : mergeL (ofL A) X = ofL (A ++ X) :=
  RisesL.ext (mergeL_rises (ofL_rises A) hX) (ofL_rises _) fun x => by rw [mergeL_mem, ofL_mem, ofL_mem, List.mem_append]
section
variable {W w : World} {R : Thing} {rb : Nat} {S : St} {l : List Int} {v : Value}
theorem stands_rises (S : St) (z : Int) : RisesL (standsP S z) := risB_rises _ _
theorem stands_few {S : St} (hG : GoodS S) (z : Int) : (standsP S z).length ≤ 67108864 := by
  have h1 : (standsP S z).length ≤ (headsL (readT S z 0 (sizeN S z : Nat))).1.length := risB_len _ _
  have h2 := headsL_len (readT S z 0 (sizeN S z : Nat))
  have h3 := readT_few hG z 0 (sizeN S z : Nat)
  omega
theorem stands_few2 {S : St} (hG : GoodS S) : ∀ (l : List Int), (l.map (standsP S)).flatten.length ≤ l.length * 67108864
  | [] => by simp
  | z :: l => by
    have := stands_few2 hG l
    have := stands_few hG z
    rw [List.map_cons, List.flatten_cons, List.length_append, List.length_cons]
    omega
theorem intsV_snoc (l : List Int) (z : Int) : intsV (l ++ [z]) = intsV l ++ [Value.int .i64 z] := by simp [intsV]
theorem used_filter (n : Nat) : ∀ (rs : List (Nat × RunD)), usedOf (rs.filter fun q => q.1 != n) ≤ usedOf rs
  | [] => by simp [usedOf]
  | q :: rs => by
    have ih := used_filter n rs
    rw [List.filter_cons]
    split
    · rw [usedOf_cons, usedOf_cons]; omega
    · rw [usedOf_cons]; omega
theorem used_split {p : Nat × RunD} : ∀ (rs : List (Nat × RunD)), p ∈ rs → p.2.text.length + usedOf (rs.filter fun q => q.1 != p.1) ≤ usedOf rs
  | [], h => by cases h
  | q :: rs, h => by
    rcases List.mem_cons.1 h with rfl | h
    · have := used_filter p.1 rs
      rw [List.filter_cons, if_neg (by simp), usedOf_cons]
      omega
    · have ih := used_split rs h
      rw [List.filter_cons]
      split
      · rw [usedOf_cons, usedOf_cons]; omega
      · rw [usedOf_cons]; omega
theorem sum_used (f : Int → Nat) : ∀ (l : List Int) (rs : List (Nat × RunD)), l.Nodup → (∀ z ∈ l, ∃ (n : Nat) (T : List UInt8), z = (n : Int) ∧ (n, (⟨T, true⟩ : RunD)) ∈ rs ∧ f z ≤ T.length) → (l.map f).sum ≤ usedOf rs
  | [], rs, _, _ => by simp
  | z :: l, rs, hn, h => by
    obtain ⟨n, T, rfl, h1, h2⟩ := h z List.mem_cons_self
    have h3 := used_split rs h1
    have hn' := List.nodup_cons.1 hn
    have ih := sum_used f l (rs.filter fun q => q.1 != n) hn'.2 (fun y hy => by
      obtain ⟨k, U, rfl, h4, h5⟩ := h y (List.mem_cons_of_mem _ hy)
      refine ⟨k, U, rfl, List.mem_filter.2 ⟨h4, ?_⟩, h5⟩
      have : k ≠ n := fun e => hn'.1 (e ▸ hy)
      simpa using this)
    rw [List.map_cons, List.sum_cons]
    dsimp only at h3
    omega
theorem flat_len : ∀ (l : List (List (List UInt8))), l.flatten.length = (l.map List.length).sum
  | [] => rfl
  | a :: l => by rw [List.flatten_cons, List.length_append, List.map_cons, List.sum_cons, flat_len l]
theorem all_few {S : St} (hG : GoodS S) {l : List Int} (hl : LokP S l) : (allP S l).length ≤ 67108864 := by
  have h1 : (allP S l).length ≤ (l.map (standsP S)).flatten.length := ofL_len _
  rw [flat_len, List.map_map] at h1
  have h2 := sum_used (List.length ∘ standsP S) l S.runs hl.1 (fun z hz => by
    obtain ⟨n, T, rfl, hm⟩ := hl.2 z hz
    refine ⟨n, T, rfl, hm, ?_⟩
    have e := stands_has (hasT_of hG hm)
    show (standsP S (n : Int)).length ≤ _
    rw [e]
    exact Nat.le_trans (risB_len _ _) (headsL_len T))
  have h3 := hG.used
  have h4 := hG.sizes
  omega
set_option maxRecDepth 100000 in
set_option maxHeartbeats 12800000 in
theorem rMerge_at (h : At W w (Both (RefT rb S) R)) (hR : Stable R) (hG : GoodS S) (hz : ∀ z ∈ l, inI64 z) (hlen : l.length ≤ 1099511627776) {fan : Int} (hf64 : inI64 fan) (hv : ∃ ao cp, v = .slice ao l.length cp) (hrd : ∀ w', At W w' R → RdRow w' v l.length 1 (intsV l)) :
    Calls Tryz.prog 51 #[.pointer (some ⟨rb, 0, none⟩), .int .i64 fan, v] w fun e w' => e = .returned (.tuple #[.int .i64 (mergeP S fan l).2.1, .int .i64 (mergeP S fan l).2.2]) ∧ At W w' (Both (RefT rb (mergeP S fan l).1) R) := by
  have hst := (RefT.stable rb S).both hR
  have hlk := rLook_at h hR hG hz hlen (hrd w h.drop)
  obtain ⟨av, cv, rfl⟩ := hv
  have H := Lib.hid h
  have HST := Lib.hid hst
  by_cases hf1 : fan < 2
  · rw [mergeP_lim (.inl hf1)]
    clear h hR hG hz hrd hst hlk
    go_enter Tryz.func51, Tryz.ntmps51
    (repeat' (first | go_values | go_skip | go_guarded | go_step | go_upon | go_back | dsimp only))
    go_ret2
    exact ⟨rfl, H.out⟩
  by_cases hf2 : 64 < fan
  · rw [mergeP_lim (.inr hf2)]
    clear h hR hG hz hrd hst hlk
    go_enter Tryz.func51, Tryz.ntmps51
    (repeat' (first | go_values | go_skip | go_guarded | go_step | go_upon | go_back | dsimp only))
    go_ret2
    exact ⟨rfl, H.out⟩
  have hfl : ¬ (fan < 2 ∨ 64 < fan) := by omega
  by_cases hl0 : lookP S [] l = 0
  · rw [mergeP_ok hfl hl0]
    rw [hl0, show ((0 : Nat) : Int) = 0 from rfl] at hlk
    have HLK := Lib.hid hlk
    have hll := look_lok hl0
    have hfew := hll.few hG
    by_cases hn : l = []
    · subst hn
      unfold mergedP
      rw [if_pos rfl]
      have hwr := fun (w' : World) (h' : At W w' (Both (RefT rb S) R)) => rWritten_at (L := []) (v := .slice none 0 0) h' hR hG (fun w' _ => ⟨rfl, none, 0, rfl, Nat.le_refl _, by simp [maxLen], fun j u hu => by simp [strs] at hu⟩) rfl (by simp [frameL])
      have HWR := Lib.hid hwr
      clear h hR hG hz hrd hst hlk hl0 hll hwr hfl
      go_enter Tryz.func51, Tryz.ntmps51
      (repeat' (first | go_values | go_skip | go_guarded | go_step | go_upon | go_back | dsimp only))
      refine HLK.out.mono ?_
      rintro e w1 ⟨rfl, hb⟩
      have H1 := Lib.hid (H.out.mono HST.out hb)
      clear hb HLK
      (repeat' (first | go_values | go_skip | go_guarded | go_step | go_upon | go_back | dsimp only))
      refine (HWR.out w1 H1.out).mono ?_
      rintro e w2 ⟨rfl, h2⟩
      have H2 := Lib.hid h2
      clear h2 HWR H1
      (repeat' (first | go_values | go_skip | go_guarded | go_step | go_upon | go_back | dsimp only))
      go_ret2
      exact ⟨rfl, H2.out⟩
    · obtain ⟨res, hres⟩ : ∃ res, res = mergedP S fan l := ⟨_, rfl⟩
      rw [← hres]
      unfold mergedP at hres
      rw [if_neg hn] at hres
      have hl1 : 1 ≤ l.length := List.length_pos_iff.2 hn
      have hne : ((l.length : Int) == 0) = false := by simp; exact hn
      have HRES := Lib.hid hres
      have HLL := Lib.hid hll
      have HG := Lib.hid hG
      have HR := Lib.hid hR
      have HRD := Lib.hid hrd
      clear h hR hG hz hrd hst hlk hl0 hll hfl hres hn
      go_enter Tryz.func51, Tryz.ntmps51
      (repeat' (first | go_values | go_skip | go_guarded | go_step | go_upon | go_back | dsimp only))
      refine HLK.out.mono ?_
      rintro e w1 ⟨rfl, hb⟩
      have H1 := Lib.hid ((H.out.mono HST.out hb).noRowG HST.out tInt 1)
      clear hb HLK
      (repeat' (first | go_values | go_skip | go_guarded | go_step | go_upon | go_back | dsimp only))
      -- the list is copied
      go_loopw [9, 10] (fun v9 vi wr => ∃ k : Nat, vi = .int .i64 k ∧ k ≤ l.length ∧ At W wr (Both (RowG tInt 1 v9 k (intsV (l.take k))) (Both (RefT rb S) R))) (fun _ vi _ => l.length - (intOf vi).toNat)
      case atStart => exact ⟨0, rfl, Nat.zero_le _, H1.out⟩
      case round =>
        obtain ⟨k, rfl, hk, h2⟩ := hrel
        clear H1
        by_cases hlt : k < l.length
        · obtain ⟨y, hy⟩ : ∃ y, l[k]? = some y := ⟨_, List.getElem?_eq_getElem hlt⟩
          obtain ⟨gb, off, cp, hsl, hcell⟩ := (HRD.out _ h2.drop.drop).intA hy
          simp only [Value.slice.injEq] at hsl
          obtain ⟨hao, _, hcv⟩ := hsl
          subst hao
          subst hcv
          have hi0 : (0 : Int) ≤ k := by omega
          have hi1 : (k : Int) < l.length := by omega
          have hwr : IntKind.i64.wrap ((k : Int) + 1) = ((k + 1 : Nat) : Int) := by rw [IntKind.wrap_i64] <;> omega
          have H2 := Lib.hid h2
          have HTK := Lib.hid (take_snoc hy)
          clear h2 hy
          (repeat' (first | (go_big_may; ((at_builtin; go_must (refine wpList_append_to rfl _ _ 23 tInt rfl Tryz.underlying23 info_int rfl (by decide) rfl (H2.out) (HST.out) rfl (by first | rfl | simp) rfl ((by simp [Value.oneCell'])) (by unfold maxLen; omega) (by omega) ?_); intro a2 c2 w6 h6x _); have H6 := Lib.hid h6x; clear h6x)) | go_values | go_skip | go_guarded | go_step | go_upon | go_back | dsimp only))
          go_roundw
          case rel => exact ⟨k + 1, by go_num, hlt, by have := H6.out; rw [HTK.out]; simpa [intsV] using this⟩
          case measure => simp [intOf]; omega
        · have hi1 : ¬ (k : Int) < l.length := by omega
          obtain rfl : k = l.length := by omega
          rw [List.take_length] at h2
          have H2 := Lib.hid h2
          clear h2
          (repeat' (first | go_values | go_skip | go_guarded | go_step | go_upon | go_back | dsimp only))
          go_loopw [9] (fun v9 wr => ∃ (n : Nat) (S' : St) (l' : List Int), GoodS S' ∧ LokP S' l' ∧ 1 ≤ l'.length ∧ l'.length ≤ n ∧ res = loopM fan.toNat n S' l' ∧ At W wr (Both (RowG tInt 1 v9 l'.length (intsV l')) (Both (RefT rb S') R))) (fun v9 _ => sliN v9)
          case atStart => exact ⟨l.length, S, l, HG.out, HLL.out, hl1, Nat.le_refl _, HRES.out, H2.out⟩
          case round =>
            obtain ⟨n, S', l', hg', hl', hp', hn', hr', h3⟩ := hrel
            clear H2 HG HLL HRES hne hl1 hfew
            have hfew := hl'.few hg'
            obtain ⟨gr, cr, hv9, _, hcr1, hcr2⟩ := own_cut h3.rowG hp'
            subst hv9
            unfold maxLen at hcr2
            obtain ⟨m, rfl⟩ : ∃ m, n = m + 1 := ⟨n - 1, by omega⟩
            rw [loopM] at hr'
            by_cases hlt : l'.length ≤ 1
            · rw [if_pos hlt] at hr'
              have hi9 : ¬ (1 : Int) < l'.length := by omega
              obtain ⟨z, hz⟩ : ∃ z, l'[0]? = some z := ⟨_, List.getElem?_eq_getElem (by omega)⟩
              have hz2 : l'.getD 0 0 = z := by rw [List.getD_eq_getElem?_getD, hz]; rfl
              rw [hz2] at hr'
              obtain ⟨c0, _, _⟩ := h3.rowCell (j := 0) (u := .int .i64 z) (by simp [intsV, hz])
              have hp0 : (0 : Int) < l'.length := by omega
              have HRR := Lib.hid hr'
              have H3 := Lib.hid h3
              clear hr' h3 hg' hl' hz hz2
              (repeat' (first | go_values | go_skip | go_guarded | go_step | go_upon | go_back | dsimp only))
              go_ret2
              rw [HRR.out]
              exact ⟨rfl, H3.out.drop⟩
            · rw [if_neg hlt] at hr'
              have hi9 : (1 : Int) < l'.length := by omega
              obtain ⟨k, hk⟩ : ∃ k, k = min fan.toNat l'.length := ⟨_, rfl⟩
              have hk2 : 2 ≤ k ∧ k ≤ 64 ∧ k ≤ l'.length := by omega
              have htk : l'.take fan.toNat = l'.take k := by
                rcases Nat.le_total fan.toNat l'.length with h | h
                · rw [hk, Nat.min_eq_left h]
                · rw [hk, Nat.min_eq_right h, List.take_length, List.take_of_length_le h]
              have hdk : l'.drop fan.toNat = l'.drop k := by
                rcases Nat.le_total fan.toNat l'.length with h | h
                · rw [hk, Nat.min_eq_left h]
                · rw [hk, Nat.min_eq_right h, List.drop_length, List.drop_of_length_le h]
              rw [htk, hdk] at hr'
              have H3 := Lib.hid h3
              have HG := Lib.hid hg'
              have HL := Lib.hid hl'
              have HRR := Lib.hid hr'
              have HST3 := Lib.hid ((RowG.stable tInt 1 (.slice (some ⟨gr, 0, none⟩) l'.length cr) l'.length (intsV l')).both ((RefT.stable rb S').both HR.out))
              have hks : (l'.length < fan ∧ k = l'.length) ∨ (¬ (l'.length : Int) < fan ∧ (k : Int) = fan) := by omega
              have HE := Lib.hid (h3.noRowG HST3.out tSx 1)
              clear h3 hg' hl' hr' htk hdk hk
              rcases hks with ⟨hk3, hk4⟩ | ⟨hk3, hk4⟩
              · subst hk4
                (repeat' (first | go_values | go_skip | go_guarded | go_step | go_upon | go_back | dsimp only))
                go_loopw [12, 13] (fun va vi wr => ∃ i : Nat, vi = .int .i64 i ∧ i ≤ l'.length ∧ At W wr (Both (RowG tSx 1 va (allP S' (l'.take i)).length (strs (allP S' (l'.take i)))) (Both (RowG tInt 1 (.slice (some ⟨gr, 0, none⟩) l'.length cr) l'.length (intsV l')) (Both (RefT rb S') R)))) (fun _ vi _ => l'.length - (intOf vi).toNat)
                case atStart => exact ⟨0, rfl, Nat.zero_le _, by
                  have e : allP S' (l'.take 0) = [] := ofL_nil
                  rw [e]
                  exact HE.out⟩
                case round =>
                  obtain ⟨i, rfl, hi, h4⟩ := hrel
                  clear HE
                  obtain ⟨ua, uc, hua, _, _⟩ := own_shape h4.rowG
                  subst hua
                  by_cases hik : i < l'.length
                  · obtain ⟨z, hz⟩ : ∃ z, l'[i]? = some z := ⟨_, List.getElem?_eq_getElem (by omega)⟩
                    obtain ⟨cz, _, _⟩ := h4.drop.rowCell (j := i) (u := .int .i64 z) (by simp [intsV, hz])
                    have hi0 : (0 : Int) ≤ i := by omega
                    have hi7 : (i : Int) < l'.length := by omega
                    have hi8 : (i : Int) < (l'.length : Nat) := by omega
                    have hwr : IntKind.i64.wrap ((i : Int) + 1) = ((i + 1 : Nat) : Int) := by rw [IntKind.wrap_i64] <;> omega
                    have hst4 : Stable (Both (RowG tSx 1 (.slice ua (allP S' (l'.take i)).length uc) (allP S' (l'.take i)).length (strs (allP S' (l'.take i)))) (Both (RowG tInt 1 (.slice (some ⟨gr, 0, none⟩) l'.length cr) l'.length (intsV l')) (Both (RefT rb S') R))) := (RowG.stable _ _ _ _ _).both HST3.out
                    have hsn := rStands_at (h4.perm (show _ = Both (RefT rb S') (Both (RowG tSx 1 (.slice ua (allP S' (l'.take i)).length uc) (allP S' (l'.take i)).length (strs (allP S' (l'.take i)))) (Both (RowG tInt 1 (.slice (some ⟨gr, 0, none⟩) l'.length cr) l'.length (intsV l')) R)) by ac_rfl)) HG.out (HL.out.z64 HG.out z (List.mem_of_getElem? hz))
                    have hmg : mergeL (allP S' (l'.take i)) (standsP S' z) = allP S' (l'.take (i + 1)) := by
                      unfold allP
                      rw [ofL_merge _ (stands_rises S' z), take_snoc hz]
                      simp
                    have hfw : (allP S' (l'.take i)).length + (standsP S' z).length ≤ 1099511627776 := by
                      have h1 : (allP S' (l'.take i)).length ≤ ((l'.take i).map (standsP S')).flatten.length := ofL_len _
                      have h2 := stands_few2 HG.out (l'.take i)
                      have h3 := stands_few HG.out z
                      rw [List.length_take] at h2
                      omega
                    have HSN := Lib.hid hsn
                    have HMG := Lib.hid hmg
                    have HFW := Lib.hid hfw
                    have H4 := Lib.hid h4
                    have HS4 := Lib.hid hst4
                    clear hsn hmg hfw h4 hst4 hz
                    (repeat' (first | go_values | go_skip | go_guarded | go_step | go_upon | go_back | dsimp only))
                    refine HSN.out.mono ?_
                    rintro e x1 ⟨v1, rfl, ho, hb⟩
                    have h5 := H4.out.newRowG HS4.out hb ho
                    have hun := RUnion_calls (RdRow.of_own h5.drop.rowG) (RdRow.of_own h5.rowG) HFW.out
                    rw [HMG.out] at hun
                    have HUN := Lib.hid hun
                    have HS5 := Lib.hid ((RowG.stable tSx 1 v1 (standsP S' z).length (strs (standsP S' z))).both HS4.out)
                    have H5 := Lib.hid h5
                    clear ho hb h5 hun HSN H4
                    (repeat' (first | go_values | go_skip | go_guarded | go_step | go_upon | go_back | dsimp only))
                    refine HUN.out.mono ?_
                    rintro e x2 ⟨vo, rfl, h6q⟩
                    have h6 := At.glue H5.out HS5.out h6q
                    have H6 := Lib.hid (h6.perm (show _ = Both (RowG tSx 1 v1 (standsP S' z).length (strs (standsP S' z))) (Both (RowG tSx 1 (.slice ua (allP S' (l'.take i)).length uc) (allP S' (l'.take i)).length (strs (allP S' (l'.take i)))) (Both (RowG tSt 1 vo (allP S' (l'.take (i + 1))).length (strs (allP S' (l'.take (i + 1))))) (Both (RowG tInt 1 (.slice (some ⟨gr, 0, none⟩) l'.length cr) l'.length (intsV l')) (Both (RefT rb S') R)))) by ac_rfl)).drop.drop
                    clear h6q h6 HUN H5
                    (repeat' (first | go_values | go_skip | go_guarded | go_step | go_upon | go_back | dsimp only))
                    go_roundw
                    case rel => exact ⟨i + 1, rfl, hik, H6.out⟩
                    case measure => simp [intOf]; omega
                  · have hi8 : ¬ (i : Int) < (l'.length : Nat) := by omega
                    have hie : l'.length = i := by omega
                    subst hie
                    have hLf := allP_fits S' (l'.take (l'.length))
                    have hLa := all_few HG.out (HL.out.take (l'.length))
                    have hrd' := HL.out.round HG.out (l'.length)
                    have hgb := LokP.bad HG.out (l'.take (l'.length))
                    generalize allP S' (l'.take (l'.length)) = L at *
                    have hw := rWritten_at (L := L) (v := .slice ua L.length uc) (h4.perm (show _ = Both (RefT rb S') (Both (RowG tSx 1 (.slice ua L.length uc) L.length (strs L)) (Both (RowG tInt 1 (.slice (some ⟨gr, 0, none⟩) l'.length cr) l'.length (intsV l')) R)) by ac_rfl)) ((RowG.stable _ _ _ _ _).both ((RowG.stable _ _ _ _ _).both HR.out)) HG.out (fun w' h' => RdRow.of_own h'.rowG) hLf (by
                      have h0 := frame_wsum (L := L) hLf
                      have h1 := wsum_fit (L := L) hLf
                      omega)
                    have hr := HRR.out
                    have hz64 := HL.out.z64 HG.out
                    obtain ⟨P, hP⟩ : ∃ P, P = writtenP S' L := ⟨_, rfl⟩
                    rw [← hP] at hr hrd' hgb
                    rw [← hP] at hw
                    have hkl : (l'.take (l'.length)).length = l'.length := by rw [List.length_take]; omega
                    have HZ := Lib.hid hz64
                    have HRO := Lib.hid hrd'
                    have HGB := Lib.hid hgb
                    have HKL := Lib.hid hkl
                    clear hz64 hrd' hgb hkl hP h4 HRR hLf hLa
                    by_cases hz : P.2.2 = 0
                    · obtain ⟨q1, q2, q3, q4⟩ := HRO.out hz
                      rw [if_neg (by simpa using hz)] at hr
                      rw [hz, show ((0 : Nat) : Int) = 0 from rfl] at hw
                      have hrm := fun (w' : World) (h' : At W w' (Both (RefT rb P.1) (Both (RowG tSx 1 (.slice ua L.length uc) L.length (strs L)) (Both (RowG tInt 1 (.slice (some ⟨gr, 0, none⟩) l'.length cr) l'.length (intsV l')) R)))) => rremove_at (l := l'.take (l'.length)) (v := .slice (some ⟨gr, 0, none⟩) (l'.length) cr) h' ((RowG.stable _ _ _ _ _).both ((RowG.stable _ _ _ _ _).both HR.out)) q4 (fun z hz => HZ.out z (List.mem_of_mem_take hz)) (by rw [HKL.out]; omega) ⟨_, _, by rw [HKL.out]⟩ (fun w' h' => (RdRow.of_own h'.drop.rowG).takeI (by omega))
                      have HW := Lib.hid hw
                      have HRM := Lib.hid hrm
                      have HRR := Lib.hid hr
                      have HQ := Lib.hid (And.intro q1 q2)
                      have hnum : P.2.1 ≤ 16777216 := q3
                      have hk00 : (0 : Int) ≤ (l'.length : Nat) := by omega
                      have hk01 : ((l'.length : Nat) : Int) ≤ cr := by omega
                      clear hw hrm hr q1 q2 q3 q4 hz
                      (repeat' (first | go_values | go_skip | go_guarded | go_step | go_upon | go_back | dsimp only))
                      refine HW.out.mono ?_
                      rintro e x1 ⟨rfl, h5⟩
                      have H5 := Lib.hid h5
                      clear h5 HW
                      (repeat' (first | go_values | go_skip | go_guarded | go_step | go_upon | go_back | dsimp only))
                      refine (HRM.out x1 H5.out).mono ?_
                      rintro e x2 ⟨rfl, h6⟩
                      have h7 := (h6.noRowG ((RefT.stable _ _).both ((RowG.stable _ _ _ _ _).both ((RowG.stable _ _ _ _ _).both HR.out))) tInt 1).perm (show _ = Both (RowG tInt 1 (.slice none 0 0) 0 []) (Both (RowG tInt 1 (.slice (some ⟨gr, 0, none⟩) l'.length cr) l'.length (intsV l')) (Both (RefT rb (goneZ P.1 (l'.take (l'.length)))) (Both (RowG tSx 1 (.slice ua L.length uc) L.length (strs L)) R))) by ac_rfl)
                      have H7 := Lib.hid h7
                      clear h6 h7 HRM H5
                      (repeat' (first | go_values | go_skip | go_guarded | go_step | go_upon | go_back | dsimp only))
                      go_loopw [17, 18] (fun vn vj wr => ∃ j : Nat, vj = .int .i64 ((l'.length + j : Nat) : Int) ∧ l'.length + j ≤ l'.length ∧ At W wr (Both (RowG tInt 1 vn j (intsV ((l'.drop (l'.length)).take j))) (Both (RowG tInt 1 (.slice (some ⟨gr, 0, none⟩) l'.length cr) l'.length (intsV l')) (Both (RefT rb (goneZ P.1 (l'.take (l'.length)))) (Both (RowG tSx 1 (.slice ua L.length uc) L.length (strs L)) R))))) (fun _ vj _ => l'.length - (intOf vj).toNat)
                      case atStart => exact ⟨0, by simp, by omega, H7.out⟩
                      case round =>
                        obtain ⟨j, rfl, hj, h8⟩ := hrel
                        clear H7
                        have hst8 : Stable (Both (RowG tInt 1 (.slice (some ⟨gr, 0, none⟩) l'.length cr) l'.length (intsV l')) (Both (RefT rb (goneZ P.1 (l'.take (l'.length)))) (Both (RowG tSx 1 (.slice ua L.length uc) L.length (strs L)) R))) := (RowG.stable _ _ _ _ _).both ((RefT.stable _ _).both ((RowG.stable _ _ _ _ _).both HR.out))
                        have HS8 := Lib.hid hst8
                        by_cases hjl : l'.length + j < l'.length
                        · skip
                          exact absurd hjl (by omega)
                        · have hi7 : ¬ ((l'.length + j : Nat) : Int) < l'.length := by omega
                          have hje : (l'.drop (l'.length)).take j = l'.drop (l'.length) := List.take_of_length_le (by rw [List.length_drop]; omega)
                          rw [hje] at h8
                          have hjm : j ≤ 16777216 := by omega
                          have HJ := Lib.hid (show j = (l'.drop (l'.length)).length by rw [List.length_drop]; omega)
                          have H8 := Lib.hid h8
                          clear h8 hje hst8
                          (repeat' (first | (go_big_may; ((at_builtin; go_must (refine wpList_append_to rfl _ _ 23 tInt rfl Tryz.underlying23 info_int rfl (by decide) rfl (H8.out) (HS8.out) rfl (by first | rfl | simp) rfl ((by simp [Value.oneCell'])) (by unfold maxLen; omega) (by omega) ?_); intro a2 c2 w6 h6x _); have H6 := Lib.hid h6x; clear h6x)) | go_values | go_skip | go_guarded | go_step | go_upon | go_back | dsimp only))
                          go_roundw
                          case rel => exact ⟨m, _, _, HQ.out.1, HQ.out.2, by simp, by rw [List.length_append, List.length_drop, List.length_singleton]; omega, HRR.out, by
                            have h9 := H6.out
                            have e2 : j + 1 = (l'.drop (l'.length) ++ [(P.2.1 : Int)]).length := by rw [List.length_append, ← HJ.out]; rfl
                            rw [← e2, intsV_snoc]
                            have h10 : At W _ (Both (RowG tInt 1 (.slice a2 (j + 1) c2) (j + 1) (intsV (l'.drop (l'.length)) ++ [Value.int .i64 (P.2.1 : Int)])) _) := h9
                            exact (h10.perm (show _ = Both (RowG tInt 1 (.slice (some ⟨gr, 0, none⟩) l'.length cr) l'.length (intsV l')) (Both (RowG tSx 1 (.slice ua L.length uc) L.length (strs L)) (Both (RowG tInt 1 (.slice a2 (j + 1) c2) (j + 1) (intsV (l'.drop (l'.length)) ++ [Value.int .i64 (P.2.1 : Int)])) (Both (RefT rb (goneZ P.1 (l'.take (l'.length)))) R))) by ac_rfl)).drop.drop⟩
                          case measure =>
                            show j + 1 < l'.length
                            omega
                    · rw [if_pos (by simpa using hz)] at hr
                      have hzq : ((P.2.2 : Int) != 0) = true := by simp; omega
                      have hrm := fun (w' : World) (h' : At W w' (Both (RefT rb P.1) (Both (RowG tSx 1 (.slice ua L.length uc) L.length (strs L)) (Both (RowG tInt 1 (.slice (some ⟨gr, 0, none⟩) l'.length cr) l'.length (intsV l')) R)))) => rremove_at (l := l') (v := .slice (some ⟨gr, 0, none⟩) l'.length cr) h' ((RowG.stable _ _ _ _ _).both ((RowG.stable _ _ _ _ _).both HR.out)) (HGB.out l').1 HZ.out (by omega) ⟨_, _, rfl⟩ (fun w' h' => RdRow.of_own h'.drop.rowG)
                      have HW := Lib.hid hw
                      have HRM := Lib.hid hrm
                      have HRR := Lib.hid hr
                      clear hw hrm hr hz
                      (repeat' (first | go_values | go_skip | go_guarded | go_step | go_upon | go_back | dsimp only))
                      refine HW.out.mono ?_
                      rintro e x1 ⟨rfl, h5⟩
                      have H5 := Lib.hid h5
                      clear h5 HW
                      (repeat' (first | go_values | go_skip | go_guarded | go_step | go_upon | go_back | dsimp only))
                      refine (HRM.out x1 H5.out).mono ?_
                      rintro e x2 ⟨rfl, h6⟩
                      have H6 := Lib.hid h6
                      clear h6 HRM H5
                      (repeat' (first | go_values | go_skip | go_guarded | go_step | go_upon | go_back | dsimp only))
                      go_ret2
                      rw [HRR.out]
                      exact ⟨rfl, (H6.out.perm (show _ = Both (RowG tSx 1 (.slice ua L.length uc) L.length (strs L)) (Both (RowG tInt 1 (.slice (some ⟨gr, 0, none⟩) l'.length cr) l'.length (intsV l')) (Both (RefT rb (goneZ P.1 l')) R)) by ac_rfl)).drop.drop⟩
              · subst hk4
                (repeat' (first | go_values | go_skip | go_guarded | go_step | go_upon | go_back | dsimp only))
                go_loopw [12, 13] (fun va vi wr => ∃ i : Nat, vi = .int .i64 i ∧ i ≤ k ∧ At W wr (Both (RowG tSx 1 va (allP S' (l'.take i)).length (strs (allP S' (l'.take i)))) (Both (RowG tInt 1 (.slice (some ⟨gr, 0, none⟩) l'.length cr) l'.length (intsV l')) (Both (RefT rb S') R)))) (fun _ vi _ => k - (intOf vi).toNat)
                case atStart => exact ⟨0, rfl, Nat.zero_le _, by
                  have e : allP S' (l'.take 0) = [] := ofL_nil
                  rw [e]
                  exact HE.out⟩
                case round =>
                  obtain ⟨i, rfl, hi, h4⟩ := hrel
                  clear HE
                  obtain ⟨ua, uc, hua, _, _⟩ := own_shape h4.rowG
                  subst hua
                  by_cases hik : i < k
                  · obtain ⟨z, hz⟩ : ∃ z, l'[i]? = some z := ⟨_, List.getElem?_eq_getElem (by omega)⟩
                    obtain ⟨cz, _, _⟩ := h4.drop.rowCell (j := i) (u := .int .i64 z) (by simp [intsV, hz])
                    have hi0 : (0 : Int) ≤ i := by omega
                    have hi7 : (i : Int) < l'.length := by omega
                    have hi8 : (i : Int) < (k : Nat) := by omega
                    have hwr : IntKind.i64.wrap ((i : Int) + 1) = ((i + 1 : Nat) : Int) := by rw [IntKind.wrap_i64] <;> omega
                    have hst4 : Stable (Both (RowG tSx 1 (.slice ua (allP S' (l'.take i)).length uc) (allP S' (l'.take i)).length (strs (allP S' (l'.take i)))) (Both (RowG tInt 1 (.slice (some ⟨gr, 0, none⟩) l'.length cr) l'.length (intsV l')) (Both (RefT rb S') R))) := (RowG.stable _ _ _ _ _).both HST3.out
                    have hsn := rStands_at (h4.perm (show _ = Both (RefT rb S') (Both (RowG tSx 1 (.slice ua (allP S' (l'.take i)).length uc) (allP S' (l'.take i)).length (strs (allP S' (l'.take i)))) (Both (RowG tInt 1 (.slice (some ⟨gr, 0, none⟩) l'.length cr) l'.length (intsV l')) R)) by ac_rfl)) HG.out (HL.out.z64 HG.out z (List.mem_of_getElem? hz))
                    have hmg : mergeL (allP S' (l'.take i)) (standsP S' z) = allP S' (l'.take (i + 1)) := by
                      unfold allP
                      rw [ofL_merge _ (stands_rises S' z), take_snoc hz]
                      simp
                    have hfw : (allP S' (l'.take i)).length + (standsP S' z).length ≤ 1099511627776 := by
                      have h1 : (allP S' (l'.take i)).length ≤ ((l'.take i).map (standsP S')).flatten.length := ofL_len _
                      have h2 := stands_few2 HG.out (l'.take i)
                      have h3 := stands_few HG.out z
                      rw [List.length_take] at h2
                      omega
                    have HSN := Lib.hid hsn
                    have HMG := Lib.hid hmg
                    have HFW := Lib.hid hfw
                    have H4 := Lib.hid h4
                    have HS4 := Lib.hid hst4
                    clear hsn hmg hfw h4 hst4 hz
                    (repeat' (first | go_values | go_skip | go_guarded | go_step | go_upon | go_back | dsimp only))
                    refine HSN.out.mono ?_
                    rintro e x1 ⟨v1, rfl, ho, hb⟩
                    have h5 := H4.out.newRowG HS4.out hb ho
                    have hun := RUnion_calls (RdRow.of_own h5.drop.rowG) (RdRow.of_own h5.rowG) HFW.out
                    rw [HMG.out] at hun
                    have HUN := Lib.hid hun
                    have HS5 := Lib.hid ((RowG.stable tSx 1 v1 (standsP S' z).length (strs (standsP S' z))).both HS4.out)
                    have H5 := Lib.hid h5
                    clear ho hb h5 hun HSN H4
                    (repeat' (first | go_values | go_skip | go_guarded | go_step | go_upon | go_back | dsimp only))
                    refine HUN.out.mono ?_
                    rintro e x2 ⟨vo, rfl, h6q⟩
                    have h6 := At.glue H5.out HS5.out h6q
                    have H6 := Lib.hid (h6.perm (show _ = Both (RowG tSx 1 v1 (standsP S' z).length (strs (standsP S' z))) (Both (RowG tSx 1 (.slice ua (allP S' (l'.take i)).length uc) (allP S' (l'.take i)).length (strs (allP S' (l'.take i)))) (Both (RowG tSt 1 vo (allP S' (l'.take (i + 1))).length (strs (allP S' (l'.take (i + 1))))) (Both (RowG tInt 1 (.slice (some ⟨gr, 0, none⟩) l'.length cr) l'.length (intsV l')) (Both (RefT rb S') R)))) by ac_rfl)).drop.drop
                    clear h6q h6 HUN H5
                    (repeat' (first | go_values | go_skip | go_guarded | go_step | go_upon | go_back | dsimp only))
                    go_roundw
                    case rel => exact ⟨i + 1, rfl, hik, H6.out⟩
                    case measure => simp [intOf]; omega
                  · have hi8 : ¬ (i : Int) < (k : Nat) := by omega
                    have hie : k = i := by omega
                    subst hie
                    have hLf := allP_fits S' (l'.take (k))
                    have hLa := all_few HG.out (HL.out.take (k))
                    have hrd' := HL.out.round HG.out (k)
                    have hgb := LokP.bad HG.out (l'.take (k))
                    generalize allP S' (l'.take (k)) = L at *
                    have hw := rWritten_at (L := L) (v := .slice ua L.length uc) (h4.perm (show _ = Both (RefT rb S') (Both (RowG tSx 1 (.slice ua L.length uc) L.length (strs L)) (Both (RowG tInt 1 (.slice (some ⟨gr, 0, none⟩) l'.length cr) l'.length (intsV l')) R)) by ac_rfl)) ((RowG.stable _ _ _ _ _).both ((RowG.stable _ _ _ _ _).both HR.out)) HG.out (fun w' h' => RdRow.of_own h'.rowG) hLf (by
                      have h0 := frame_wsum (L := L) hLf
                      have h1 := wsum_fit (L := L) hLf
                      omega)
                    have hr := HRR.out
                    have hz64 := HL.out.z64 HG.out
                    obtain ⟨P, hP⟩ : ∃ P, P = writtenP S' L := ⟨_, rfl⟩
                    rw [← hP] at hr hrd' hgb
                    rw [← hP] at hw
                    have hkl : (l'.take (k)).length = k := by rw [List.length_take]; omega
                    have HZ := Lib.hid hz64
                    have HRO := Lib.hid hrd'
                    have HGB := Lib.hid hgb
                    have HKL := Lib.hid hkl
                    clear hz64 hrd' hgb hkl hP h4 HRR hLf hLa
                    by_cases hz : P.2.2 = 0
                    · obtain ⟨q1, q2, q3, q4⟩ := HRO.out hz
                      rw [if_neg (by simpa using hz)] at hr
                      rw [hz, show ((0 : Nat) : Int) = 0 from rfl] at hw
                      have hrm := fun (w' : World) (h' : At W w' (Both (RefT rb P.1) (Both (RowG tSx 1 (.slice ua L.length uc) L.length (strs L)) (Both (RowG tInt 1 (.slice (some ⟨gr, 0, none⟩) l'.length cr) l'.length (intsV l')) R)))) => rremove_at (l := l'.take (k)) (v := .slice (some ⟨gr, 0, none⟩) (k) cr) h' ((RowG.stable _ _ _ _ _).both ((RowG.stable _ _ _ _ _).both HR.out)) q4 (fun z hz => HZ.out z (List.mem_of_mem_take hz)) (by rw [HKL.out]; omega) ⟨_, _, by rw [HKL.out]⟩ (fun w' h' => (RdRow.of_own h'.drop.rowG).takeI (by omega))
                      have HW := Lib.hid hw
                      have HRM := Lib.hid hrm
                      have HRR := Lib.hid hr
                      have HQ := Lib.hid (And.intro q1 q2)
                      have hnum : P.2.1 ≤ 16777216 := q3
                      have hk00 : (0 : Int) ≤ (k : Nat) := by omega
                      have hk01 : ((k : Nat) : Int) ≤ cr := by omega
                      clear hw hrm hr q1 q2 q3 q4 hz
                      (repeat' (first | go_values | go_skip | go_guarded | go_step | go_upon | go_back | dsimp only))
                      refine HW.out.mono ?_
                      rintro e x1 ⟨rfl, h5⟩
                      have H5 := Lib.hid h5
                      clear h5 HW
                      (repeat' (first | go_values | go_skip | go_guarded | go_step | go_upon | go_back | dsimp only))
                      refine (HRM.out x1 H5.out).mono ?_
                      rintro e x2 ⟨rfl, h6⟩
                      have h7 := (h6.noRowG ((RefT.stable _ _).both ((RowG.stable _ _ _ _ _).both ((RowG.stable _ _ _ _ _).both HR.out))) tInt 1).perm (show _ = Both (RowG tInt 1 (.slice none 0 0) 0 []) (Both (RowG tInt 1 (.slice (some ⟨gr, 0, none⟩) l'.length cr) l'.length (intsV l')) (Both (RefT rb (goneZ P.1 (l'.take (k)))) (Both (RowG tSx 1 (.slice ua L.length uc) L.length (strs L)) R))) by ac_rfl)
                      have H7 := Lib.hid h7
                      clear h6 h7 HRM H5
                      (repeat' (first | go_values | go_skip | go_guarded | go_step | go_upon | go_back | dsimp only))
                      go_loopw [17, 18] (fun vn vj wr => ∃ j : Nat, vj = .int .i64 ((k + j : Nat) : Int) ∧ k + j ≤ l'.length ∧ At W wr (Both (RowG tInt 1 vn j (intsV ((l'.drop (k)).take j))) (Both (RowG tInt 1 (.slice (some ⟨gr, 0, none⟩) l'.length cr) l'.length (intsV l')) (Both (RefT rb (goneZ P.1 (l'.take (k)))) (Both (RowG tSx 1 (.slice ua L.length uc) L.length (strs L)) R))))) (fun _ vj _ => l'.length - (intOf vj).toNat)
                      case atStart => exact ⟨0, by simp, by omega, H7.out⟩
                      case round =>
                        obtain ⟨j, rfl, hj, h8⟩ := hrel
                        clear H7
                        have hst8 : Stable (Both (RowG tInt 1 (.slice (some ⟨gr, 0, none⟩) l'.length cr) l'.length (intsV l')) (Both (RefT rb (goneZ P.1 (l'.take (k)))) (Both (RowG tSx 1 (.slice ua L.length uc) L.length (strs L)) R))) := (RowG.stable _ _ _ _ _).both ((RefT.stable _ _).both ((RowG.stable _ _ _ _ _).both HR.out))
                        have HS8 := Lib.hid hst8
                        by_cases hjl : k + j < l'.length
                        · skip
                          obtain ⟨z, hz⟩ : ∃ z, l'[k + j]? = some z := ⟨_, List.getElem?_eq_getElem hjl⟩
                          obtain ⟨cz, _, _⟩ := h8.drop.rowCell (j := k + j) (u := .int .i64 z) (by rw [intsV, List.getElem?_map, hz]; rfl)
                          have hi0 : (0 : Int) ≤ ((k + j : Nat) : Int) := by omega
                          have hi7 : ((k + j : Nat) : Int) < l'.length := by omega
                          have hwr : IntKind.i64.wrap (((k + j : Nat) : Int) + 1) = ((k + (j + 1) : Nat) : Int) := by rw [IntKind.wrap_i64] <;> omega
                          have HTK := Lib.hid (take_snoc (l := l'.drop (k)) (k := j) (x := z) (by rw [List.getElem?_drop]; exact hz))
                          have H8 := Lib.hid h8
                          obtain ⟨jj, hjj⟩ : ∃ jj, jj = k + j := ⟨_, rfl⟩
                          clear h8 hz hst8
                          (repeat' (first | (go_big_may; ((at_builtin; go_must (refine wpList_append_to rfl _ _ 23 tInt rfl Tryz.underlying23 info_int rfl (by decide) rfl (H8.out) (HS8.out) rfl (by first | rfl | simp) rfl ((by simp [Value.oneCell'])) (by unfold maxLen; omega) (by omega) ?_); intro a2 c2 w6 h6x _); have H6 := Lib.hid h6x; clear h6x)) | go_values | go_skip | go_guarded | go_step | go_upon | go_back | dsimp only))
                          go_roundw
                          case rel => exact ⟨j + 1, by go_num, by omega, by rw [HTK.out, intsV_snoc]; exact H6.out⟩
                          case measure =>
                            first
                              | (exfalso; omega)
                              | (simp [intOf]; omega)
                        · have hi7 : ¬ ((k + j : Nat) : Int) < l'.length := by omega
                          have hje : (l'.drop (k)).take j = l'.drop (k) := List.take_of_length_le (by rw [List.length_drop]; omega)
                          rw [hje] at h8
                          have hjm : j ≤ 16777216 := by omega
                          have HJ := Lib.hid (show j = (l'.drop (k)).length by rw [List.length_drop]; omega)
                          have H8 := Lib.hid h8
                          clear h8 hje hst8
                          (repeat' (first | (go_big_may; ((at_builtin; go_must (refine wpList_append_to rfl _ _ 23 tInt rfl Tryz.underlying23 info_int rfl (by decide) rfl (H8.out) (HS8.out) rfl (by first | rfl | simp) rfl ((by simp [Value.oneCell'])) (by unfold maxLen; omega) (by omega) ?_); intro a2 c2 w6 h6x _); have H6 := Lib.hid h6x; clear h6x)) | go_values | go_skip | go_guarded | go_step | go_upon | go_back | dsimp only))
                          go_roundw
                          case rel => exact ⟨m, _, _, HQ.out.1, HQ.out.2, by simp, by rw [List.length_append, List.length_drop, List.length_singleton]; omega, HRR.out, by
                            have h9 := H6.out
                            have e2 : j + 1 = (l'.drop (k) ++ [(P.2.1 : Int)]).length := by rw [List.length_append, ← HJ.out]; rfl
                            rw [← e2, intsV_snoc]
                            have h10 : At W _ (Both (RowG tInt 1 (.slice a2 (j + 1) c2) (j + 1) (intsV (l'.drop (k)) ++ [Value.int .i64 (P.2.1 : Int)])) _) := h9
                            exact (h10.perm (show _ = Both (RowG tInt 1 (.slice (some ⟨gr, 0, none⟩) l'.length cr) l'.length (intsV l')) (Both (RowG tSx 1 (.slice ua L.length uc) L.length (strs L)) (Both (RowG tInt 1 (.slice a2 (j + 1) c2) (j + 1) (intsV (l'.drop (k)) ++ [Value.int .i64 (P.2.1 : Int)])) (Both (RefT rb (goneZ P.1 (l'.take (k)))) R))) by ac_rfl)).drop.drop⟩
                          case measure =>
                            show j + 1 < l'.length
                            omega
                    · rw [if_pos (by simpa using hz)] at hr
                      have hzq : ((P.2.2 : Int) != 0) = true := by simp; omega
                      have hrm := fun (w' : World) (h' : At W w' (Both (RefT rb P.1) (Both (RowG tSx 1 (.slice ua L.length uc) L.length (strs L)) (Both (RowG tInt 1 (.slice (some ⟨gr, 0, none⟩) l'.length cr) l'.length (intsV l')) R)))) => rremove_at (l := l') (v := .slice (some ⟨gr, 0, none⟩) l'.length cr) h' ((RowG.stable _ _ _ _ _).both ((RowG.stable _ _ _ _ _).both HR.out)) (HGB.out l').1 HZ.out (by omega) ⟨_, _, rfl⟩ (fun w' h' => RdRow.of_own h'.drop.rowG)
                      have HW := Lib.hid hw
                      have HRM := Lib.hid hrm
                      have HRR := Lib.hid hr
                      clear hw hrm hr hz
                      (repeat' (first | go_values | go_skip | go_guarded | go_step | go_upon | go_back | dsimp only))
                      refine HW.out.mono ?_
                      rintro e x1 ⟨rfl, h5⟩
                      have H5 := Lib.hid h5
                      clear h5 HW
                      (repeat' (first | go_values | go_skip | go_guarded | go_step | go_upon | go_back | dsimp only))
                      refine (HRM.out x1 H5.out).mono ?_
                      rintro e x2 ⟨rfl, h6⟩
                      have H6 := Lib.hid h6
                      clear h6 HRM H5
                      (repeat' (first | go_values | go_skip | go_guarded | go_step | go_upon | go_back | dsimp only))
                      go_ret2
                      rw [HRR.out]
                      exact ⟨rfl, (H6.out.perm (show _ = Both (RowG tSx 1 (.slice ua L.length uc) L.length (strs L)) (Both (RowG tInt 1 (.slice (some ⟨gr, 0, none⟩) l'.length cr) l'.length (intsV l')) (Both (RefT rb (goneZ P.1 l')) R)) by ac_rfl)).drop.drop⟩
  · rw [mergeP_look hfl hl0]
    have HLK := Lib.hid hlk
    have hq : ((lookP S [] l : Int) != 0) = true := by simp; omega
    clear h hR hG hz hrd hst hlk hl0 hfl
    go_enter Tryz.func51, Tryz.ntmps51
    (repeat' (first | go_values | go_skip | go_guarded | go_step | go_upon | go_back | dsimp only))
    refine HLK.out.mono ?_
    rintro e w1 ⟨rfl, hb⟩
    have H1 := Lib.hid (H.out.mono HST.out hb)
    clear hb HLK
    (repeat' (first | go_values | go_skip | go_guarded | go_step | go_upon | go_back | dsimp only))
    go_ret2
    exact ⟨rfl, H1.out⟩
end
section
variable {W w : World} {R : Thing} {rb : Nat} {S : St} {ws : List (List UInt8)} {v : Value}
set_option maxRecDepth 100000 in
set_option maxHeartbeats 6400000 in
theorem rSort_at (h : At W w (Both (RefT rb S) R)) (hR : Stable R) (hG : GoodS S) {bu fan : Int} (hb64 : inI64 bu) (hf64 : inI64 fan) (hv : ∃ ao cp, v = .slice ao ws.length cp ∧ ws.length ≤ 1099511627776) (hx : ∀ x ∈ ws, x.length ≤ 1099511627776) (hrd : ∀ w', At W w' R → RdRow w' v ws.length 1 (strs ws)) :
    Calls Tryz.prog 24 #[.pointer (some ⟨rb, 0, none⟩), .int .i64 bu, .int .i64 fan, v] w fun e w' => e = .returned (.tuple #[.int .i64 (sortP S bu fan ws).2.1, .int .i64 (sortP S bu fan ws).2.2]) ∧ At W w' (Both (RefT rb (sortP S bu fan ws).1) R) := by
  have hst := (RefT.stable rb S).both hR
  have H := Lib.hid h
  by_cases hbl : bu < 1 ∨ 65536 < bu
  · rw [sortP_lim (by omega)]
    have HFN := Lib.hid (rFNew_no (w := w) hbl)
    clear h hR hG hb64 hf64 hv hx hrd hst hbl
    go_enter Tryz.func24, Tryz.ntmps24
    (repeat' (first | go_values | go_skip | go_guarded | go_step | go_upon | go_back | dsimp only))
    refine HFN.out.mono ?_
    rintro e w1 ⟨rfl, rfl⟩
    (repeat' (first | go_values | go_skip | go_guarded | go_step | go_upon | go_back | dsimp only))
    go_ret2
    exact ⟨rfl, H.out⟩
  · obtain ⟨bn, hbn⟩ : ∃ bn : Nat, bu = bn := ⟨bu.toNat, by omega⟩
    subst hbn
    have hbn2 : 1 ≤ bn ∧ bn ≤ 65536 := by omega
    have HFN := Lib.hid (rFNew_at h hst hbn2)
    by_cases hf1 : fan < 2
    · rw [sortP_lim (by omega)]
      clear h hR hG hb64 hf64 hv hx hrd hst hbl hbn2
      go_enter Tryz.func24, Tryz.ntmps24
      (repeat' (first | go_values | go_skip | go_guarded | go_step | go_upon | go_back | dsimp only))
      refine HFN.out.mono ?_
      rintro e w1 ⟨k, rfl, h1⟩
      have H1 := Lib.hid h1.drop
      clear h1 HFN
      (repeat' (first | go_values | go_skip | go_guarded | go_step | go_upon | go_back | dsimp only))
      go_ret2
      exact ⟨rfl, H1.out⟩
    by_cases hf2 : 64 < fan
    · rw [sortP_lim (by omega)]
      clear h hR hG hb64 hf64 hv hx hrd hst hbl hbn2
      go_enter Tryz.func24, Tryz.ntmps24
      (repeat' (first | go_values | go_skip | go_guarded | go_step | go_upon | go_back | dsimp only))
      refine HFN.out.mono ?_
      rintro e w1 ⟨k, rfl, h1⟩
      have H1 := Lib.hid h1.drop
      clear h1 HFN
      (repeat' (first | go_values | go_skip | go_guarded | go_step | go_upon | go_back | dsimp only))
      go_ret2
      exact ⟨rfl, H1.out⟩
    have hlim : ¬ ((bn : Int) < 1 ∨ 65536 < (bn : Int) ∨ fan < 2 ∨ 64 < fan) := by omega
    have hO : FOk S (newF bn) := newF_ok S hbn2
    have had := fun (k : Nat) (w1 : World) (h1 : At W w1 (Both (RfT k (newF bn)) (Both (RefT rb S) R))) => rAdd_at (ws := ws) (v := v) h1 hR hG trivial hO hv hx hrd
    obtain ⟨k1, hc1, hc2⟩ := addP_keep hG trivial hO ws
    obtain ⟨A, hA⟩ : ∃ A, A = addP S (newF bn) ws := ⟨_, rfl⟩
    have HAE := Lib.hid (show addP S (newF (bn : Int).toNat) ws = A by rw [hA]; rfl)
    rw [← hA] at had k1
    by_cases hz : A.2.2 = 0
    · rw [hz, show ((0 : Nat) : Int) = 0 from rfl] at had
      have hfi := fun (k : Nat) (w1 : World) (h1 : At W w1 (Both (RfT k A.2.1) (Both (RefT rb A.1) R))) => rFinish_row h1 hR k1.good trivial k1.ok
      obtain ⟨k2, hc3, hc4⟩ := finishP_keep k1.good trivial k1.ok
      obtain ⟨Q, hQ⟩ : ∃ Q, Q = finishP A.1 A.2.1 := ⟨_, rfl⟩
      rw [← hQ] at hfi k2 hc4
      have HAD := Lib.hid had
      by_cases hq : Q.2.2.2 = 0
      · rw [sortP_go hlim HAE.out hz hQ.symm hq]
        rw [hq, show ((0 : Nat) : Int) = 0 from rfl] at hfi
        have hmm : ∀ z ∈ mz Q.2.2.1, inI64 z := fun z hz => by
          obtain ⟨n, hn, rfl⟩ := List.mem_map.1 hz
          have h1 := hc4 n hn
          have h2 := k2.good.sizes.2.2.2.1
          unfold inI64; omega
        have hml : Q.2.2.1.length ≤ 1099511627776 := by
          have h1 := k2.ok.few
          have h2 := k2.good.sizes.2.2.2.1
          have h3 : Q.2.2.1.length ≤ Q.2.1.made.length := by
            rw [hQ]
            exact finish_len A.1 A.2.1
          omega
        have hmg := fun (w1 : World) (v1 : Value) (Ψ : Thing) (hs : Stable Ψ) (hr : ∀ (X : Thing) (w'' : World), At W w'' (Both Ψ X) → RdRow w'' v1 (mz Q.2.2.1).length 1 (intsV (mz Q.2.2.1))) (h1 : At W w1 (Both Ψ (Both (RefT rb Q.1) R))) =>
          rMerge_at (l := mz Q.2.2.1) (v := v1) (fan := fan) (h1.perm (show _ = Both (RefT rb Q.1) (Both Ψ R) by ac_rfl)) (hs.both hR) k2.good hmm (by simpa [mz] using hml) hf64 (by obtain ⟨ao, cp, hv, _⟩ := (hr _ _ h1).shape; exact ⟨ao, cp, hv⟩) (fun w' h' => hr _ _ h')
        have HFI := Lib.hid hfi
        have HMG := Lib.hid hmg
        generalize mergeP Q.1 fan (mz Q.2.2.1) = M at *
        clear h hR hG hb64 hf64 hv hx hrd hst hbl hbn2 hlim hO had k1 hc1 hc2 hA hz hfi k2 hc3 hc4 hQ hq hmm hml hmg HAE
        go_enter Tryz.func24, Tryz.ntmps24
        (repeat' (first | go_values | go_skip | go_guarded | go_step | go_upon | go_back | dsimp only))
        refine HFN.out.mono ?_
        rintro e w1 ⟨k, rfl, h1⟩
        have H1 := Lib.hid h1
        clear h1 HFN
        (repeat' (first | go_values | go_skip | go_guarded | go_step | go_upon | go_back | dsimp only))
        refine (HAD.out k _ H1.out).mono ?_
        rintro e w3 ⟨rfl, h3⟩
        have H3 := Lib.hid h3
        clear h3 HAD H1
        (repeat' (first | go_values | go_skip | go_guarded | go_step | go_upon | go_back | dsimp only))
        refine (HFI.out k w3 H3.out).mono ?_
        rintro e w4 ⟨v4, Ψ, rfl, hs4, hr4, h4⟩
        have HM2 := Lib.hid (HMG.out w4 v4 Ψ hs4 hr4 h4)
        clear h4 HFI H3 hs4 hr4 HMG
        (repeat' (first | go_values | go_skip | go_guarded | go_step | go_upon | go_back | dsimp only))
        refine HM2.out.mono ?_
        rintro e w5 ⟨rfl, h5⟩
        have H5 := Lib.hid (h5.perm (show _ = Both Ψ (Both (RefT rb M.1) R) by ac_rfl))
        clear h5 HM2
        (repeat' (first | go_values | go_skip | go_guarded | go_step | go_upon | go_back | dsimp only))
        go_ret2
        exact ⟨rfl, H5.out.drop⟩
      · rw [sortP_fin hlim HAE.out hz hQ.symm hq]
        dsimp only
        have hzq : ((Q.2.2.2 : Int) != 0) = true := by simp; omega
        have HFI := Lib.hid hfi
        clear h hR hG hb64 hf64 hv hx hrd hst hbl hbn2 hlim hO had k1 hc1 hc2 hA hz hfi k2 hc3 hc4 hQ hq HAE
        go_enter Tryz.func24, Tryz.ntmps24
        (repeat' (first | go_values | go_skip | go_guarded | go_step | go_upon | go_back | dsimp only))
        refine HFN.out.mono ?_
        rintro e w1 ⟨k, rfl, h1⟩
        have H1 := Lib.hid h1
        clear h1 HFN
        (repeat' (first | go_values | go_skip | go_guarded | go_step | go_upon | go_back | dsimp only))
        refine (HAD.out k _ H1.out).mono ?_
        rintro e w3 ⟨rfl, h3⟩
        have H3 := Lib.hid h3
        clear h3 HAD H1
        (repeat' (first | go_values | go_skip | go_guarded | go_step | go_upon | go_back | dsimp only))
        refine (HFI.out k w3 H3.out).mono ?_
        rintro e w4 ⟨v4, Ψ, rfl, hs4, hr4, h4⟩
        have H4 := Lib.hid h4
        clear h4 HFI H3 hs4 hr4
        (repeat' (first | go_values | go_skip | go_guarded | go_step | go_upon | go_back | dsimp only))
        go_ret2
        exact ⟨rfl, H4.out.drop⟩
    · rw [sortP_add hlim HAE.out hz]
      dsimp only
      have hzq : ((A.2.2 : Int) != 0) = true := by simp; omega
      have HAD := Lib.hid had
      clear h hR hG hb64 hf64 hv hx hrd hst hbl hbn2 hlim hO had k1 hc1 hc2 hA hz HAE
      go_enter Tryz.func24, Tryz.ntmps24
      (repeat' (first | go_values | go_skip | go_guarded | go_step | go_upon | go_back | dsimp only))
      refine HFN.out.mono ?_
      rintro e w1 ⟨k, rfl, h1⟩
      have H1 := Lib.hid h1
      clear h1 HFN
      (repeat' (first | go_values | go_skip | go_guarded | go_step | go_upon | go_back | dsimp only))
      refine (HAD.out k _ H1.out).mono ?_
      rintro e w3 ⟨rfl, h3⟩
      have H3 := Lib.hid h3
      clear h3 HAD H1
      (repeat' (first | go_values | go_skip | go_guarded | go_step | go_upon | go_back | dsimp only))
      go_ret2
      exact ⟨rfl, H3.out.drop⟩
end
theorem bulk_eachM {ss : List (List UInt8)} (h : ss.length + sumLen ss ≤ 1048576) : ss.length ≤ 1048576 ∧ ∀ x ∈ ss, x.length ≤ 1048576 := by
  refine ⟨by omega, fun x hx => ?_⟩
  have key : ∀ l : List (List UInt8), x ∈ l → x.length ≤ sumLen l := by
    intro l
    induction l with
    | nil => intro h; cases h
    | cons a l ih =>
      intro h
      have e : sumLen (a :: l) = a.length + sumLen l := by simp [sumLen]
      rw [e]
      rcases List.mem_cons.1 h with rfl | h
      · omega
      · have := ih h; omega
  have := key ss hx
  omega
end Go.Proofs.YtadokkffmekndaaGreatDoor
