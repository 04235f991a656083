/- hornbookref10: Merge walked. · hornbookref10: Sort walked. · MergeSorts, MergeSame, MergeAgain: what a sort leaves in a store with room; no program in sight. · The law MergeLost walked. -/
import Derived.Test.YtadokkffmekndaaGreatDoorBuMgLoLaw49
import Derived.Test.YtadokkffmekndaaGreatDoorBuMgLoLaw51
import Derived.Test.YtadokkffmekndaaGreatDoorBuMgLoLaw45
import Derived.Test.YtadokkffmekndaaGreatDoorBuMgLoLaw35
import Derived.Test.YtadokkffmekndaaGreatDoorBuMgLoLaw46
import Derived.Test.YtadokkffmekndaaGreatDoorBuMgLoLaw43
import Derived.Test.YtadokkffmekndaaGreatDoorBuMgLoLaw12
import Derived.Deep.DeepCutAuto
set_option linter.unusedSimpArgs false
set_option linter.unusedVariables false
namespace Go.Proofs.YtadokkffmekndaaGreatDoor
open Go.RowKit
theorem ofL_merge (A : List (List UInt8)) {X : List (List UInt8)} (hX : RisesL X) : mergeL (ofL A) X = ofL (A ++ X) :=
  RisesL.ext (mergeL_rises (ofL_rises A) hX) (ofL_rises _) fun x => by rw [mergeL_mem, ofL_mem, ofL_mem, List.mem_append]
section
variable {W w : World} {R : Thing} {rb : Nat} {S : St} {l : List Int} {v : Value}
theorem stands_rises (S : St) (z : Int) : RisesL (standsP S z) := risB_rises _ _
theorem stands_few {S : St} (hG : GoodS S) (z : Int) : (standsP S z).length ≤ 67108864 := by
  have h1 : (standsP S z).length ≤ (headsL (readT S z 0 (sizeN S z : Nat))).1.length := risB_len _ _
  have h2 := headsL_len (readT S z 0 (sizeN S z : Nat))
  have h3 := readT_few hG z 0 (sizeN S z : Nat)
  omega
theorem stands_few2 {S : St} (hG : GoodS S) : ∀ (l : List Int), (l.map (standsP S)).flatten.length ≤ l.length * 67108864
  | [] => by simp
  | z :: l => by
    have := stands_few2 hG l
    have := stands_few hG z
    rw [List.map_cons, List.flatten_cons, List.length_append, List.length_cons]
    omega
theorem intsV_snoc (l : List Int) (z : Int) : intsV (l ++ [z]) = intsV l ++ [Value.int .i64 z] := by simp [intsV]
theorem used_filter (n : Nat) : ∀ (rs : List (Nat × RunD)), usedOf (rs.filter fun q => q.1 != n) ≤ usedOf rs
  | [] => by simp [usedOf]
  | q :: rs => by
    have ih := used_filter n rs
    rw [List.filter_cons]
    split
    · rw [usedOf_cons, usedOf_cons]; omega
    · rw [usedOf_cons]; omega
theorem used_split {p : Nat × RunD} : ∀ (rs : List (Nat × RunD)), p ∈ rs → p.2.text.length + usedOf (rs.filter fun q => q.1 != p.1) ≤ usedOf rs
  | [], h => by cases h
  | q :: rs, h => by
    rcases List.mem_cons.1 h with rfl | h
    · have := used_filter p.1 rs
      rw [List.filter_cons, if_neg (by simp), usedOf_cons]
      omega
    · have ih := used_split rs h
      rw [List.filter_cons]
      split
      · rw [usedOf_cons, usedOf_cons]; omega
      · rw [usedOf_cons]; omega
theorem sum_used (f : Int → Nat) : ∀ (l : List Int) (rs : List (Nat × RunD)), l.Nodup → (∀ z ∈ l, ∃ (n : Nat) (T : List UInt8), z = (n : Int) ∧ (n, (⟨T, true⟩ : RunD)) ∈ rs ∧ f z ≤ T.length) → (l.map f).sum ≤ usedOf rs
  | [], rs, _, _ => by simp
  | z :: l, rs, hn, h => by
    obtain ⟨n, T, rfl, h1, h2⟩ := h z List.mem_cons_self
    have h3 := used_split rs h1
    have hn' := List.nodup_cons.1 hn
    have ih := sum_used f l (rs.filter fun q => q.1 != n) hn'.2 (fun y hy => by
      obtain ⟨k, U, rfl, h4, h5⟩ := h y (List.mem_cons_of_mem _ hy)
      refine ⟨k, U, rfl, List.mem_filter.2 ⟨h4, ?_⟩, h5⟩
      have : k ≠ n := fun e => hn'.1 (e ▸ hy)
      simpa using this)
    rw [List.map_cons, List.sum_cons]
    dsimp only at h3
    omega
theorem flat_len : ∀ (l : List (List (List UInt8))), l.flatten.length = (l.map List.length).sum
  | [] => rfl
  | a :: l => by rw [List.flatten_cons, List.length_append, List.map_cons, List.sum_cons, flat_len l]
theorem all_few {S : St} (hG : GoodS S) {l : List Int} (hl : LokP S l) : (allP S l).length ≤ 67108864 := by
  have h1 : (allP S l).length ≤ (l.map (standsP S)).flatten.length := ofL_len _
  rw [flat_len, List.map_map] at h1
  have h2 := sum_used (List.length ∘ standsP S) l S.runs hl.1 (fun z hz => by
    obtain ⟨n, T, rfl, hm⟩ := hl.2 z hz
    refine ⟨n, T, rfl, hm, ?_⟩
    have e := stands_has (hasT_of hG hm)
    show (standsP S (n : Int)).length ≤ _
    rw [e]
    exact Nat.le_trans (risB_len _ _) (headsL_len T))
  have h3 := hG.used
  have h4 := hG.sizes
  omega
set_option maxRecDepth 100000 in
set_option maxHeartbeats 12800000 in
theorem rMerge_at (h : At W w (Both (RefT rb S) R)) (hR : Stable R) (hG : GoodS S) (hz : ∀ z ∈ l, inI64 z) (hlen : l.length ≤ 1099511627776) {fan : Int} (hf64 : inI64 fan) (hv : ∃ ao cp, v = .slice ao l.length cp) (hrd : ∀ w', At W w' R → RdRow w' v l.length 1 (intsV l)) :
    Calls Tryz.prog 51 #[.pointer (some ⟨rb, 0, none⟩), .int .i64 fan, v] w fun e w' => e = .returned (.tuple #[.int .i64 (mergeP S fan l).2.1, .int .i64 (mergeP S fan l).2.2]) ∧ At W w' (Both (RefT rb (mergeP S fan l).1) R) := by
  have hst := (RefT.stable rb S).both hR
  have hlk := rLook_at h hR hG hz hlen (hrd w h.drop)
  obtain ⟨av, cv, rfl⟩ := hv
  have H := Lib.hid h
  have HST := Lib.hid hst
  by_cases hf1 : fan < 2
  · rw [mergeP_lim (.inl hf1)]
    clear h hR hG hz hrd hst hlk
    go_enter Tryz.func51, Tryz.ntmps51
    (repeat' (first | go_values | go_skip | go_guarded | go_step | go_upon | go_back | dsimp only))
    go_ret2
    exact ⟨rfl, H.out⟩
  by_cases hf2 : 64 < fan
  · rw [mergeP_lim (.inr hf2)]
    clear h hR hG hz hrd hst hlk
    go_enter Tryz.func51, Tryz.ntmps51
    (repeat' (first | go_values | go_skip | go_guarded | go_step | go_upon | go_back | dsimp only))
    go_ret2
    exact ⟨rfl, H.out⟩
  have hfl : ¬ (fan < 2 ∨ 64 < fan) := by omega
  by_cases hl0 : lookP S [] l = 0
  · rw [mergeP_ok hfl hl0]
    rw [hl0, show ((0 : Nat) : Int) = 0 from rfl] at hlk
    have HLK := Lib.hid hlk
    have hll := look_lok hl0
    have hfew := hll.few hG
    by_cases hn : l = []
    · subst hn
      unfold mergedP
      rw [if_pos rfl]
      have hwr := fun (w' : World) (h' : At W w' (Both (RefT rb S) R)) => rWritten_at (L := []) (v := .slice none 0 0) h' hR hG (fun w' _ => ⟨rfl, none, 0, rfl, Nat.le_refl _, by simp [maxLen], fun j u hu => by simp [strs] at hu⟩) rfl (by simp [frameL])
      have HWR := Lib.hid hwr
      clear h hR hG hz hrd hst hlk hl0 hll hwr hfl
      go_enter Tryz.func51, Tryz.ntmps51
      (repeat' (first | go_values | go_skip | go_guarded | go_step | go_upon | go_back | dsimp only))
      refine HLK.out.mono ?_
      rintro e w1 ⟨rfl, hb⟩
      have H1 := Lib.hid (H.out.mono HST.out hb)
      clear hb HLK
      (repeat' (first | go_values | go_skip | go_guarded | go_step | go_upon | go_back | dsimp only))
      refine (HWR.out w1 H1.out).mono ?_
      rintro e w2 ⟨rfl, h2⟩
      have H2 := Lib.hid h2
      clear h2 HWR H1
      (repeat' (first | go_values | go_skip | go_guarded | go_step | go_upon | go_back | dsimp only))
      go_ret2
      exact ⟨rfl, H2.out⟩
    · obtain ⟨res, hres⟩ : ∃ res, res = mergedP S fan l := ⟨_, rfl⟩
      rw [← hres]
      unfold mergedP at hres
      rw [if_neg hn] at hres
      have hl1 : 1 ≤ l.length := List.length_pos_iff.2 hn
      have hne : ((l.length : Int) == 0) = false := by simp; exact hn
      have HRES := Lib.hid hres
      have HLL := Lib.hid hll
      have HG := Lib.hid hG
      have HR := Lib.hid hR
      have HRD := Lib.hid hrd
      clear h hR hG hz hrd hst hlk hl0 hll hfl hres hn
      go_enter Tryz.func51, Tryz.ntmps51
      (repeat' (first | go_values | go_skip | go_guarded | go_step | go_upon | go_back | dsimp only))
      refine HLK.out.mono ?_
      rintro e w1 ⟨rfl, hb⟩
      have H1 := Lib.hid ((H.out.mono HST.out hb).noRowG HST.out tInt 1)
      clear hb HLK
      (repeat' (first | go_values | go_skip | go_guarded | go_step | go_upon | go_back | dsimp only))
      -- the list is copied
      go_loopw [9, 10] (fun v9 vi wr => ∃ k : Nat, vi = .int .i64 k ∧ k ≤ l.length ∧ At W wr (Both (RowG tInt 1 v9 k (intsV (l.take k))) (Both (RefT rb S) R))) (fun _ vi _ => l.length - (intOf vi).toNat)
      case atStart => exact ⟨0, rfl, Nat.zero_le _, H1.out⟩
      case round =>
        obtain ⟨k, rfl, hk, h2⟩ := hrel
        clear H1
        by_cases hlt : k < l.length
        · obtain ⟨y, hy⟩ : ∃ y, l[k]? = some y := ⟨_, List.getElem?_eq_getElem hlt⟩
          obtain ⟨gb, off, cp, hsl, hcell⟩ := (HRD.out _ h2.drop.drop).intA hy
          simp only [Value.slice.injEq] at hsl
          obtain ⟨hao, _, hcv⟩ := hsl
          subst hao
          subst hcv
          have hi0 : (0 : Int) ≤ k := by omega
          have hi1 : (k : Int) < l.length := by omega
          have hwr : IntKind.i64.wrap ((k : Int) + 1) = ((k + 1 : Nat) : Int) := by rw [IntKind.wrap_i64] <;> omega
          have H2 := Lib.hid h2
          have HTK := Lib.hid (take_snoc hy)
          clear h2 hy
          (repeat' (first | (go_big_may; ((at_builtin; go_must (refine wpList_append_to rfl _ _ 23 tInt rfl Tryz.underlying23 info_int rfl (by decide) rfl (H2.out) (HST.out) rfl (by first | rfl | simp) rfl ((by simp [Value.oneCell'])) (by unfold maxLen; omega) (by omega) ?_); intro a2 c2 w6 h6x _); have H6 := Lib.hid h6x; clear h6x)) | go_values | go_skip | go_guarded | go_step | go_upon | go_back | dsimp only))
          go_roundw
          case rel => exact ⟨k + 1, by go_num, hlt, by have := H6.out; rw [HTK.out]; simpa [intsV] using this⟩
          case measure => simp [intOf]; omega
        · have hi1 : ¬ (k : Int) < l.length := by omega
          obtain rfl : k = l.length := by omega
          rw [List.take_length] at h2
          have H2 := Lib.hid h2
          clear h2
          (repeat' (first | go_values | go_skip | go_guarded | go_step | go_upon | go_back | dsimp only))
          go_loopw [9] (fun v9 wr => ∃ (n : Nat) (S' : St) (l' : List Int), GoodS S' ∧ LokP S' l' ∧ 1 ≤ l'.length ∧ l'.length ≤ n ∧ res = loopM fan.toNat n S' l' ∧ At W wr (Both (RowG tInt 1 v9 l'.length (intsV l')) (Both (RefT rb S') R))) (fun v9 _ => sliN v9)
          case atStart => exact ⟨l.length, S, l, HG.out, HLL.out, hl1, Nat.le_refl _, HRES.out, H2.out⟩
          case round =>
            obtain ⟨n, S', l', hg', hl', hp', hn', hr', h3⟩ := hrel
            clear H2 HG HLL HRES hne hl1 hfew
            have hfew := hl'.few hg'
            obtain ⟨gr, cr, hv9, _, hcr1, hcr2⟩ := own_cut h3.rowG hp'
            subst hv9
            unfold maxLen at hcr2
            obtain ⟨m, rfl⟩ : ∃ m, n = m + 1 := ⟨n - 1, by omega⟩
            rw [loopM] at hr'
            by_cases hlt : l'.length ≤ 1
            · rw [if_pos hlt] at hr'
              have hi9 : ¬ (1 : Int) < l'.length := by omega
              obtain ⟨z, hz⟩ : ∃ z, l'[0]? = some z := ⟨_, List.getElem?_eq_getElem (by omega)⟩
              have hz2 : l'.getD 0 0 = z := by rw [List.getD_eq_getElem?_getD, hz]; rfl
              rw [hz2] at hr'
              obtain ⟨c0, _, _⟩ := h3.rowCell (j := 0) (u := .int .i64 z) (by simp [intsV, hz])
              have hp0 : (0 : Int) < l'.length := by omega
              have HRR := Lib.hid hr'
              have H3 := Lib.hid h3
              clear hr' h3 hg' hl' hz hz2
              (repeat' (first | go_values | go_skip | go_guarded | go_step | go_upon | go_back | dsimp only))
              go_ret2
              rw [HRR.out]
              exact ⟨rfl, H3.out.drop⟩
            · rw [if_neg hlt] at hr'
              have hi9 : (1 : Int) < l'.length := by omega
              obtain ⟨k, hk⟩ : ∃ k, k = min fan.toNat l'.length := ⟨_, rfl⟩
              have hk2 : 2 ≤ k ∧ k ≤ 64 ∧ k ≤ l'.length := by omega
              have htk : l'.take fan.toNat = l'.take k := by
                rcases Nat.le_total fan.toNat l'.length with h | h
                · rw [hk, Nat.min_eq_left h]
                · rw [hk, Nat.min_eq_right h, List.take_length, List.take_of_length_le h]
              have hdk : l'.drop fan.toNat = l'.drop k := by
                rcases Nat.le_total fan.toNat l'.length with h | h
                · rw [hk, Nat.min_eq_left h]
                · rw [hk, Nat.min_eq_right h, List.drop_length, List.drop_of_length_le h]
              rw [htk, hdk] at hr'
              have H3 := Lib.hid h3
              have HG := Lib.hid hg'
              have HL := Lib.hid hl'
              have HRR := Lib.hid hr'
              have HST3 := Lib.hid ((RowG.stable tInt 1 (.slice (some ⟨gr, 0, none⟩) l'.length cr) l'.length (intsV l')).both ((RefT.stable rb S').both HR.out))
              have hks : (l'.length < fan ∧ k = l'.length) ∨ (¬ (l'.length : Int) < fan ∧ (k : Int) = fan) := by omega
              have HE := Lib.hid (h3.noRowG HST3.out tSx 1)
              clear h3 hg' hl' hr' htk hdk hk
              rcases hks with ⟨hk3, hk4⟩ | ⟨hk3, hk4⟩
              · subst hk4
                (repeat' (first | go_values | go_skip | go_guarded | go_step | go_upon | go_back | dsimp only))
                go_loopw [12, 13] (fun va vi wr => ∃ i : Nat, vi = .int .i64 i ∧ i ≤ l'.length ∧ At W wr (Both (RowG tSx 1 va (allP S' (l'.take i)).length (strs (allP S' (l'.take i)))) (Both (RowG tInt 1 (.slice (some ⟨gr, 0, none⟩) l'.length cr) l'.length (intsV l')) (Both (RefT rb S') R)))) (fun _ vi _ => l'.length - (intOf vi).toNat)
                case atStart => exact ⟨0, rfl, Nat.zero_le _, by
                  have e : allP S' (l'.take 0) = [] := ofL_nil
                  rw [e]
                  exact HE.out⟩
                case round =>
                  obtain ⟨i, rfl, hi, h4⟩ := hrel
                  clear HE
                  obtain ⟨ua, uc, hua, _, _⟩ := own_shape h4.rowG
                  subst hua
                  by_cases hik : i < l'.length
                  · obtain ⟨z, hz⟩ : ∃ z, l'[i]? = some z := ⟨_, List.getElem?_eq_getElem (by omega)⟩
                    obtain ⟨cz, _, _⟩ := h4.drop.rowCell (j := i) (u := .int .i64 z) (by simp [intsV, hz])
                    have hi0 : (0 : Int) ≤ i := by omega
                    have hi7 : (i : Int) < l'.length := by omega
                    have hi8 : (i : Int) < (l'.length : Nat) := by omega
                    have hwr : IntKind.i64.wrap ((i : Int) + 1) = ((i + 1 : Nat) : Int) := by rw [IntKind.wrap_i64] <;> omega
                    have hst4 : Stable (Both (RowG tSx 1 (.slice ua (allP S' (l'.take i)).length uc) (allP S' (l'.take i)).length (strs (allP S' (l'.take i)))) (Both (RowG tInt 1 (.slice (some ⟨gr, 0, none⟩) l'.length cr) l'.length (intsV l')) (Both (RefT rb S') R))) := (RowG.stable _ _ _ _ _).both HST3.out
                    have hsn := rStands_at (h4.perm (show _ = Both (RefT rb S') (Both (RowG tSx 1 (.slice ua (allP S' (l'.take i)).length uc) (allP S' (l'.take i)).length (strs (allP S' (l'.take i)))) (Both (RowG tInt 1 (.slice (some ⟨gr, 0, none⟩) l'.length cr) l'.length (intsV l')) R)) by ac_rfl)) HG.out (HL.out.z64 HG.out z (List.mem_of_getElem? hz))
                    have hmg : mergeL (allP S' (l'.take i)) (standsP S' z) = allP S' (l'.take (i + 1)) := by
                      unfold allP
                      rw [ofL_merge _ (stands_rises S' z), take_snoc hz]
                      simp
                    have hfw : (allP S' (l'.take i)).length + (standsP S' z).length ≤ 1099511627776 := by
                      have h1 : (allP S' (l'.take i)).length ≤ ((l'.take i).map (standsP S')).flatten.length := ofL_len _
                      have h2 := stands_few2 HG.out (l'.take i)
                      have h3 := stands_few HG.out z
                      rw [List.length_take] at h2
                      omega
                    have HSN := Lib.hid hsn
                    have HMG := Lib.hid hmg
                    have HFW := Lib.hid hfw
                    have H4 := Lib.hid h4
                    have HS4 := Lib.hid hst4
                    clear hsn hmg hfw h4 hst4 hz
                    (repeat' (first | go_values | go_skip | go_guarded | go_step | go_upon | go_back | dsimp only))
                    refine HSN.out.mono ?_
                    rintro e x1 ⟨v1, rfl, ho, hb⟩
                    have h5 := H4.out.newRowG HS4.out hb ho
                    have hun := RUnion_calls (RdRow.of_own h5.drop.rowG) (RdRow.of_own h5.rowG) HFW.out
                    rw [HMG.out] at hun
                    have HUN := Lib.hid hun
                    have HS5 := Lib.hid ((RowG.stable tSx 1 v1 (standsP S' z).length (strs (standsP S' z))).both HS4.out)
                    have H5 := Lib.hid h5
                    clear ho hb h5 hun HSN H4
                    (repeat' (first | go_values | go_skip | go_guarded | go_step | go_upon | go_back | dsimp only))
                    refine HUN.out.mono ?_
                    rintro e x2 ⟨vo, rfl, h6q⟩
                    have h6 := At.glue H5.out HS5.out h6q
                    have H6 := Lib.hid (h6.perm (show _ = Both (RowG tSx 1 v1 (standsP S' z).length (strs (standsP S' z))) (Both (RowG tSx 1 (.slice ua (allP S' (l'.take i)).length uc) (allP S' (l'.take i)).length (strs (allP S' (l'.take i)))) (Both (RowG tSt 1 vo (allP S' (l'.take (i + 1))).length (strs (allP S' (l'.take (i + 1))))) (Both (RowG tInt 1 (.slice (some ⟨gr, 0, none⟩) l'.length cr) l'.length (intsV l')) (Both (RefT rb S') R)))) by ac_rfl)).drop.drop
                    clear h6q h6 HUN H5
                    (repeat' (first | go_values | go_skip | go_guarded | go_step | go_upon | go_back | dsimp only))
                    go_roundw
                    case rel => exact ⟨i + 1, rfl, hik, H6.out⟩
                    case measure => simp [intOf]; omega
                  · have hi8 : ¬ (i : Int) < (l'.length : Nat) := by omega
                    have hie : l'.length = i := by omega
                    subst hie
                    have hLf := allP_fits S' (l'.take (l'.length))
                    have hLa := all_few HG.out (HL.out.take (l'.length))
                    have hrd' := HL.out.round HG.out (l'.length)
                    have hgb := LokP.bad HG.out (l'.take (l'.length))
                    generalize allP S' (l'.take (l'.length)) = L at *
                    have hw := rWritten_at (L := L) (v := .slice ua L.length uc) (h4.perm (show _ = Both (RefT rb S') (Both (RowG tSx 1 (.slice ua L.length uc) L.length (strs L)) (Both (RowG tInt 1 (.slice (some ⟨gr, 0, none⟩) l'.length cr) l'.length (intsV l')) R)) by ac_rfl)) ((RowG.stable _ _ _ _ _).both ((RowG.stable _ _ _ _ _).both HR.out)) HG.out (fun w' h' => RdRow.of_own h'.rowG) hLf (by
                      have h0 := frame_wsum (L := L) hLf
                      have h1 := wsum_fit (L := L) hLf
                      omega)
                    have hr := HRR.out
                    have hz64 := HL.out.z64 HG.out
                    obtain ⟨P, hP⟩ : ∃ P, P = writtenP S' L := ⟨_, rfl⟩
                    rw [← hP] at hr hrd' hgb
                    rw [← hP] at hw
                    have hkl : (l'.take (l'.length)).length = l'.length := by rw [List.length_take]; omega
                    have HZ := Lib.hid hz64
                    have HRO := Lib.hid hrd'
                    have HGB := Lib.hid hgb
                    have HKL := Lib.hid hkl
                    clear hz64 hrd' hgb hkl hP h4 HRR hLf hLa
                    by_cases hz : P.2.2 = 0
                    · obtain ⟨q1, q2, q3, q4⟩ := HRO.out hz
                      rw [if_neg (by simpa using hz)] at hr
                      rw [hz, show ((0 : Nat) : Int) = 0 from rfl] at hw
                      have hrm := fun (w' : World) (h' : At W w' (Both (RefT rb P.1) (Both (RowG tSx 1 (.slice ua L.length uc) L.length (strs L)) (Both (RowG tInt 1 (.slice (some ⟨gr, 0, none⟩) l'.length cr) l'.length (intsV l')) R)))) => rremove_at (l := l'.take (l'.length)) (v := .slice (some ⟨gr, 0, none⟩) (l'.length) cr) h' ((RowG.stable _ _ _ _ _).both ((RowG.stable _ _ _ _ _).both HR.out)) q4 (fun z hz => HZ.out z (List.mem_of_mem_take hz)) (by rw [HKL.out]; omega) ⟨_, _, by rw [HKL.out]⟩ (fun w' h' => (RdRow.of_own h'.drop.rowG).takeI (by omega))
                      have HW := Lib.hid hw
                      have HRM := Lib.hid hrm
                      have HRR := Lib.hid hr
                      have HQ := Lib.hid (And.intro q1 q2)
                      have hnum : P.2.1 ≤ 16777216 := q3
                      have hk00 : (0 : Int) ≤ (l'.length : Nat) := by omega
                      have hk01 : ((l'.length : Nat) : Int) ≤ cr := by omega
                      clear hw hrm hr q1 q2 q3 q4 hz
                      (repeat' (first | go_values | go_skip | go_guarded | go_step | go_upon | go_back | dsimp only))
                      refine HW.out.mono ?_
                      rintro e x1 ⟨rfl, h5⟩
                      have H5 := Lib.hid h5
                      clear h5 HW
                      (repeat' (first | go_values | go_skip | go_guarded | go_step | go_upon | go_back | dsimp only))
                      refine (HRM.out x1 H5.out).mono ?_
                      rintro e x2 ⟨rfl, h6⟩
                      have h7 := (h6.noRowG ((RefT.stable _ _).both ((RowG.stable _ _ _ _ _).both ((RowG.stable _ _ _ _ _).both HR.out))) tInt 1).perm (show _ = Both (RowG tInt 1 (.slice none 0 0) 0 []) (Both (RowG tInt 1 (.slice (some ⟨gr, 0, none⟩) l'.length cr) l'.length (intsV l')) (Both (RefT rb (goneZ P.1 (l'.take (l'.length)))) (Both (RowG tSx 1 (.slice ua L.length uc) L.length (strs L)) R))) by ac_rfl)
                      have H7 := Lib.hid h7
                      clear h6 h7 HRM H5
                      (repeat' (first | go_values | go_skip | go_guarded | go_step | go_upon | go_back | dsimp only))
                      go_loopw [17, 18] (fun vn vj wr => ∃ j : Nat, vj = .int .i64 ((l'.length + j : Nat) : Int) ∧ l'.length + j ≤ l'.length ∧ At W wr (Both (RowG tInt 1 vn j (intsV ((l'.drop (l'.length)).take j))) (Both (RowG tInt 1 (.slice (some ⟨gr, 0, none⟩) l'.length cr) l'.length (intsV l')) (Both (RefT rb (goneZ P.1 (l'.take (l'.length)))) (Both (RowG tSx 1 (.slice ua L.length uc) L.length (strs L)) R))))) (fun _ vj _ => l'.length - (intOf vj).toNat)
                      case atStart => exact ⟨0, by simp, by omega, H7.out⟩
                      case round =>
                        obtain ⟨j, rfl, hj, h8⟩ := hrel
                        clear H7
                        have hst8 : Stable (Both (RowG tInt 1 (.slice (some ⟨gr, 0, none⟩) l'.length cr) l'.length (intsV l')) (Both (RefT rb (goneZ P.1 (l'.take (l'.length)))) (Both (RowG tSx 1 (.slice ua L.length uc) L.length (strs L)) R))) := (RowG.stable _ _ _ _ _).both ((RefT.stable _ _).both ((RowG.stable _ _ _ _ _).both HR.out))
                        have HS8 := Lib.hid hst8
                        by_cases hjl : l'.length + j < l'.length
                        · skip
                          exact absurd hjl (by omega)
                        · have hi7 : ¬ ((l'.length + j : Nat) : Int) < l'.length := by omega
                          have hje : (l'.drop (l'.length)).take j = l'.drop (l'.length) := List.take_of_length_le (by rw [List.length_drop]; omega)
                          rw [hje] at h8
                          have hjm : j ≤ 16777216 := by omega
                          have HJ := Lib.hid (show j = (l'.drop (l'.length)).length by rw [List.length_drop]; omega)
                          have H8 := Lib.hid h8
                          clear h8 hje hst8
                          (repeat' (first | (go_big_may; ((at_builtin; go_must (refine wpList_append_to rfl _ _ 23 tInt rfl Tryz.underlying23 info_int rfl (by decide) rfl (H8.out) (HS8.out) rfl (by first | rfl | simp) rfl ((by simp [Value.oneCell'])) (by unfold maxLen; omega) (by omega) ?_); intro a2 c2 w6 h6x _); have H6 := Lib.hid h6x; clear h6x)) | go_values | go_skip | go_guarded | go_step | go_upon | go_back | dsimp only))
                          go_roundw
                          case rel => exact ⟨m, _, _, HQ.out.1, HQ.out.2, by simp, by rw [List.length_append, List.length_drop, List.length_singleton]; omega, HRR.out, by
                            have h9 := H6.out
                            have e2 : j + 1 = (l'.drop (l'.length) ++ [(P.2.1 : Int)]).length := by rw [List.length_append, ← HJ.out]; rfl
                            rw [← e2, intsV_snoc]
                            have h10 : At W _ (Both (RowG tInt 1 (.slice a2 (j + 1) c2) (j + 1) (intsV (l'.drop (l'.length)) ++ [Value.int .i64 (P.2.1 : Int)])) _) := h9
                            exact (h10.perm (show _ = Both (RowG tInt 1 (.slice (some ⟨gr, 0, none⟩) l'.length cr) l'.length (intsV l')) (Both (RowG tSx 1 (.slice ua L.length uc) L.length (strs L)) (Both (RowG tInt 1 (.slice a2 (j + 1) c2) (j + 1) (intsV (l'.drop (l'.length)) ++ [Value.int .i64 (P.2.1 : Int)])) (Both (RefT rb (goneZ P.1 (l'.take (l'.length)))) R))) by ac_rfl)).drop.drop⟩
                          case measure =>
                            show j + 1 < l'.length
                            omega
                    · rw [if_pos (by simpa using hz)] at hr
                      have hzq : ((P.2.2 : Int) != 0) = true := by simp; omega
                      have hrm := fun (w' : World) (h' : At W w' (Both (RefT rb P.1) (Both (RowG tSx 1 (.slice ua L.length uc) L.length (strs L)) (Both (RowG tInt 1 (.slice (some ⟨gr, 0, none⟩) l'.length cr) l'.length (intsV l')) R)))) => rremove_at (l := l') (v := .slice (some ⟨gr, 0, none⟩) l'.length cr) h' ((RowG.stable _ _ _ _ _).both ((RowG.stable _ _ _ _ _).both HR.out)) (HGB.out l').1 HZ.out (by omega) ⟨_, _, rfl⟩ (fun w' h' => RdRow.of_own h'.drop.rowG)
                      have HW := Lib.hid hw
                      have HRM := Lib.hid hrm
                      have HRR := Lib.hid hr
                      clear hw hrm hr hz
                      (repeat' (first | go_values | go_skip | go_guarded | go_step | go_upon | go_back | dsimp only))
                      refine HW.out.mono ?_
                      rintro e x1 ⟨rfl, h5⟩
                      have H5 := Lib.hid h5
                      clear h5 HW
                      (repeat' (first | go_values | go_skip | go_guarded | go_step | go_upon | go_back | dsimp only))
                      refine (HRM.out x1 H5.out).mono ?_
                      rintro e x2 ⟨rfl, h6⟩
                      have H6 := Lib.hid h6
                      clear h6 HRM H5
                      (repeat' (first | go_values | go_skip | go_guarded | go_step | go_upon | go_back | dsimp only))
                      go_ret2
                      rw [HRR.out]
                      exact ⟨rfl, (H6.out.perm (show _ = Both (RowG tSx 1 (.slice ua L.length uc) L.length (strs L)) (Both (RowG tInt 1 (.slice (some ⟨gr, 0, none⟩) l'.length cr) l'.length (intsV l')) (Both (RefT rb (goneZ P.1 l')) R)) by ac_rfl)).drop.drop⟩
              · subst hk4
                (repeat' (first | go_values | go_skip | go_guarded | go_step | go_upon | go_back | dsimp only))
                go_loopw [12, 13] (fun va vi wr => ∃ i : Nat, vi = .int .i64 i ∧ i ≤ k ∧ At W wr (Both (RowG tSx 1 va (allP S' (l'.take i)).length (strs (allP S' (l'.take i)))) (Both (RowG tInt 1 (.slice (some ⟨gr, 0, none⟩) l'.length cr) l'.length (intsV l')) (Both (RefT rb S') R)))) (fun _ vi _ => k - (intOf vi).toNat)
                case atStart => exact ⟨0, rfl, Nat.zero_le _, by
                  have e : allP S' (l'.take 0) = [] := ofL_nil
                  rw [e]
                  exact HE.out⟩
                case round =>
                  obtain ⟨i, rfl, hi, h4⟩ := hrel
                  clear HE
                  obtain ⟨ua, uc, hua, _, _⟩ := own_shape h4.rowG
                  subst hua
                  by_cases hik : i < k
                  · obtain ⟨z, hz⟩ : ∃ z, l'[i]? = some z := ⟨_, List.getElem?_eq_getElem (by omega)⟩
                    obtain ⟨cz, _, _⟩ := h4.drop.rowCell (j := i) (u := .int .i64 z) (by simp [intsV, hz])
                    have hi0 : (0 : Int) ≤ i := by omega
                    have hi7 : (i : Int) < l'.length := by omega
                    have hi8 : (i : Int) < (k : Nat) := by omega
                    have hwr : IntKind.i64.wrap ((i : Int) + 1) = ((i + 1 : Nat) : Int) := by rw [IntKind.wrap_i64] <;> omega
                    have hst4 : Stable (Both (RowG tSx 1 (.slice ua (allP S' (l'.take i)).length uc) (allP S' (l'.take i)).length (strs (allP S' (l'.take i)))) (Both (RowG tInt 1 (.slice (some ⟨gr, 0, none⟩) l'.length cr) l'.length (intsV l')) (Both (RefT rb S') R))) := (RowG.stable _ _ _ _ _).both HST3.out
                    have hsn := rStands_at (h4.perm (show _ = Both (RefT rb S') (Both (RowG tSx 1 (.slice ua (allP S' (l'.take i)).length uc) (allP S' (l'.take i)).length (strs (allP S' (l'.take i)))) (Both (RowG tInt 1 (.slice (some ⟨gr, 0, none⟩) l'.length cr) l'.length (intsV l')) R)) by ac_rfl)) HG.out (HL.out.z64 HG.out z (List.mem_of_getElem? hz))
                    have hmg : mergeL (allP S' (l'.take i)) (standsP S' z) = allP S' (l'.take (i + 1)) := by
                      unfold allP
                      rw [ofL_merge _ (stands_rises S' z), take_snoc hz]
                      simp
                    have hfw : (allP S' (l'.take i)).length + (standsP S' z).length ≤ 1099511627776 := by
                      have h1 : (allP S' (l'.take i)).length ≤ ((l'.take i).map (standsP S')).flatten.length := ofL_len _
                      have h2 := stands_few2 HG.out (l'.take i)
                      have h3 := stands_few HG.out z
                      rw [List.length_take] at h2
                      omega
                    have HSN := Lib.hid hsn
                    have HMG := Lib.hid hmg
                    have HFW := Lib.hid hfw
                    have H4 := Lib.hid h4
                    have HS4 := Lib.hid hst4
                    clear hsn hmg hfw h4 hst4 hz
                    (repeat' (first | go_values | go_skip | go_guarded | go_step | go_upon | go_back | dsimp only))
                    refine HSN.out.mono ?_
                    rintro e x1 ⟨v1, rfl, ho, hb⟩
                    have h5 := H4.out.newRowG HS4.out hb ho
                    have hun := RUnion_calls (RdRow.of_own h5.drop.rowG) (RdRow.of_own h5.rowG) HFW.out
                    rw [HMG.out] at hun
                    have HUN := Lib.hid hun
                    have HS5 := Lib.hid ((RowG.stable tSx 1 v1 (standsP S' z).length (strs (standsP S' z))).both HS4.out)
                    have H5 := Lib.hid h5
                    clear ho hb h5 hun HSN H4
                    (repeat' (first | go_values | go_skip | go_guarded | go_step | go_upon | go_back | dsimp only))
                    refine HUN.out.mono ?_
                    rintro e x2 ⟨vo, rfl, h6q⟩
                    have h6 := At.glue H5.out HS5.out h6q
                    have H6 := Lib.hid (h6.perm (show _ = Both (RowG tSx 1 v1 (standsP S' z).length (strs (standsP S' z))) (Both (RowG tSx 1 (.slice ua (allP S' (l'.take i)).length uc) (allP S' (l'.take i)).length (strs (allP S' (l'.take i)))) (Both (RowG tSt 1 vo (allP S' (l'.take (i + 1))).length (strs (allP S' (l'.take (i + 1))))) (Both (RowG tInt 1 (.slice (some ⟨gr, 0, none⟩) l'.length cr) l'.length (intsV l')) (Both (RefT rb S') R)))) by ac_rfl)).drop.drop
                    clear h6q h6 HUN H5
                    (repeat' (first | go_values | go_skip | go_guarded | go_step | go_upon | go_back | dsimp only))
                    go_roundw
                    case rel => exact ⟨i + 1, rfl, hik, H6.out⟩
                    case measure => simp [intOf]; omega
                  · have hi8 : ¬ (i : Int) < (k : Nat) := by omega
                    have hie : k = i := by omega
                    subst hie
                    have hLf := allP_fits S' (l'.take (k))
                    have hLa := all_few HG.out (HL.out.take (k))
                    have hrd' := HL.out.round HG.out (k)
                    have hgb := LokP.bad HG.out (l'.take (k))
                    generalize allP S' (l'.take (k)) = L at *
                    have hw := rWritten_at (L := L) (v := .slice ua L.length uc) (h4.perm (show _ = Both (RefT rb S') (Both (RowG tSx 1 (.slice ua L.length uc) L.length (strs L)) (Both (RowG tInt 1 (.slice (some ⟨gr, 0, none⟩) l'.length cr) l'.length (intsV l')) R)) by ac_rfl)) ((RowG.stable _ _ _ _ _).both ((RowG.stable _ _ _ _ _).both HR.out)) HG.out (fun w' h' => RdRow.of_own h'.rowG) hLf (by
                      have h0 := frame_wsum (L := L) hLf
                      have h1 := wsum_fit (L := L) hLf
                      omega)
                    have hr := HRR.out
                    have hz64 := HL.out.z64 HG.out
                    obtain ⟨P, hP⟩ : ∃ P, P = writtenP S' L := ⟨_, rfl⟩
                    rw [← hP] at hr hrd' hgb
                    rw [← hP] at hw
                    have hkl : (l'.take (k)).length = k := by rw [List.length_take]; omega
                    have HZ := Lib.hid hz64
                    have HRO := Lib.hid hrd'
                    have HGB := Lib.hid hgb
                    have HKL := Lib.hid hkl
                    clear hz64 hrd' hgb hkl hP h4 HRR hLf hLa
                    by_cases hz : P.2.2 = 0
                    · obtain ⟨q1, q2, q3, q4⟩ := HRO.out hz
                      rw [if_neg (by simpa using hz)] at hr
                      rw [hz, show ((0 : Nat) : Int) = 0 from rfl] at hw
                      have hrm := fun (w' : World) (h' : At W w' (Both (RefT rb P.1) (Both (RowG tSx 1 (.slice ua L.length uc) L.length (strs L)) (Both (RowG tInt 1 (.slice (some ⟨gr, 0, none⟩) l'.length cr) l'.length (intsV l')) R)))) => rremove_at (l := l'.take (k)) (v := .slice (some ⟨gr, 0, none⟩) (k) cr) h' ((RowG.stable _ _ _ _ _).both ((RowG.stable _ _ _ _ _).both HR.out)) q4 (fun z hz => HZ.out z (List.mem_of_mem_take hz)) (by rw [HKL.out]; omega) ⟨_, _, by rw [HKL.out]⟩ (fun w' h' => (RdRow.of_own h'.drop.rowG).takeI (by omega))
                      have HW := Lib.hid hw
                      have HRM := Lib.hid hrm
                      have HRR := Lib.hid hr
                      have HQ := Lib.hid (And.intro q1 q2)
                      have hnum : P.2.1 ≤ 16777216 := q3
                      have hk00 : (0 : Int) ≤ (k : Nat) := by omega
                      have hk01 : ((k : Nat) : Int) ≤ cr := by omega
                      clear hw hrm hr q1 q2 q3 q4 hz
                      (repeat' (first | go_values | go_skip | go_guarded | go_step | go_upon | go_back | dsimp only))
                      refine HW.out.mono ?_
                      rintro e x1 ⟨rfl, h5⟩
                      have H5 := Lib.hid h5
                      clear h5 HW
                      (repeat' (first | go_values | go_skip | go_guarded | go_step | go_upon | go_back | dsimp only))
                      refine (HRM.out x1 H5.out).mono ?_
                      rintro e x2 ⟨rfl, h6⟩
                      have h7 := (h6.noRowG ((RefT.stable _ _).both ((RowG.stable _ _ _ _ _).both ((RowG.stable _ _ _ _ _).both HR.out))) tInt 1).perm (show _ = Both (RowG tInt 1 (.slice none 0 0) 0 []) (Both (RowG tInt 1 (.slice (some ⟨gr, 0, none⟩) l'.length cr) l'.length (intsV l')) (Both (RefT rb (goneZ P.1 (l'.take (k)))) (Both (RowG tSx 1 (.slice ua L.length uc) L.length (strs L)) R))) by ac_rfl)
                      have H7 := Lib.hid h7
                      clear h6 h7 HRM H5
                      (repeat' (first | go_values | go_skip | go_guarded | go_step | go_upon | go_back | dsimp only))
                      go_loopw [17, 18] (fun vn vj wr => ∃ j : Nat, vj = .int .i64 ((k + j : Nat) : Int) ∧ k + j ≤ l'.length ∧ At W wr (Both (RowG tInt 1 vn j (intsV ((l'.drop (k)).take j))) (Both (RowG tInt 1 (.slice (some ⟨gr, 0, none⟩) l'.length cr) l'.length (intsV l')) (Both (RefT rb (goneZ P.1 (l'.take (k)))) (Both (RowG tSx 1 (.slice ua L.length uc) L.length (strs L)) R))))) (fun _ vj _ => l'.length - (intOf vj).toNat)
                      case atStart => exact ⟨0, by simp, by omega, H7.out⟩
                      case round =>
                        obtain ⟨j, rfl, hj, h8⟩ := hrel
                        clear H7
                        have hst8 : Stable (Both (RowG tInt 1 (.slice (some ⟨gr, 0, none⟩) l'.length cr) l'.length (intsV l')) (Both (RefT rb (goneZ P.1 (l'.take (k)))) (Both (RowG tSx 1 (.slice ua L.length uc) L.length (strs L)) R))) := (RowG.stable _ _ _ _ _).both ((RefT.stable _ _).both ((RowG.stable _ _ _ _ _).both HR.out))
                        have HS8 := Lib.hid hst8
                        by_cases hjl : k + j < l'.length
                        · skip
                          obtain ⟨z, hz⟩ : ∃ z, l'[k + j]? = some z := ⟨_, List.getElem?_eq_getElem hjl⟩
                          obtain ⟨cz, _, _⟩ := h8.drop.rowCell (j := k + j) (u := .int .i64 z) (by rw [intsV, List.getElem?_map, hz]; rfl)
                          have hi0 : (0 : Int) ≤ ((k + j : Nat) : Int) := by omega
                          have hi7 : ((k + j : Nat) : Int) < l'.length := by omega
                          have hwr : IntKind.i64.wrap (((k + j : Nat) : Int) + 1) = ((k + (j + 1) : Nat) : Int) := by rw [IntKind.wrap_i64] <;> omega
                          have HTK := Lib.hid (take_snoc (l := l'.drop (k)) (k := j) (x := z) (by rw [List.getElem?_drop]; exact hz))
                          have H8 := Lib.hid h8
                          obtain ⟨jj, hjj⟩ : ∃ jj, jj = k + j := ⟨_, rfl⟩
                          clear h8 hz hst8
                          (repeat' (first | (go_big_may; ((at_builtin; go_must (refine wpList_append_to rfl _ _ 23 tInt rfl Tryz.underlying23 info_int rfl (by decide) rfl (H8.out) (HS8.out) rfl (by first | rfl | simp) rfl ((by simp [Value.oneCell'])) (by unfold maxLen; omega) (by omega) ?_); intro a2 c2 w6 h6x _); have H6 := Lib.hid h6x; clear h6x)) | go_values | go_skip | go_guarded | go_step | go_upon | go_back | dsimp only))
                          go_roundw
                          case rel => exact ⟨j + 1, by go_num, by omega, by rw [HTK.out, intsV_snoc]; exact H6.out⟩
                          case measure =>
                            first
                              | (exfalso; omega)
                              | (simp [intOf]; omega)
                        · have hi7 : ¬ ((k + j : Nat) : Int) < l'.length := by omega
                          have hje : (l'.drop (k)).take j = l'.drop (k) := List.take_of_length_le (by rw [List.length_drop]; omega)
                          rw [hje] at h8
                          have hjm : j ≤ 16777216 := by omega
                          have HJ := Lib.hid (show j = (l'.drop (k)).length by rw [List.length_drop]; omega)
                          have H8 := Lib.hid h8
                          clear h8 hje hst8
                          (repeat' (first | (go_big_may; ((at_builtin; go_must (refine wpList_append_to rfl _ _ 23 tInt rfl Tryz.underlying23 info_int rfl (by decide) rfl (H8.out) (HS8.out) rfl (by first | rfl | simp) rfl ((by simp [Value.oneCell'])) (by unfold maxLen; omega) (by omega) ?_); intro a2 c2 w6 h6x _); have H6 := Lib.hid h6x; clear h6x)) | go_values | go_skip | go_guarded | go_step | go_upon | go_back | dsimp only))
                          go_roundw
                          case rel => exact ⟨m, _, _, HQ.out.1, HQ.out.2, by simp, by rw [List.length_append, List.length_drop, List.length_singleton]; omega, HRR.out, by
                            have h9 := H6.out
                            have e2 : j + 1 = (l'.drop (k) ++ [(P.2.1 : Int)]).length := by rw [List.length_append, ← HJ.out]; rfl
                            rw [← e2, intsV_snoc]
                            have h10 : At W _ (Both (RowG tInt 1 (.slice a2 (j + 1) c2) (j + 1) (intsV (l'.drop (k)) ++ [Value.int .i64 (P.2.1 : Int)])) _) := h9
                            exact (h10.perm (show _ = Both (RowG tInt 1 (.slice (some ⟨gr, 0, none⟩) l'.length cr) l'.length (intsV l')) (Both (RowG tSx 1 (.slice ua L.length uc) L.length (strs L)) (Both (RowG tInt 1 (.slice a2 (j + 1) c2) (j + 1) (intsV (l'.drop (k)) ++ [Value.int .i64 (P.2.1 : Int)])) (Both (RefT rb (goneZ P.1 (l'.take (k)))) R))) by ac_rfl)).drop.drop⟩
                          case measure =>
                            show j + 1 < l'.length
                            omega
                    · rw [if_pos (by simpa using hz)] at hr
                      have hzq : ((P.2.2 : Int) != 0) = true := by simp; omega
                      have hrm := fun (w' : World) (h' : At W w' (Both (RefT rb P.1) (Both (RowG tSx 1 (.slice ua L.length uc) L.length (strs L)) (Both (RowG tInt 1 (.slice (some ⟨gr, 0, none⟩) l'.length cr) l'.length (intsV l')) R)))) => rremove_at (l := l') (v := .slice (some ⟨gr, 0, none⟩) l'.length cr) h' ((RowG.stable _ _ _ _ _).both ((RowG.stable _ _ _ _ _).both HR.out)) (HGB.out l').1 HZ.out (by omega) ⟨_, _, rfl⟩ (fun w' h' => RdRow.of_own h'.drop.rowG)
                      have HW := Lib.hid hw
                      have HRM := Lib.hid hrm
                      have HRR := Lib.hid hr
                      clear hw hrm hr hz
                      (repeat' (first | go_values | go_skip | go_guarded | go_step | go_upon | go_back | dsimp only))
                      refine HW.out.mono ?_
                      rintro e x1 ⟨rfl, h5⟩
                      have H5 := Lib.hid h5
                      clear h5 HW
                      (repeat' (first | go_values | go_skip | go_guarded | go_step | go_upon | go_back | dsimp only))
                      refine (HRM.out x1 H5.out).mono ?_
                      rintro e x2 ⟨rfl, h6⟩
                      have H6 := Lib.hid h6
                      clear h6 HRM H5
                      (repeat' (first | go_values | go_skip | go_guarded | go_step | go_upon | go_back | dsimp only))
                      go_ret2
                      rw [HRR.out]
                      exact ⟨rfl, (H6.out.perm (show _ = Both (RowG tSx 1 (.slice ua L.length uc) L.length (strs L)) (Both (RowG tInt 1 (.slice (some ⟨gr, 0, none⟩) l'.length cr) l'.length (intsV l')) (Both (RefT rb (goneZ P.1 l')) R)) by ac_rfl)).drop.drop⟩
  · rw [mergeP_look hfl hl0]
    have HLK := Lib.hid hlk
    have hq : ((lookP S [] l : Int) != 0) = true := by simp; omega
    clear h hR hG hz hrd hst hlk hl0 hfl
    go_enter Tryz.func51, Tryz.ntmps51
    (repeat' (first | go_values | go_skip | go_guarded | go_step | go_upon | go_back | dsimp only))
    refine HLK.out.mono ?_
    rintro e w1 ⟨rfl, hb⟩
    have H1 := Lib.hid (H.out.mono HST.out hb)
    clear hb HLK
    (repeat' (first | go_values | go_skip | go_guarded | go_step | go_upon | go_back | dsimp only))
    go_ret2
    exact ⟨rfl, H1.out⟩
end
section
variable {W w : World} {R : Thing} {rb : Nat} {S : St} {ws : List (List UInt8)} {v : Value}
set_option maxRecDepth 100000 in
set_option maxHeartbeats 6400000 in
theorem rSort_at (h : At W w (Both (RefT rb S) R)) (hR : Stable R) (hG : GoodS S) {bu fan : Int} (hb64 : inI64 bu) (hf64 : inI64 fan) (hv : ∃ ao cp, v = .slice ao ws.length cp ∧ ws.length ≤ 1099511627776) (hx : ∀ x ∈ ws, x.length ≤ 1099511627776) (hrd : ∀ w', At W w' R → RdRow w' v ws.length 1 (strs ws)) :
    Calls Tryz.prog 24 #[.pointer (some ⟨rb, 0, none⟩), .int .i64 bu, .int .i64 fan, v] w fun e w' => e = .returned (.tuple #[.int .i64 (sortP S bu fan ws).2.1, .int .i64 (sortP S bu fan ws).2.2]) ∧ At W w' (Both (RefT rb (sortP S bu fan ws).1) R) := by
  have hst := (RefT.stable rb S).both hR
  have H := Lib.hid h
  by_cases hbl : bu < 1 ∨ 65536 < bu
  · rw [sortP_lim (by omega)]
    have HFN := Lib.hid (rFNew_no (w := w) hbl)
    clear h hR hG hb64 hf64 hv hx hrd hst hbl
    go_enter Tryz.func24, Tryz.ntmps24
    (repeat' (first | go_values | go_skip | go_guarded | go_step | go_upon | go_back | dsimp only))
    refine HFN.out.mono ?_
    rintro e w1 ⟨rfl, rfl⟩
    (repeat' (first | go_values | go_skip | go_guarded | go_step | go_upon | go_back | dsimp only))
    go_ret2
    exact ⟨rfl, H.out⟩
  · obtain ⟨bn, hbn⟩ : ∃ bn : Nat, bu = bn := ⟨bu.toNat, by omega⟩
    subst hbn
    have hbn2 : 1 ≤ bn ∧ bn ≤ 65536 := by omega
    have HFN := Lib.hid (rFNew_at h hst hbn2)
    by_cases hf1 : fan < 2
    · rw [sortP_lim (by omega)]
      clear h hR hG hb64 hf64 hv hx hrd hst hbl hbn2
      go_enter Tryz.func24, Tryz.ntmps24
      (repeat' (first | go_values | go_skip | go_guarded | go_step | go_upon | go_back | dsimp only))
      refine HFN.out.mono ?_
      rintro e w1 ⟨k, rfl, h1⟩
      have H1 := Lib.hid h1.drop
      clear h1 HFN
      (repeat' (first | go_values | go_skip | go_guarded | go_step | go_upon | go_back | dsimp only))
      go_ret2
      exact ⟨rfl, H1.out⟩
    by_cases hf2 : 64 < fan
    · rw [sortP_lim (by omega)]
      clear h hR hG hb64 hf64 hv hx hrd hst hbl hbn2
      go_enter Tryz.func24, Tryz.ntmps24
      (repeat' (first | go_values | go_skip | go_guarded | go_step | go_upon | go_back | dsimp only))
      refine HFN.out.mono ?_
      rintro e w1 ⟨k, rfl, h1⟩
      have H1 := Lib.hid h1.drop
      clear h1 HFN
      (repeat' (first | go_values | go_skip | go_guarded | go_step | go_upon | go_back | dsimp only))
      go_ret2
      exact ⟨rfl, H1.out⟩
    have hlim : ¬ ((bn : Int) < 1 ∨ 65536 < (bn : Int) ∨ fan < 2 ∨ 64 < fan) := by omega
    have hO : FOk S (newF bn) := newF_ok S hbn2
    have had := fun (k : Nat) (w1 : World) (h1 : At W w1 (Both (RfT k (newF bn)) (Both (RefT rb S) R))) => rAdd_at (ws := ws) (v := v) h1 hR hG trivial hO hv hx hrd
    obtain ⟨k1, hc1, hc2⟩ := addP_keep hG trivial hO ws
    obtain ⟨A, hA⟩ : ∃ A, A = addP S (newF bn) ws := ⟨_, rfl⟩
    have HAE := Lib.hid (show addP S (newF (bn : Int).toNat) ws = A by rw [hA]; rfl)
    rw [← hA] at had k1
    by_cases hz : A.2.2 = 0
    · rw [hz, show ((0 : Nat) : Int) = 0 from rfl] at had
      have hfi := fun (k : Nat) (w1 : World) (h1 : At W w1 (Both (RfT k A.2.1) (Both (RefT rb A.1) R))) => rFinish_row h1 hR k1.good trivial k1.ok
      obtain ⟨k2, hc3, hc4⟩ := finishP_keep k1.good trivial k1.ok
      obtain ⟨Q, hQ⟩ : ∃ Q, Q = finishP A.1 A.2.1 := ⟨_, rfl⟩
      rw [← hQ] at hfi k2 hc4
      have HAD := Lib.hid had
      by_cases hq : Q.2.2.2 = 0
      · rw [sortP_go hlim HAE.out hz hQ.symm hq]
        rw [hq, show ((0 : Nat) : Int) = 0 from rfl] at hfi
        have hmm : ∀ z ∈ mz Q.2.2.1, inI64 z := fun z hz => by
          obtain ⟨n, hn, rfl⟩ := List.mem_map.1 hz
          have h1 := hc4 n hn
          have h2 := k2.good.sizes.2.2.2.1
          unfold inI64; omega
        have hml : Q.2.2.1.length ≤ 1099511627776 := by
          have h1 := k2.ok.few
          have h2 := k2.good.sizes.2.2.2.1
          have h3 : Q.2.2.1.length ≤ Q.2.1.made.length := by
            rw [hQ]
            exact finish_len A.1 A.2.1
          omega
        have hmg := fun (w1 : World) (v1 : Value) (Ψ : Thing) (hs : Stable Ψ) (hr : ∀ (X : Thing) (w'' : World), At W w'' (Both Ψ X) → RdRow w'' v1 (mz Q.2.2.1).length 1 (intsV (mz Q.2.2.1))) (h1 : At W w1 (Both Ψ (Both (RefT rb Q.1) R))) =>
          rMerge_at (l := mz Q.2.2.1) (v := v1) (fan := fan) (h1.perm (show _ = Both (RefT rb Q.1) (Both Ψ R) by ac_rfl)) (hs.both hR) k2.good hmm (by simpa [mz] using hml) hf64 (by obtain ⟨ao, cp, hv, _⟩ := (hr _ _ h1).shape; exact ⟨ao, cp, hv⟩) (fun w' h' => hr _ _ h')
        have HFI := Lib.hid hfi
        have HMG := Lib.hid hmg
        generalize mergeP Q.1 fan (mz Q.2.2.1) = M at *
        clear h hR hG hb64 hf64 hv hx hrd hst hbl hbn2 hlim hO had k1 hc1 hc2 hA hz hfi k2 hc3 hc4 hQ hq hmm hml hmg HAE
        go_enter Tryz.func24, Tryz.ntmps24
        (repeat' (first | go_values | go_skip | go_guarded | go_step | go_upon | go_back | dsimp only))
        refine HFN.out.mono ?_
        rintro e w1 ⟨k, rfl, h1⟩
        have H1 := Lib.hid h1
        clear h1 HFN
        (repeat' (first | go_values | go_skip | go_guarded | go_step | go_upon | go_back | dsimp only))
        refine (HAD.out k _ H1.out).mono ?_
        rintro e w3 ⟨rfl, h3⟩
        have H3 := Lib.hid h3
        clear h3 HAD H1
        (repeat' (first | go_values | go_skip | go_guarded | go_step | go_upon | go_back | dsimp only))
        refine (HFI.out k w3 H3.out).mono ?_
        rintro e w4 ⟨v4, Ψ, rfl, hs4, hr4, h4⟩
        have HM2 := Lib.hid (HMG.out w4 v4 Ψ hs4 hr4 h4)
        clear h4 HFI H3 hs4 hr4 HMG
        (repeat' (first | go_values | go_skip | go_guarded | go_step | go_upon | go_back | dsimp only))
        refine HM2.out.mono ?_
        rintro e w5 ⟨rfl, h5⟩
        have H5 := Lib.hid (h5.perm (show _ = Both Ψ (Both (RefT rb M.1) R) by ac_rfl))
        clear h5 HM2
        (repeat' (first | go_values | go_skip | go_guarded | go_step | go_upon | go_back | dsimp only))
        go_ret2
        exact ⟨rfl, H5.out.drop⟩
      · rw [sortP_fin hlim HAE.out hz hQ.symm hq]
        dsimp only
        have hzq : ((Q.2.2.2 : Int) != 0) = true := by simp; omega
        have HFI := Lib.hid hfi
        clear h hR hG hb64 hf64 hv hx hrd hst hbl hbn2 hlim hO had k1 hc1 hc2 hA hz hfi k2 hc3 hc4 hQ hq HAE
        go_enter Tryz.func24, Tryz.ntmps24
        (repeat' (first | go_values | go_skip | go_guarded | go_step | go_upon | go_back | dsimp only))
        refine HFN.out.mono ?_
        rintro e w1 ⟨k, rfl, h1⟩
        have H1 := Lib.hid h1
        clear h1 HFN
        (repeat' (first | go_values | go_skip | go_guarded | go_step | go_upon | go_back | dsimp only))
        refine (HAD.out k _ H1.out).mono ?_
        rintro e w3 ⟨rfl, h3⟩
        have H3 := Lib.hid h3
        clear h3 HAD H1
        (repeat' (first | go_values | go_skip | go_guarded | go_step | go_upon | go_back | dsimp only))
        refine (HFI.out k w3 H3.out).mono ?_
        rintro e w4 ⟨v4, Ψ, rfl, hs4, hr4, h4⟩
        have H4 := Lib.hid h4
        clear h4 HFI H3 hs4 hr4
        (repeat' (first | go_values | go_skip | go_guarded | go_step | go_upon | go_back | dsimp only))
        go_ret2
        exact ⟨rfl, H4.out.drop⟩
    · rw [sortP_add hlim HAE.out hz]
      dsimp only
      have hzq : ((A.2.2 : Int) != 0) = true := by simp; omega
      have HAD := Lib.hid had
      clear h hR hG hb64 hf64 hv hx hrd hst hbl hbn2 hlim hO had k1 hc1 hc2 hA hz HAE
      go_enter Tryz.func24, Tryz.ntmps24
      (repeat' (first | go_values | go_skip | go_guarded | go_step | go_upon | go_back | dsimp only))
      refine HFN.out.mono ?_
      rintro e w1 ⟨k, rfl, h1⟩
      have H1 := Lib.hid h1
      clear h1 HFN
      (repeat' (first | go_values | go_skip | go_guarded | go_step | go_upon | go_back | dsimp only))
      refine (HAD.out k _ H1.out).mono ?_
      rintro e w3 ⟨rfl, h3⟩
      have H3 := Lib.hid h3
      clear h3 HAD H1
      (repeat' (first | go_values | go_skip | go_guarded | go_step | go_upon | go_back | dsimp only))
      go_ret2
      exact ⟨rfl, H3.out.drop⟩
end
theorem mod_one (m : Nat) (hm : 1 ≤ m ∧ m ≤ 1000) (B : Int) : ∃ b : Nat, 1 ≤ b ∧ b ≤ m ∧ 1 + max 0 B % (m : Int) = (b : Int) ∧ IntKind.i64.wrap (1 + max 0 B % (m : Int)) = (b : Int) := by
  have h0 : (0 : Int) ≤ max 0 B % (m : Int) := Int.emod_nonneg _ (by omega)
  have h1 : max 0 B % (m : Int) < (m : Int) := Int.emod_lt_of_pos _ (by omega)
  refine ⟨(1 + max 0 B % (m : Int)).toNat, by omega, by omega, by omega, ?_⟩
  rw [IntKind.wrap_i64] <;> omega
theorem mod_two (m : Nat) (hm : 1 ≤ m ∧ m ≤ 1000) (B : Int) : ∃ b : Nat, 2 ≤ b ∧ b ≤ m + 1 ∧ 2 + max 0 B % (m : Int) = (b : Int) ∧ IntKind.i64.wrap (2 + max 0 B % (m : Int)) = (b : Int) := by
  have h0 : (0 : Int) ≤ max 0 B % (m : Int) := Int.emod_nonneg _ (by omega)
  have h1 : max 0 B % (m : Int) < (m : Int) := Int.emod_lt_of_pos _ (by omega)
  refine ⟨(2 + max 0 B % (m : Int)).toNat, by omega, by omega, by omega, ?_⟩
  rw [IntKind.wrap_i64] <;> omega
theorem bulk_eachM {ss : List (List UInt8)} (h : ss.length + sumLen ss ≤ 1048576) : ss.length ≤ 1048576 ∧ ∀ x ∈ ss, x.length ≤ 1048576 := by
  refine ⟨by omega, fun x hx => ?_⟩
  have key : ∀ l : List (List UInt8), x ∈ l → x.length ≤ sumLen l := by
    intro l
    induction l with
    | nil => intro h; cases h
    | cons a l ih =>
      intro h
      have e : sumLen (a :: l) = a.length + sumLen l := by simp [sumLen]
      rw [e]
      rcases List.mem_cons.1 h with rfl | h
      · omega
      · have := ih h; omega
  have := key ss hx
  omega
abbrev tLoM : TypeId := 47
abbrev opOld (o : Nat) : Array Value := #[.int .i64 1, .int .i64 0, .int .i64 0, .slice none 0 0, .slice (some ⟨o, 0, none⟩) 1 1]
theorem lays_one (c : Int) (t : List (List UInt8)) : ∃ r, (layP (newSt c) 1 0 t).runs = [(1, r)] := by
  have hc : (createP (newSt c)).2.2 = 0 := by
    unfold createP
    rw [if_neg (by simp [newSt]), if_neg (by simp [newSt])]
  have hn : (createP (newSt c)).2.1 = 1 := by
    unfold createP
    rw [if_neg (by simp [newSt]), if_neg (by simp [newSt])]
    rfl
  have htop := (create_top (GoodS.new c) hc).1
  rw [hn] at htop
  unfold layP
  rw [if_pos hc, if_neg (by omega), hn]
  have hr : (newSt c).runs = [] := rfl
  rcases htop.append (layT 1 t) with ⟨_, h2⟩ | ⟨_, h2⟩
  all_goals
    rcases h2.seal with ⟨_, h3⟩ | ⟨_, h3⟩
    · exact ⟨_, h3.trans (by rw [hr]; rfl)⟩
    · exact ⟨_, h3.runs.trans (by rw [hr]; rfl)⟩
theorem lost_sort {S : St} (hG : GoodS S) {r : RunD} (hr : S.runs = [(1, r)]) {b fan : Int} (hb : 1 ≤ b ∧ b ≤ 65536) (hf : 2 ≤ fan ∧ fan ≤ 64) (ws : List (List UInt8)) :
    ((sortP S b fan ws).2.2 = 0 ∧ ∃ m : Nat, (sortP S b fan ws).2.1 = (m : Int) ∧ (sortP S b fan ws).1.keys = [1, (m : Int)]) ∨
    ((sortP S b fan ws).2.2 ≠ 0 ∧ (sortP S b fan ws).2.1 = 0 ∧ (sortP S b fan ws).1.keys = [1] ∧ (sortP S b fan ws).1.used = S.used) := by
  rcases sort_end hG hb hf ws with ⟨h1, m, h2, h3⟩ | ⟨h1, h2, h3, h4⟩
  · refine .inl ⟨h1, m, h2, ?_⟩
    unfold St.keys
    rw [h3.runs, hr]
    rfl
  · refine .inr ⟨h1, h2, ?_, ?_⟩
    · unfold St.keys
      rw [h3, hr]
      rfl
    · rw [h4.used, h3, hG.used]
set_option maxRecDepth 100000 in
set_option maxHeartbeats 12800000 in
theorem mergeLost_walk (W : World) (ef : Nat → Nat × Nat) (hF : Fails W ef fails13) (ss : List (List UInt8)) (rv : Value) (rd : RdRow W rv ss.length 1 (strs ss)) (hlen : ss.length + sumLen ss + 1 ≤ 1048576) (B f n c : Int) (_ : inI64 B) (_ : inI64 f) (hn : inI64 n) (hc : inI64 c) :
    Calls Tryz.prog 6 #[.agg #[rv, .int .i64 B, .int .i64 f, .int .i64 n, .int .i64 c]] W fun e w' => e = .returned (.bool true) ∧ Below W.heap.size W w' := by
  obtain ⟨hss, hsx⟩ := bulk_eachM (ss := ss) (by omega)
  obtain ⟨av, cv, hv, _, _⟩ := rd.shape
  subst hv
  obtain ⟨b, hb1, hb2, hb3, hb3w⟩ := mod_one 20 (by omega) B
  obtain ⟨fn, hf1, hf2, hf3, hf3w⟩ := mod_two 6 (by omega) f
  rw [show ((20 : Nat) : Int) = 20 from rfl] at hb3 hb3w
  rw [show ((6 : Nat) : Int) = 6 from rfl] at hf3 hf3w
  have hnot : ∀ (x : Bool) (w : World), (Op.unary .not (.bool x)).run Tryz.prog w = .ok (.bool (!x)) w := fun _ _ => rfl
  have HF := Lib.hid hF
  have RD := Lib.hid rd
  have HSS := Lib.hid hss
  have HSX := Lib.hid hsx
  have HN := Lib.hid hn
  have HC := Lib.hid hc
  have HMD := Lib.hid (And.intro hb3 (And.intro hb3w (And.intro hf3 hf3w)))
  have HBF := Lib.hid (And.intro hb1 (And.intro hb2 (And.intro hf1 hf2)))
  have H0 := Lib.hid ((At.nought (Below.refl W.heap.size W)).newCell Stable.nought #[.slice av ss.length cv, .int .i64 B, .int .i64 f, .int .i64 n, .int .i64 c] tLoM)
  have HST0 := Lib.hid ((CellT.stable W.heap.size #[.slice av ss.length cv, .int .i64 B, .int .i64 f, .int .i64 n, .int .i64 c] tLoM).both Stable.nought)
  clear hF rd hlen hn hc hb1 hb2 hf1 hf2 hss hsx hb3 hb3w hf3 hf3w
  go_enter Tryz.func6, Tryz.ntmps6
  (repeat' (first | go_values | go_skip | go_guarded | go_step | go_upon | go_back | dsimp only))
  refine (wakes10_calls (HF.out.below H0.out.below)).mono ?_
  rintro e w1 ⟨rfl, hb⟩
  generalize W.heap.size = bx at *
  have H2 := Lib.hid (H0.out.mono HST0.out hb)
  clear hb H0
  (repeat' (first | go_values | go_skip | go_guarded | go_step | go_upon | go_back | dsimp only))
  go_cut [3, 4] (fun v6 v7 wx => ∃ sb rb, v6 = .pointer (some ⟨sb, 0, none⟩) ∧ v7 = .pointer (some ⟨rb, 0, none⟩) ∧ At W wx (Both (StoreT sb (newSt c)) (Both (RefT rb (newSt c)) (Both (CellT bx #[.slice av ss.length cv, .int .i64 B, .int .i64 f, .int .i64 n, .int .i64 c] tLoM) Nought))))
  case first =>
    refine wp_only ?_
    rename_i J K' hJ hK
    have HJ := Lib.hid hJ
    have HK := Lib.hid hK
    clear hJ hK
    have hnew := fun (w' : World) (hb : Below w1.heap.size w1 w') => New_at (H2.out.mono HST0.out hb) HST0.out HC.out
    have hrnew := fun (w' : World) (hb : Below w1.heap.size w1 w') => rNew_at (H2.out.mono HST0.out hb) HST0.out HC.out
    have hnew2 := fun (rb : Nat) (w3 : World) (h3 : At W w3 (Both (RefT rb (newSt c)) (Both (CellT bx #[.slice av ss.length cv, .int .i64 B, .int .i64 f, .int .i64 n, .int .i64 c] tLoM) Nought))) (w' : World) (hb : Below w3.heap.size w3 w') => New_at (h3.mono ((RefT.stable _ _).both HST0.out) hb) ((RefT.stable _ _).both HST0.out) HC.out
    have hrnew2 := fun (sb : Nat) (w3 : World) (h3 : At W w3 (Both (StoreT sb (newSt c)) (Both (CellT bx #[.slice av ss.length cv, .int .i64 B, .int .i64 f, .int .i64 n, .int .i64 c] tLoM) Nought))) (w' : World) (hb : Below w3.heap.size w3 w') => rNew_at (h3.mono ((StoreT.stable _ _).both HST0.out) hb) ((StoreT.stable _ _).both HST0.out) HC.out
    have HNEW := Lib.hid hnew
    have HRNEW := Lib.hid hrnew
    have HNEW2 := Lib.hid hnew2
    have HRNEW2 := Lib.hid hrnew2
    have hx2 := H2.out.cell.1
    have hcg := cell_at hx2 4
    have hlx := lt_of_heap hx2
    clear hnew hrnew hnew2 hrnew2 hx2
    go_region_held3 (fun wx => wx.cell? ⟨bx, 4, none⟩ = some (.int .i64 c)) (first | assumption | go_keep) ((first
      | ((refine Calls.mono (HRNEW2.out _ _ H3n.out _ (by exact ⟨rfl, rfl, rfl, Nat.le_refl _, fun _ _ => rfl⟩)) ?_); rintro e w4 ⟨rfl, h4⟩; have cg4 := cell_at h4.drop.drop.cell.1 4; have hl4 := lt_of_heap h4.drop.drop.cell.1; have H4 := Lib.hid h4.swap; clear h4)
      | ((refine Calls.mono (HNEW2.out _ _ H3r.out _ (by exact ⟨rfl, rfl, rfl, Nat.le_refl _, fun _ _ => rfl⟩)) ?_); rintro e w4 ⟨rfl, h4⟩; have cg4 := cell_at h4.drop.drop.cell.1 4; have hl4 := lt_of_heap h4.drop.drop.cell.1; have H4 := Lib.hid h4; clear h4)
      | (go_at_call 12; (refine Calls.mono (HNEW.out _ (by exact ⟨rfl, rfl, rfl, Nat.le_refl _, fun _ _ => rfl⟩)) ?_); rintro e w3 ⟨rfl, h3⟩; have cg3 := cell_at h3.drop.cell.1 4; have hl3 := lt_of_heap h3.drop.cell.1; have H3n := Lib.hid h3; clear h3)
      | (go_at_call 19; (refine Calls.mono (HRNEW.out _ (by exact ⟨rfl, rfl, rfl, Nat.le_refl _, fun _ _ => rfl⟩)) ?_); rintro e w3 ⟨rfl, h3⟩; have cg3 := cell_at h3.drop.cell.1 4; have hl3 := lt_of_heap h3.drop.cell.1; have H3r := Lib.hid h3; clear h3)))
    all_goals (refine HK.out _ _ ?_; have hJ := HJ.out; go_meet)
    all_goals exact ⟨_, _, rfl, rfl, H4.out⟩
  case rest =>
  obtain ⟨sb, rb, e6, e7, h3⟩ := hcut
  subst e6 e7
  rename_i wq _ _ _ _
  have H3 := Lib.hid h3
  clear h3 H2
  have neqn : ∀ wz : World, (binOp .neq tErr .nilIface .nilIface).run Tryz.prog wz = .ok (.bool false) wz := fun wz => neq_nil wz
  (repeat' (first | go_values | go_skip | go_guarded | go_step | go_upon | go_back | dsimp only))
  have hs3 : Stable (Both (StoreT sb (newSt c)) (Both (RefT rb (newSt c)) (Both (CellT bx #[.slice av ss.length cv, .int .i64 B, .int .i64 f, .int .i64 n, .int .i64 c] tLoM) Nought))) := (StoreT.stable _ _).both ((RefT.stable _ _).both HST0.out)
  have h4 := (H3.out.newRowG hs3 ((Below.refl _ _).alloc (Nat.le_refl _) _) (World.ownsRow_lit (e := tSx) (size := 1) wc #[.string ⟨#[111, 108, 100]⟩] 1 (Nat.le_refl _) (by decide) rfl)).newCell ((RowG.stable _ _ _ _ _).both hs3) (opOld wc.heap.size) tOp10
  have hla := lays_at (ws := [[111, 108, 100]]) (v := .slice (some ⟨wc.heap.size, 0, none⟩) 1 1) (lv := .slice none 0 0) (k := 1) (n := 0) (m := 0) (h4.perm (show _ = Both (StoreT sb (newSt c)) (Both (RefT rb (newSt c)) (Both (CellT (wc.alloc (.cells #[.string ⟨#[111, 108, 100]⟩] tSx)).heap.size (opOld wc.heap.size) tOp10) (Both (RowG tSx 1 (.slice (some ⟨wc.heap.size, 0, none⟩) 1 1) 1 (strs [[111, 108, 100]])) (Both (CellT bx #[.slice av ss.length cv, .int .i64 B, .int .i64 f, .int .i64 n, .int .i64 c] tLoM) Nought)))) by unfold strs; ac_rfl)) ((CellT.stable _ _ _).both ((RowG.stable _ _ _ _ _).both HST0.out)) HF.out (GoodS.new c) (fun w' h' => RdRow.of_own h'.drop.rowG) (by decide)
  obtain ⟨r1, hr1⟩ := lays_one c [[111, 108, 100]]
  have hg1 := layP_good (GoodS.new c) 1 0 [[111, 108, 100]]
  have HLA := Lib.hid hla
  have HG1 := Lib.hid (And.intro hg1 hr1)
  clear h4 hla hr1 hg1 hs3 H3
  generalize layP (newSt c) 1 0 [[111, 108, 100]] = S1 at *
  refine HLA.out.mono ?_
  rintro e w5 ⟨rfl, h5⟩
  have H5 := Lib.hid (h5.perm (show _ = Both (CellT (wc.alloc (.cells #[.string ⟨#[111, 108, 100]⟩] tSx)).heap.size (opOld wc.heap.size) tOp10) (Both (RowG tSx 1 (.slice (some ⟨wc.heap.size, 0, none⟩) 1 1) 1 (strs [[111, 108, 100]])) (Both (StoreT sb S1) (Both (RefT rb S1) (Both (CellT bx #[.slice av ss.length cv, .int .i64 B, .int .i64 f, .int .i64 n, .int .i64 c] tLoM) Nought)))) by ac_rfl)).drop.drop
  clear h5 HLA
  (repeat' (first | go_values | go_skip | go_guarded | go_step | go_upon | go_back | dsimp only))
  have hk1 : S1.keys = [1] := by unfold St.keys; rw [HG1.out.2]; rfl
  have hlv := Live_at H5.out ((RefT.stable _ _).both HST0.out)
  rw [hk1] at hlv
  refine hlv.mono ?_
  rintro e w6 ⟨v6, rfl, h6⟩
  obtain ⟨a6, c6, hv6, _, _⟩ := own_shape h6.row
  have hv6 : v6 = .slice a6 1 c6 := hv6
  subst hv6
  have hus := Used_at h6.drop
  have HUS := Lib.hid hus
  have H6 := Lib.hid (h6.perm (show _ = Both (StoreT sb S1) (Both (RowT (.slice a6 1 c6) [1]) (Both (RefT rb S1) (Both (CellT bx #[.slice av ss.length cv, .int .i64 B, .int .i64 f, .int .i64 n, .int .i64 c] tLoM) Nought))) by ac_rfl))
  clear hlv h6 hus H5 hk1
  (repeat' (first | go_values | go_skip | go_guarded | go_step | go_upon | go_back | dsimp only))
  refine HUS.out.mono ?_
  rintro e w7 ⟨rfl, rfl⟩
  clear HUS
  have x3 := cell_at H6.out.drop.drop.drop.cell.1 3
  have xl := lt_of_heap H6.out.drop.drop.drop.cell.1
  simp only [List.getElem?_toArray, List.getElem?_cons_zero, List.getElem?_cons_succ] at x3
  (repeat' (first | go_values | go_skip | go_guarded | go_step | go_upon | go_back | dsimp only))
  refine (Break_at H6.out ((RowT.stable _ _).both ((RefT.stable _ _).both HST0.out)) HN.out).mono ?_
  rintro e w8 ⟨rfl, h8⟩
  have x3 := cell_at h8.drop.drop.drop.cell.1 3
  have xl := lt_of_heap h8.drop.drop.drop.cell.1
  simp only [List.getElem?_toArray, List.getElem?_cons_zero, List.getElem?_cons_succ] at x3
  have H8 := Lib.hid (h8.perm (show _ = Both (RefT rb S1) (Both (StoreT sb (breakS S1 n)) (Both (RowT (.slice a6 1 c6) [1]) (Both (CellT bx #[.slice av ss.length cv, .int .i64 B, .int .i64 f, .int .i64 n, .int .i64 c] tLoM) Nought))) by ac_rfl))
  clear h8 H6
  (repeat' (first | go_values | go_skip | go_guarded | go_step | go_upon | go_back | dsimp only))
  refine (rBreak_at H8.out ((StoreT.stable _ _).both ((RowT.stable _ _).both HST0.out)) HN.out).mono ?_
  rintro e w9 ⟨rfl, h9⟩
  have hg2 : GoodS (breakS S1 n) := HG1.out.1.brk HN.out
  have hr2 : (breakS S1 n).runs = [(1, r1)] := HG1.out.2
  have hu2 : (breakS S1 n).used = S1.used := rfl
  have hls := lost_sort hg2 hr2 (b := (b : Int)) (fan := (fn : Int)) (by have := HBF.out; omega) (by have := HBF.out; omega) ss
  rw [hu2] at hls
  have HOK := Lib.hid (sort_okM hg2 (b : Int) (fn : Int) ss)
  have HG2 := Lib.hid hg2
  have HLS := Lib.hid hls
  have x0 := cell_at h9.drop.drop.drop.cell.1 0
  have x1 := cell_at h9.drop.drop.drop.cell.1 1
  have x2 := cell_at h9.drop.drop.drop.cell.1 2
  have xl := lt_of_heap h9.drop.drop.drop.cell.1
  simp only [List.getElem?_toArray, List.getElem?_cons_zero, List.getElem?_cons_succ] at x0 x1 x2
  have H9 := Lib.hid (h9.perm (show _ = Both (StoreT sb (breakS S1 n)) (Both (RowT (.slice a6 1 c6) [1]) (Both (RefT rb (breakS S1 n)) (Both (CellT bx #[.slice av ss.length cv, .int .i64 B, .int .i64 f, .int .i64 n, .int .i64 c] tLoM) Nought))) by ac_rfl))
  clear h9 H8 hg2 hr2 hu2 hls x3
  obtain ⟨p3, p3w, q3, q3w⟩ := HMD.out
  go_upto_region 10 with (fail)
  go_quiet (fail)
  (repeat' (first | go_values | go_skip | go_guarded | go_step | go_upon | go_back | dsimp only))
  have hst9 : Stable (Both (StoreT sb (breakS S1 n)) (Both (RowT (.slice a6 1 c6) [1]) (Both (RefT rb (breakS S1 n)) (Both (CellT bx #[.slice av ss.length cv, .int .i64 B, .int .i64 f, .int .i64 n, .int .i64 c] tLoM) Nought)))) := (StoreT.stable _ _).both ((RowT.stable _ _).both ((RefT.stable _ _).both HST0.out))
  have h9 := H9.out.drewN hst9 nq
  have HTW := Lib.hid (twin10_calls ss (.slice av ss.length cv) (w9.drewN nq) (RD.out.below h9.below) (by have := HSS.out; omega))
  have H9b := Lib.hid h9
  have HST9 := Lib.hid hst9
  clear h9 hst9 H9 p3 p3w q3 q3w x0 x1 x2 xl
  generalize breakS S1 n = S2 at *
  refine HTW.out.mono ?_
  rintro e w10 ⟨vt, rfl, hto, hbt⟩
  have h10 := H9b.out.newRowG HST9.out hbt hto
  obtain ⟨ta, tc, hvt, _, _⟩ := own_shape h10.rowG
  subst hvt
  have hR10 : Stable (Both (RowG tSx 1 (.slice ta ss.length tc) ss.length (strs ss)) (Both (RowT (.slice a6 1 c6) [1]) (Both (RefT rb S2) (Both (CellT bx #[.slice av ss.length cv, .int .i64 B, .int .i64 f, .int .i64 n, .int .i64 c] tLoM) Nought)))) := (RowG.stable _ _ _ _ _).both ((RowT.stable _ _).both ((RefT.stable _ _).both HST0.out))
  have hxl : ∀ x ∈ ss, x.length ≤ 1099511627776 := fun x hx => by have := HSX.out x hx; omega
  have hso := Sort_at9 (ws := ss) (bu := (b : Int)) (fan := (fn : Int)) (v := .slice ta ss.length tc) (h10.perm (show _ = Both (StoreT sb S2) (Both (RowG tSx 1 (.slice ta ss.length tc) ss.length (strs ss)) (Both (RowT (.slice a6 1 c6) [1]) (Both (RefT rb S2) (Both (CellT bx #[.slice av ss.length cv, .int .i64 B, .int .i64 f, .int .i64 n, .int .i64 c] tLoM) Nought)))) by ac_rfl)) hR10 HF.out HG2.out (by have := HBF.out; unfold inI64; omega) (by have := HBF.out; unfold inI64; omega) ⟨_, _, rfl, by have := HSS.out; omega⟩ hxl (fun w' h' => RdRow.of_own h'.rowG)
  have hrso := fun (w' : World) (h' : At W w' (Both (RefT rb S2) (Both (StoreT sb (sortP S2 b fn ss).1) (Both (RowG tSx 1 (.slice ta ss.length tc) ss.length (strs ss)) (Both (RowT (.slice a6 1 c6) [1]) (Both (CellT bx #[.slice av ss.length cv, .int .i64 B, .int .i64 f, .int .i64 n, .int .i64 c] tLoM) Nought)))))) => rSort_at (ws := ss) (bu := (b : Int)) (fan := (fn : Int)) (v := .slice av ss.length cv) h' ((StoreT.stable _ _).both ((RowG.stable _ _ _ _ _).both ((RowT.stable _ _).both HST0.out))) HG2.out (by have := HBF.out; unfold inI64; omega) (by have := HBF.out; unfold inI64; omega) ⟨_, _, rfl, by have := HSS.out; omega⟩ hxl (fun w'' h'' => RD.out.below h''.below)
  have hls := HLS.out
  have hok := HOK.out
  have HSO := Lib.hid hso
  have HRSO := Lib.hid hrso
  clear hso hrso h10 hto hbt hR10 hxl HTW H9b HST9 HLS HOK
  generalize sortP S2 b fn ss = S3 at *
  have HSOK := Lib.hid hok
  have HLS := Lib.hid hls
  clear hok hls
  (repeat' (first | go_values | go_skip | go_guarded | go_step | go_upon | go_back | dsimp only))
  refine HSO.out.mono ?_
  rintro e w11 ⟨rfl, h11⟩
  have H11 := Lib.hid (h11.perm (show _ = Both (RefT rb S2) (Both (StoreT sb S3.1) (Both (RowG tSx 1 (.slice ta ss.length tc) ss.length (strs ss)) (Both (RowT (.slice a6 1 c6) [1]) (Both (CellT bx #[.slice av ss.length cv, .int .i64 B, .int .i64 f, .int .i64 n, .int .i64 c] tLoM) Nought)))) by ac_rfl))
  have x0 := cell_at H11.out.drop.drop.drop.drop.cell.1 0
  have xl := lt_of_heap H11.out.drop.drop.drop.drop.cell.1
  simp only [List.getElem?_toArray, List.getElem?_cons_zero, List.getElem?_cons_succ] at x0
  clear h11 HSO
  (repeat' (first | go_values | go_skip | go_guarded | go_step | go_upon | go_back | dsimp only))
  refine (HRSO.out w11 H11.out).mono ?_
  rintro e w12 ⟨rfl, h12⟩
  have HCD := Lib.hid (code10_calls (c := S3.2.2) (HF.out.below h12.below) HSOK.out)
  have H12 := Lib.hid (h12.perm (show _ = Both (StoreT sb S3.1) (Both (RefT rb S3.1) (Both (RowG tSx 1 (.slice ta ss.length tc) ss.length (strs ss)) (Both (RowT (.slice a6 1 c6) [1]) (Both (CellT bx #[.slice av ss.length cv, .int .i64 B, .int .i64 f, .int .i64 n, .int .i64 c] tLoM) Nought)))) by ac_rfl))
  have hlv := Live_at H12.out ((RefT.stable _ _).both ((RowG.stable _ _ _ _ _).both ((RowT.stable _ _).both HST0.out)))
  have HLV := Lib.hid hlv
  clear h12 H11 HRSO x0 xl hlv
  rcases HLS.out with ⟨z1, m, z2, z3⟩ | ⟨z1, z2, z3, z4⟩
  · rw [z1, errV_zero] at HCD
    rw [z1, z2, errV_zero]
    rw [z3] at HLV
    have heqn := eql_nil
    clear z1 z2 z3 HLS HSOK
    (repeat' (first | go_values | go_skip | go_guarded | go_step | go_upon | go_back | dsimp only))
    refine HCD.out.mono ?_
    rintro e w13 ⟨rfl, rfl⟩
    clear HCD
    (repeat' (first | go_values | go_skip | go_guarded | go_step | go_upon | go_back | dsimp only))
    refine HLV.out.mono ?_
    rintro e w14 ⟨v14, rfl, h14⟩
    obtain ⟨a14, c14, hv14, _, _⟩ := own_shape h14.row
    have hv14 : v14 = .slice a14 2 c14 := hv14
    subst hv14
    obtain ⟨gk, offk, capk, hslk, hck⟩ := (RdRow.of_own h14.row).intA (k := 1) (z := (m : Int)) rfl
    simp only [Value.slice.injEq] at hslk
    obtain ⟨rfl, _, rfl⟩ := hslk
    have hlk := World.block_lt_of_cell? _ _ hck
    have H14 := Lib.hid h14
    clear h14 HLV
    (repeat' (first | go_values | go_skip | go_guarded | go_step | go_upon | go_back | dsimp only))
    go_ret
    exact ⟨rfl, H14.out.below⟩
  · have hep := errV_pos ef z1
    have hzn := eql_errV ef z1
    rw [hep] at hzn
    rw [z2, hep]
    rw [hep] at HCD
    rw [z3] at HLV
    have HU := Lib.hid z4
    clear z1 z2 z3 z4 hep HLS HSOK
    (repeat' (first | go_values | go_skip | go_guarded | go_step | go_upon | go_back | dsimp only))
    refine HCD.out.mono ?_
    rintro e w13 ⟨rfl, rfl⟩
    clear HCD
    (repeat' (first | go_values | go_skip | go_guarded | go_step | go_upon | go_back | dsimp only))
    refine HLV.out.mono ?_
    rintro e w14 ⟨v14, rfl, h14⟩
    obtain ⟨a14, c14, hv14, _, _⟩ := own_shape h14.row
    have hv14 : v14 = .slice a14 1 c14 := hv14
    subst hv14
    have hus := Used_at h14.drop
    rw [HU.out] at hus
    have HUS := Lib.hid hus
    have H14 := Lib.hid h14
    clear h14 HLV hus
    (repeat' (first | go_values | go_skip | go_guarded | go_step | go_upon | go_back | dsimp only))
    refine HUS.out.mono ?_
    rintro e w15 ⟨rfl, rfl⟩
    clear HUS
    (repeat' (first | go_values | go_skip | go_guarded | go_step | go_upon | go_back | dsimp only))
    go_ret
    exact ⟨rfl, H14.out.below⟩
end Go.Proofs.YtadokkffmekndaaGreatDoor
