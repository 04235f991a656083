/- hornbookref08 (lists of texts that rise): merge and Of walked. · hornbookref08.Of walked. · hornbookref08: Union, halve and Has walked. -/
import Derived.Test.YtgeabmmicofanaaGreatDoorBuSpLaw01
import Derived.Test.YtgeabmmicofanaaGreatDoorBuSpLaw04
import Derived.Test.YtgeabmmicofanaaGreatDoorBuSpLaw30
import Derived.Test.YtgeabmmicofanaaGreatDoorProg
import Derived.Deep.RegionHeld3
import Derived.Deep.QuietTactic
import Derived.BigQuiet
import Derived.BigRegion
set_option linter.unusedSimpArgs false
set_option linter.unusedVariables false
namespace Go.Proofs.YtgeabmmicofanaaGreatDoor
section
open Go.RowKit

abbrev tSt : TypeId := 9
theorem info_St8 : (Tryz.prog.info? tSt).map (fun i => (i.zero, i.size, i.bytes)) = some (some (.string ⟨#[]⟩), 1, 16) := by kernel_rfl
theorem At.newLits8 {W w : World} {Φ : Thing} (h : At W w Φ) (hs : Stable Φ) (e : TypeId) (size n : Nat) (C : Array Value) (hC : C.size = n * size) (hn : n ≤ maxLen) : At W (w.alloc (.cells C e)) (Both (RowG e size (.slice (some ⟨w.heap.size, 0, none⟩) n n) n C.toList) Φ) :=
  h.newRowG hs ((Below.refl _ _).alloc (Nat.le_refl _) _) ⟨by simpa using hC, .inr ⟨w.heap.size, n, C, rfl, Nat.le_refl _, heap_alloc_new _ _, Nat.le_refl _, hn, hC, by rw [List.take_of_length_le (by simp [hC])]⟩⟩
/-- 'append(s, x, ..)' behind a draw. -/
theorem wpList_append_to_dr {P : Program} {W w : World} {R : Thing} {ops : Array Oper} {rest : List Oper} {o : Oper} {a : Act} {Q : Exit → Act → World → Prop} (hgd : o.guard = none)
    (s x : Operand) (t e : TypeId) (ho : o.op = .call { callee := .builtin .append, args := #[s, x], argTypes := #[t, t] }) (ht : P.underlying t = some (.slice e))
    {z : Value} {size bytes : Nat} (hinfo : (P.info? e).map (fun i => (i.zero, i.size, i.bytes)) = some (some z, size, bytes)) (hzs : z.cells.size = size) (hsz : 0 < size)
    {v : Value} {n : Nat} {xs : List Value} (hs : a.eval s = v) (hat : At W w (Both (RowG e size v n xs) R)) (hR : Stable R)
    {C : Array Value} {g m c : Nat} (hx : a.eval x = .slice (some ⟨g, 0, none⟩) m c) (hg : g = w.heap.size) (hC : C.size = m * size) (h1 : ∀ u ∈ C.toList, u.oneCell' = true)
    (h63 : n + m ≤ maxLen) (hbytes : (n + m) * bytes ≤ 140737488355328)
    (h : ∀ ao cap w', At W w' (Both (RowG e size (.slice ao (n + m) cap) (n + m) (xs ++ C.toList)) R) → Upd (rowOf v) w.drew w' → wpList P ops Q rest (a.put o.dst (.slice ao (n + m) cap)) w') : wpList P ops Q (o :: rest) a (w.alloc (.cells C e)).drew :=
  wpList_append_to (w := w.drew) hgd s x t e ho ht hinfo hzs hsz hs (hat.drew ((RowG.stable _ _ _ _ _).both hR)) hR hx hg hC h1 h63 hbytes h
/-- 'append(s, x, ..)' behind two. -/
theorem wpList_append_to_dr2 {P : Program} {W w : World} {R : Thing} {ops : Array Oper} {rest : List Oper} {o : Oper} {a : Act} {Q : Exit → Act → World → Prop} (hgd : o.guard = none)
    (s x : Operand) (t e : TypeId) (ho : o.op = .call { callee := .builtin .append, args := #[s, x], argTypes := #[t, t] }) (ht : P.underlying t = some (.slice e))
    {z : Value} {size bytes : Nat} (hinfo : (P.info? e).map (fun i => (i.zero, i.size, i.bytes)) = some (some z, size, bytes)) (hzs : z.cells.size = size) (hsz : 0 < size)
    {v : Value} {n : Nat} {xs : List Value} (hs : a.eval s = v) (hat : At W w (Both (RowG e size v n xs) R)) (hR : Stable R)
    {C : Array Value} {g m c : Nat} (hx : a.eval x = .slice (some ⟨g, 0, none⟩) m c) (hg : g = w.heap.size) (hC : C.size = m * size) (h1 : ∀ u ∈ C.toList, u.oneCell' = true)
    (h63 : n + m ≤ maxLen) (hbytes : (n + m) * bytes ≤ 140737488355328)
    (h : ∀ ao cap w', At W w' (Both (RowG e size (.slice ao (n + m) cap) (n + m) (xs ++ C.toList)) R) → Upd (rowOf v) w.drew.drew w' → wpList P ops Q rest (a.put o.dst (.slice ao (n + m) cap)) w') : wpList P ops Q (o :: rest) a (w.alloc (.cells C e)).drew.drew :=
  wpList_append_to (w := w.drew.drew) hgd s x t e ho ht hinfo hzs hsz hs ((hat.drew ((RowG.stable _ _ _ _ _).both hR)).drew ((RowG.stable _ _ _ _ _).both hR)) hR hx hg hC h1 h63 hbytes h
theorem strs_snoc8 (L : List (List UInt8)) (x : List UInt8) : strs (L ++ [x]) = strs L ++ [.string ⟨x.toArray⟩] := by simp [strs]
theorem drop_get {L : List (List UInt8)} {i : Nat} {x : List UInt8} (h : L[i]? = some x) : L.drop i = x :: L.drop (i + 1) := by
  obtain ⟨h1, h2⟩ := List.getElem?_eq_some_iff.1 h
  rw [List.drop_eq_getElem_cons h1, h2]

set_option maxRecDepth 100000 in
set_option maxHeartbeats 6400000 in
theorem merge_calls {w : World} {la lb : List (List UInt8)} {va vb : Value} (ha : RdRow w va la.length 1 (strs la)) (hb : RdRow w vb lb.length 1 (strs lb)) (hn : la.length + lb.length ≤ 1099511627776) :
    Calls Tryz.prog 33 #[va, vb] w fun e w' => ∃ vo, e = .returned vo ∧ At w w' (Both (RowG tSt 1 vo (mergeL la lb).length (strs (mergeL la lb))) Nought) := by
  obtain ⟨aa, ac, rfl, _, hac⟩ := ha.shape
  obtain ⟨ba, bc, rfl, _, hbc⟩ := hb.shape
  unfold maxLen at hac hbc
  have HA := Lib.hid ha
  have HB := Lib.hid hb
  have H0 := Lib.hid ((At.nought (Below.refl w.heap.size w)).noRowG Stable.nought tSt 1)
  clear ha hb
  go_enter Tryz.func33, Tryz.ntmps33
  (repeat' (first | (go_big_may; fail) | go_values | go_skip | go_guarded | go_step | go_upon | go_back | dsimp only))
  go_loopw [5, 6, 7] (fun vo vi vj wr => ∃ (i j : Nat) (L : List (List UInt8)), vi = .int .i64 i ∧ vj = .int .i64 j ∧ i ≤ la.length ∧ j ≤ lb.length ∧ L.length ≤ i + j ∧ L ++ mergeL (la.drop i) (lb.drop j) = mergeL la lb ∧ At w wr (Both (RowG tSt 1 vo L.length (strs L)) Nought)) (fun _ vi vj _ => (la.length - (intOf vi).toNat) + (lb.length - (intOf vj).toNat))
  case atStart => exact ⟨0, 0, [], rfl, rfl, Nat.zero_le _, Nat.zero_le _, Nat.le_refl _, by simp, H0.out⟩
  case round =>
    obtain ⟨i, j, L, rfl, rfl, hi, hj, hL, hmg, h1⟩ := hrel
    obtain ⟨oa, oc, hu5, _, _⟩ := own_shape h1.rowG
    subst hu5
    have H1 := Lib.hid h1
    have HMG := Lib.hid hmg
    by_cases hlj : j < lb.length
    · obtain ⟨y, hy⟩ : ∃ y, lb[j]? = some y := ⟨_, List.getElem?_eq_getElem hlj⟩
      obtain ⟨b', off', cap', hsl', hcy⟩ := (HB.out.below h1.below).str hy
      cases hsl'
      have hjI : (j : Int) < (lb.length : Int) := by omega
      have hjI2 : ¬ (lb.length : Int) ≤ (j : Int) := by omega
      have hdy := drop_get hy
      by_cases hli : i < la.length
      · obtain ⟨x, hx⟩ : ∃ x, la[i]? = some x := ⟨_, List.getElem?_eq_getElem hli⟩
        obtain ⟨b, off, cap, hsl, hcx⟩ := (HA.out.below h1.below).str hx
        cases hsl
        have hiI : (i : Int) < (la.length : Int) := by omega
        have hdx := drop_get hx
        have HDX := Lib.hid hdx
        have HDY := Lib.hid hdy
        clear h1 hmg hdx hdy hx hy
        cases hlt : Op.bytesLess x y with
        | true =>
          have HLT := Lib.hid hlt
          (repeat' (first | (go_big_may; fail) | go_values | go_skip | go_guarded | go_step | go_upon | go_back | dsimp only))
          (refine region_still_tail 20 (by kernel_rfl) (by kernel_rfl) ?_; simp only [List.take_succ_cons, List.take_zero, List.drop_succ_cons, List.drop_zero]; (iterate 20 (first | ((with_reducible refine still_plain ?_ rfl ?_ ?_); rotate_left; (next => (go_simp; (try with_reducible rfl))); simp only [Act.put, List.setIfInBounds_toArray, List.set_cons_zero, List.set_cons_succ]) | ((with_reducible refine still_skip ?_ ?_); (next => (go_simp; done)); simp only [Act.put, List.setIfInBounds_toArray, List.set_cons_zero, List.set_cons_succ]) | ((with_reducible refine still_val ?_ ?_ ?_ ?_); rotate_left; (next => (go_simp; done)); (next => (go_simp; (try with_reducible rfl))); simp only [Act.put, List.setIfInBounds_toArray, List.set_cons_zero, List.set_cons_succ]))); (with_reducible refine wpStill_nil ?_))
          (repeat' (first | (go_big_may; ((at_builtin; go_must (refine wpList_append_to_dr rfl _ _ 32 tSt rfl Tryz.underlying32 info_St8 rfl (by decide) rfl (H1.out) (Stable.nought) rfl (by first | rfl | simp) rfl (one_str _) (by unfold maxLen; omega) (by omega) ?_); intro a2 c2 w2 h2 _); have H2 := Lib.hid h2; clear h2)) | go_values | go_skip | go_guarded | go_step | go_upon | go_back | dsimp only))
          go_roundw
          case rel =>
            refine ⟨i + 1, j, L ++ [x], by simp, by simp, by omega, hj, by simp; omega, ?_, ?_⟩
            · rw [← HMG.out, HDX.out, HDY.out, mergeL_lt HLT.out, List.append_assoc]; rfl
            · rw [strs_snoc8, List.length_append]; exact H2.out
          case measure => simp [intOf] <;> omega
        | false =>
          have HLT := Lib.hid hlt
          by_cases hxy : x = y
          · have hs : (x == y) = true := by simp [hxy]
            have HXY := Lib.hid hxy
            clear hxy
            (repeat' (first | (go_big_may; fail) | go_values | go_skip | go_guarded | go_step | go_upon | go_back | dsimp only))
            (refine region_still_tail 20 (by kernel_rfl) (by kernel_rfl) ?_; simp only [List.take_succ_cons, List.take_zero, List.drop_succ_cons, List.drop_zero]; (iterate 20 (first | ((with_reducible refine still_plain ?_ rfl ?_ ?_); rotate_left; (next => (go_simp; (try with_reducible rfl))); simp only [Act.put, List.setIfInBounds_toArray, List.set_cons_zero, List.set_cons_succ]) | ((with_reducible refine still_skip ?_ ?_); (next => (go_simp; done)); simp only [Act.put, List.setIfInBounds_toArray, List.set_cons_zero, List.set_cons_succ]) | ((with_reducible refine still_val ?_ ?_ ?_ ?_); rotate_left; (next => (go_simp; done)); (next => (go_simp; (try with_reducible rfl))); simp only [Act.put, List.setIfInBounds_toArray, List.set_cons_zero, List.set_cons_succ]))); (with_reducible refine wpStill_nil ?_))
            (repeat' (first | (go_big_may; fail) | go_values | go_skip | go_guarded | go_step | go_upon | go_back | dsimp only))
            (refine region_still_tail 14 (by kernel_rfl) (by kernel_rfl) ?_; simp only [List.take_succ_cons, List.take_zero, List.drop_succ_cons, List.drop_zero]; (iterate 14 (first | ((with_reducible refine still_plain ?_ rfl ?_ ?_); rotate_left; (next => (go_simp; (try with_reducible rfl))); simp only [Act.put, List.setIfInBounds_toArray, List.set_cons_zero, List.set_cons_succ]) | ((with_reducible refine still_skip ?_ ?_); (next => (go_simp; done)); simp only [Act.put, List.setIfInBounds_toArray, List.set_cons_zero, List.set_cons_succ]) | ((with_reducible refine still_val ?_ ?_ ?_ ?_); rotate_left; (next => (go_simp; done)); (next => (go_simp; (try with_reducible rfl))); simp only [Act.put, List.setIfInBounds_toArray, List.set_cons_zero, List.set_cons_succ]))); (with_reducible refine wpStill_nil ?_))
            (repeat' (first | (go_big_may; ((at_builtin; go_must (refine wpList_append_to_dr2 rfl _ _ 32 tSt rfl Tryz.underlying32 info_St8 rfl (by decide) rfl (H1.out) (Stable.nought) rfl (by first | rfl | simp) rfl (one_str _) (by unfold maxLen; omega) (by omega) ?_); intro a2 c2 w2 h2 _); have H2 := Lib.hid h2; clear h2)) | go_values | go_skip | go_guarded | go_step | go_upon | go_back | dsimp only))
            go_roundw
            case rel =>
              refine ⟨i + 1, j + 1, L ++ [y], by simp, by simp, by omega, by omega, by simp; omega, ?_, ?_⟩
              · rw [← HMG.out, HDX.out, HDY.out, mergeL_eq HXY.out, List.append_assoc]; rfl
              · rw [strs_snoc8, List.length_append]; exact H2.out
            case measure => simp [intOf] <;> omega
          · have hs : (x == y) = false := by simp [hxy]
            have HXY := Lib.hid hxy
            clear hxy
            (repeat' (first | (go_big_may; fail) | go_values | go_skip | go_guarded | go_step | go_upon | go_back | dsimp only))
            (refine region_still_tail 20 (by kernel_rfl) (by kernel_rfl) ?_; simp only [List.take_succ_cons, List.take_zero, List.drop_succ_cons, List.drop_zero]; (iterate 20 (first | ((with_reducible refine still_plain ?_ rfl ?_ ?_); rotate_left; (next => (go_simp; (try with_reducible rfl))); simp only [Act.put, List.setIfInBounds_toArray, List.set_cons_zero, List.set_cons_succ]) | ((with_reducible refine still_skip ?_ ?_); (next => (go_simp; done)); simp only [Act.put, List.setIfInBounds_toArray, List.set_cons_zero, List.set_cons_succ]) | ((with_reducible refine still_val ?_ ?_ ?_ ?_); rotate_left; (next => (go_simp; done)); (next => (go_simp; (try with_reducible rfl))); simp only [Act.put, List.setIfInBounds_toArray, List.set_cons_zero, List.set_cons_succ]))); (with_reducible refine wpStill_nil ?_))
            (repeat' (first | (go_big_may; fail) | go_values | go_skip | go_guarded | go_step | go_upon | go_back | dsimp only))
            (refine region_still_tail 14 (by kernel_rfl) (by kernel_rfl) ?_; simp only [List.take_succ_cons, List.take_zero, List.drop_succ_cons, List.drop_zero]; (iterate 14 (first | ((with_reducible refine still_plain ?_ rfl ?_ ?_); rotate_left; (next => (go_simp; (try with_reducible rfl))); simp only [Act.put, List.setIfInBounds_toArray, List.set_cons_zero, List.set_cons_succ]) | ((with_reducible refine still_skip ?_ ?_); (next => (go_simp; done)); simp only [Act.put, List.setIfInBounds_toArray, List.set_cons_zero, List.set_cons_succ]) | ((with_reducible refine still_val ?_ ?_ ?_ ?_); rotate_left; (next => (go_simp; done)); (next => (go_simp; (try with_reducible rfl))); simp only [Act.put, List.setIfInBounds_toArray, List.set_cons_zero, List.set_cons_succ]))); (with_reducible refine wpStill_nil ?_))
            (repeat' (first | (go_big_may; ((at_builtin; go_must (refine wpList_append_to_dr2 rfl _ _ 32 tSt rfl Tryz.underlying32 info_St8 rfl (by decide) rfl (H1.out) (Stable.nought) rfl (by first | rfl | simp) rfl (one_str _) (by unfold maxLen; omega) (by omega) ?_); intro a2 c2 w2 h2 _); have H2 := Lib.hid h2; clear h2)) | go_values | go_skip | go_guarded | go_step | go_upon | go_back | dsimp only))
            go_roundw
            case rel =>
              refine ⟨i, j + 1, L ++ [y], by simp, by simp, by omega, by omega, by simp; omega, ?_, ?_⟩
              · rw [← HMG.out, HDX.out, HDY.out, mergeL_gt HLT.out HXY.out, List.append_assoc]; rfl
              · rw [strs_snoc8, List.length_append]; exact H2.out
            case measure => simp [intOf] <;> omega
      · have hiI : ¬ (i : Int) < (la.length : Int) := by omega
        have hdx : la.drop i = [] := List.drop_eq_nil_of_le (by omega)
        have HDX := Lib.hid hdx
        have HDY := Lib.hid hdy
        clear h1 hmg hdx hdy hy
        (repeat' (first | (go_big_may; fail) | go_values | go_skip | go_guarded | go_step | go_upon | go_back | dsimp only))
        (refine region_still_tail 20 (by kernel_rfl) (by kernel_rfl) ?_; simp only [List.take_succ_cons, List.take_zero, List.drop_succ_cons, List.drop_zero]; (iterate 20 (first | ((with_reducible refine still_plain ?_ rfl ?_ ?_); rotate_left; (next => (go_simp; (try with_reducible rfl))); simp only [Act.put, List.setIfInBounds_toArray, List.set_cons_zero, List.set_cons_succ]) | ((with_reducible refine still_skip ?_ ?_); (next => (go_simp; done)); simp only [Act.put, List.setIfInBounds_toArray, List.set_cons_zero, List.set_cons_succ]) | ((with_reducible refine still_val ?_ ?_ ?_ ?_); rotate_left; (next => (go_simp; done)); (next => (go_simp; (try with_reducible rfl))); simp only [Act.put, List.setIfInBounds_toArray, List.set_cons_zero, List.set_cons_succ]))); (with_reducible refine wpStill_nil ?_))
        (repeat' (first | (go_big_may; fail) | go_values | go_skip | go_guarded | go_step | go_upon | go_back | dsimp only))
        (refine region_still_tail 14 (by kernel_rfl) (by kernel_rfl) ?_; simp only [List.take_succ_cons, List.take_zero, List.drop_succ_cons, List.drop_zero]; (iterate 14 (first | ((with_reducible refine still_plain ?_ rfl ?_ ?_); rotate_left; (next => (go_simp; (try with_reducible rfl))); simp only [Act.put, List.setIfInBounds_toArray, List.set_cons_zero, List.set_cons_succ]) | ((with_reducible refine still_skip ?_ ?_); (next => (go_simp; done)); simp only [Act.put, List.setIfInBounds_toArray, List.set_cons_zero, List.set_cons_succ]) | ((with_reducible refine still_val ?_ ?_ ?_ ?_); rotate_left; (next => (go_simp; done)); (next => (go_simp; (try with_reducible rfl))); simp only [Act.put, List.setIfInBounds_toArray, List.set_cons_zero, List.set_cons_succ]))); (with_reducible refine wpStill_nil ?_))
        (repeat' (first | (go_big_may; ((at_builtin; go_must (refine wpList_append_to_dr2 rfl _ _ 32 tSt rfl Tryz.underlying32 info_St8 rfl (by decide) rfl (H1.out) (Stable.nought) rfl (by first | rfl | simp) rfl (one_str _) (by unfold maxLen; omega) (by omega) ?_); intro a2 c2 w2 h2 _); have H2 := Lib.hid h2; clear h2)) | go_values | go_skip | go_guarded | go_step | go_upon | go_back | dsimp only))
        go_roundw
        case rel =>
          refine ⟨i, j + 1, L ++ [y], by simp, by simp, by omega, by omega, by simp; omega, ?_, ?_⟩
          · rw [← HMG.out, HDX.out, HDY.out, mergeL_nil, mergeL_nil, List.append_assoc]; rfl
          · rw [strs_snoc8, List.length_append]; exact H2.out
        case measure => simp [intOf] <;> omega
    · obtain rfl : j = lb.length := by omega
      have hdy : lb.drop lb.length = [] := List.drop_eq_nil_of_le (by omega)
      by_cases hli : i < la.length
      · obtain ⟨x, hx⟩ : ∃ x, la[i]? = some x := ⟨_, List.getElem?_eq_getElem hli⟩
        obtain ⟨b, off, cap, hsl, hcx⟩ := (HA.out.below h1.below).str hx
        cases hsl
        have hiI : (i : Int) < (la.length : Int) := by omega
        have HDX := Lib.hid (drop_get hx)
        have HDY := Lib.hid hdy
        clear h1 hmg hdy hx
        (repeat' (first | (go_big_may; fail) | go_values | go_skip | go_guarded | go_step | go_upon | go_back | dsimp only))
        (refine region_still_tail 20 (by kernel_rfl) (by kernel_rfl) ?_; simp only [List.take_succ_cons, List.take_zero, List.drop_succ_cons, List.drop_zero]; (iterate 20 (first | ((with_reducible refine still_plain ?_ rfl ?_ ?_); rotate_left; (next => (go_simp; (try with_reducible rfl))); simp only [Act.put, List.setIfInBounds_toArray, List.set_cons_zero, List.set_cons_succ]) | ((with_reducible refine still_skip ?_ ?_); (next => (first | (go_simp; done) | (go_simp; simp [undef]; done))); simp only [Act.put, List.setIfInBounds_toArray, List.set_cons_zero, List.set_cons_succ]) | ((with_reducible refine still_val ?_ ?_ ?_ ?_); rotate_left; (next => (go_simp; done)); (next => (go_simp; (try with_reducible rfl))); simp only [Act.put, List.setIfInBounds_toArray, List.set_cons_zero, List.set_cons_succ]))); (with_reducible refine wpStill_nil ?_))
        (repeat' (first | (go_big_may; ((at_builtin; go_must (refine wpList_append_to_dr rfl _ _ 32 tSt rfl Tryz.underlying32 info_St8 rfl (by decide) rfl (H1.out) (Stable.nought) rfl (by first | rfl | simp) rfl (one_str _) (by unfold maxLen; omega) (by omega) ?_); intro a2 c2 w2 h2 _); have H2 := Lib.hid h2; clear h2)) | go_values | go_skip | go_guarded | go_step | go_upon | go_back | dsimp only))
        go_roundw
        case rel =>
          refine ⟨i + 1, lb.length, L ++ [x], by simp, by simp, by omega, hj, by simp; omega, ?_, ?_⟩
          · rw [← HMG.out, HDX.out, HDY.out, mergeL_end, mergeL_end, List.append_assoc]; rfl
          · rw [strs_snoc8, List.length_append]; exact H2.out
        case measure => simp [intOf] <;> omega
      · obtain rfl : i = la.length := by omega
        have hdx : la.drop la.length = [] := List.drop_eq_nil_of_le (by omega)
        have hLe : L = mergeL la lb := by rw [← hmg, hdx, hdy, mergeL_nil, List.append_nil]
        have HLE := Lib.hid hLe
        clear h1 hmg hdx hdy hLe
        (repeat' (first | (go_big_may; fail) | go_values | go_skip | go_guarded | go_step | go_upon | go_back | dsimp only))
        go_ret
        rw [← HLE.out]
        exact ⟨_, rfl, H1.out⟩
end

section
section
open Go.RowKit

theorem RdRow.front {w : World} {b off n cap size : Nat} {cs : List Value} (h : RdRow w (.slice (some ⟨b, off, none⟩) n cap) n size cs) {k : Nat} (hk : k ≤ n) : RdRow w (.slice (some ⟨b, off, none⟩) k cap) k size (cs.take (k * size)) := by
  obtain ⟨hl, a, cap', hv, h1, h2, h3⟩ := h
  cases hv
  have := Nat.mul_le_mul_right size hk
  refine ⟨by rw [List.length_take, hl]; omega, _, cap, rfl, by omega, h2, fun j u hu => ?_⟩
  rw [List.getElem?_take] at hu
  split at hu
  · exact h3 j u hu
  · cases hu
theorem RdRow.back {w : World} {b off n cap size : Nat} {cs : List Value} (h : RdRow w (.slice (some ⟨b, off, none⟩) n cap) n size cs) {k : Nat} (hk : k ≤ n) : RdRow w (.slice (some ⟨b, off + k * size, none⟩) (n - k) (cap - k)) (n - k) size (cs.drop (k * size)) := by
  obtain ⟨hl, a, cap', hv, h1, h2, h3⟩ := h
  cases hv
  refine ⟨by rw [List.length_drop, hl, Nat.sub_mul], _, cap - k, rfl, by omega, by omega, fun j u hu => ?_⟩
  rw [List.getElem?_drop] at hu
  obtain ⟨b', off', he, hc⟩ := h3 (k * size + j) u hu
  cases he
  exact ⟨b, off + k * size, rfl, by rw [Nat.add_assoc]; exact hc⟩
theorem strs_take (L : List (List UInt8)) (k : Nat) : (strs L).take k = strs (L.take k) := by simp [strs, List.map_take]
theorem strs_drop (L : List (List UInt8)) (k : Nat) : (strs L).drop k = strs (L.drop k) := by simp [strs, List.map_drop]
theorem At.rebase {W w w' : World} {Φ : Thing} (h : At w w' Φ) (hb : Below W.heap.size W w) : At W w' Φ := by
  obtain ⟨h0, fp, h1, h2⟩ := h
  exact ⟨hb.trans (h0.mono hb.size), fp, h1, fun k hk => Nat.le_trans hb.size (h2 k hk)⟩
set_option maxRecDepth 100000 in
set_option maxHeartbeats 3200000 in
theorem Of_at (n : Nat) : ∀ (w : World) (L : List (List UInt8)) (v : Value), L.length ≤ n → L.length ≤ 1099511627776 → RdRow w v L.length 1 (strs L) →
    Calls Tryz.prog 11 #[v] w fun e w' => ∃ vo, e = .returned vo ∧ At w w' (Both (RowG tSt 1 vo (ofL L).length (strs (ofL L))) Nought) := by
  induction n with
  | zero =>
    intro w L v h hb hr
    obtain rfl : L = [] := List.eq_nil_of_length_eq_zero (by omega)
    obtain ⟨a, c, hv, _, _⟩ := hr.shape
    simp only [List.length_nil] at hv
    subst hv
    rw [ofL_nil]
    have H0 := Lib.hid ((At.nought (Below.refl w.heap.size w)).noRowG Stable.nought tSt 1)
    clear hr
    go_enter Tryz.func11, Tryz.ntmps11
    (repeat' (first | (go_big_may; fail) | go_values | go_skip | go_guarded | go_step | go_upon | go_back | dsimp only))
    go_ret
    exact ⟨_, rfl, H0.out⟩
  | succ n ih =>
    intro w L v h hb hr
    obtain ⟨a, c, rfl, hc1, hc2⟩ := hr.shape
    unfold maxLen at hc2
    by_cases h0 : L.length = 0
    · exact ih w L _ (by omega) hb hr
    · by_cases h1 : L.length = 1
      · obtain ⟨x, rfl⟩ : ∃ x, L = [x] := by
          match L, h1 with
          | [x], _ => exact ⟨x, rfl⟩
        rw [ofL_one]
        obtain ⟨b, off, cap, hs, hcell⟩ := hr.str (k := 0) (r := x) rfl
        simp only [List.length_cons, List.length_nil, Nat.zero_add] at hs
        cases hs
        simp only [Nat.add_zero] at hcell
        have H1 := Lib.hid ((At.nought (Below.refl w.heap.size w)).newLits8 Stable.nought tSt 1 1 #[.string ⟨x.toArray⟩] rfl (by unfold maxLen; omega))
        clear hr ih
        go_enter Tryz.func11, Tryz.ntmps11
        (repeat' (first | (go_big_may; fail) | go_values | go_skip | go_guarded | go_step | go_upon | go_back | dsimp only))
        go_ret
        exact ⟨_, rfl, H1.out⟩
      · have h2 : 2 ≤ L.length := by omega
        obtain ⟨x0, hx0⟩ : ∃ x, L[0]? = some x := ⟨_, List.getElem?_eq_getElem (by omega)⟩
        obtain ⟨b, off, cap, hs, _⟩ := hr.str hx0
        cases hs
        have hr1 := hr.front (k := L.length / 2) (by omega)
        have hr2 := hr.back (k := L.length / 2) (by omega)
        rw [Nat.mul_one, strs_take] at hr1
        rw [Nat.mul_one, strs_drop] at hr2
        have ht : (L.take (L.length / 2)).length = L.length / 2 := by rw [List.length_take]; omega
        have hd : (L.drop (L.length / 2)).length = L.length - L.length / 2 := List.length_drop
        have HI1 := Lib.hid (ih w (L.take (L.length / 2)) _ (by omega) (by omega) (by rw [ht]; exact hr1))
        have HI2 := Lib.hid (fun w' (hbl : Below w.heap.size w w') => ih w' (L.drop (L.length / 2)) _ (by omega) (by omega) (by rw [hd]; exact hr2.below hbl))
        have HOF := Lib.hid (ofL_two h2)
        have hl1 := ofL_len (L.take (L.length / 2))
        have hl2 := ofL_len (L.drop (L.length / 2))
        rw [ht] at hl1
        rw [hd] at hl2
        have hne0 : ((L.length : Int) == 0) = false := beq_eq_false_iff_ne.2 (by omega)
        have hne1 : ((L.length : Int) == 1) = false := beq_eq_false_iff_ne.2 (by omega)
        rw [HOF.out]
        clear hr ih hr1 hr2 hx0
        generalize ofL (L.take (L.length / 2)) = P at *
        generalize ofL (L.drop (L.length / 2)) = Q at *
        have hmg : P.length + Q.length ≤ 1099511627776 := by omega
        have HMG := Lib.hid (fun w' va vb (ha : RdRow w' va P.length 1 (strs P)) (hb : RdRow w' vb Q.length 1 (strs Q)) => merge_calls ha hb hmg)
        clear hl1 hl2 ht hd hmg
        go_enter Tryz.func11, Tryz.ntmps11
        (repeat' (first | (go_big_may; fail) | go_values | go_skip | go_guarded | go_step | go_upon | go_back | dsimp only))
        refine HI1.out.mono ?_
        rintro e1 w1 ⟨v1, rfl, k1⟩
        have K1 := Lib.hid k1
        clear k1
        (repeat' (first | (go_big_may; fail) | go_values | go_skip | go_guarded | go_step | go_upon | go_back | dsimp only))
        refine (HI2.out _ K1.out.below).mono ?_
        rintro e2 w2 ⟨v2, rfl, k2⟩
        have K2 := Lib.hid k2
        have KB := Lib.hid (RdRow.below (RdRow.of_own K1.out.rowG) k2.below)
        have HM2 := Lib.hid (HMG.out w2 v1 v2 KB.out (RdRow.of_own k2.rowG))
        clear k2
        (repeat' (first | (go_big_may; fail) | go_values | go_skip | go_guarded | go_step | go_upon | go_back | dsimp only))
        refine HM2.out.mono ?_
        rintro e3 w3 ⟨v3, rfl, k3⟩
        have hb3 : Below w.heap.size w w2 := K1.out.below.trans (K2.out.below.mono K1.out.below.size)
        have K3 := Lib.hid (k3.rebase hb3)
        clear k3 hb3
        (repeat' (first | (go_big_may; fail) | go_values | go_skip | go_guarded | go_step | go_upon | go_back | dsimp only))
        go_ret
        exact ⟨_, rfl, K3.out⟩
end

section
open Go.RowKit

theorem RUnion_calls {w : World} {la lb : List (List UInt8)} {va vb : Value} (ha : RdRow w va la.length 1 (strs la)) (hb : RdRow w vb lb.length 1 (strs lb)) (hn : la.length + lb.length ≤ 1099511627776) :
    Calls Tryz.prog 13 #[va, vb] w fun e w' => ∃ vo, e = .returned vo ∧ At w w' (Both (RowG tSt 1 vo (mergeL la lb).length (strs (mergeL la lb))) Nought) := by
  have HM := Lib.hid (merge_calls ha hb hn)
  obtain ⟨aa, ac, rfl, _, _⟩ := ha.shape
  obtain ⟨ba, bc, rfl, _, _⟩ := hb.shape
  clear ha hb
  go_enter Tryz.func13, Tryz.ntmps13
  (repeat' (first | (go_big_may; fail) | go_values | go_skip | go_guarded | go_step | go_upon | go_back | dsimp only))
  refine HM.out.mono ?_
  rintro e w' ⟨vo, rfl, h⟩
  (repeat' (first | (go_big_may; fail) | go_values | go_skip | go_guarded | go_step | go_upon | go_back | dsimp only))
  go_ret
  exact ⟨_, rfl, h⟩
theorem At.glue {W w w' : World} {X R : Thing} (h : At W w R) (hR : Stable R) (h2 : At w w' (Both X Nought)) : At W w' (Both X R) := by
  obtain ⟨hb, fp, ⟨f, g, h3, h4, h5, h6⟩, h7⟩ := h2
  exact h.add hR hb h3 fun k hk => h7 k ((h6 k).2 (.inl hk))
set_option maxRecDepth 100000 in
set_option maxHeartbeats 800000 in
theorem halve_calls {w : World} {L : List (List UInt8)} {v : Value} (hr : RisesL L) (hv : RdRow w v L.length 1 (strs L)) (hn : L.length ≤ 1099511627776) (z : List UInt8) :
    Calls Tryz.prog 47 #[v, .string ⟨z.toArray⟩] w fun e w' => e = .returned (.int .i64 (belowL L z)) ∧ w' = w := by
  obtain ⟨a, c, rfl, _, hc⟩ := hv.shape
  unfold maxLen at hc
  have HV := Lib.hid hv
  have HR := Lib.hid hr
  have hble := belowL_le L z
  clear hv hr
  go_enter Tryz.func47, Tryz.ntmps47
  (repeat' (first | (go_big_may; fail) | go_values | go_skip | go_guarded | go_step | go_upon | go_back | dsimp only))
  go_loopw [5, 6] (fun vi vj wr => ∃ (i j : Nat), vi = .int .i64 i ∧ vj = .int .i64 j ∧ i ≤ belowL L z ∧ belowL L z ≤ j ∧ j ≤ L.length ∧ wr = w) (fun vi vj _ => (intOf vj).toNat - (intOf vi).toNat)
  case atStart => exact ⟨0, L.length, rfl, rfl, Nat.zero_le _, hble, Nat.le_refl _, rfl⟩
  case round =>
    obtain ⟨i, j, rfl, rfl, h1, h2, h3, rfl⟩ := hrel
    by_cases hlt : i < j
    · obtain ⟨m, hm⟩ : ∃ m : Nat, m = i + (j - i) / 2 := ⟨_, rfl⟩
      have hm1 : (i : Int) + ((j : Int) - i) / 2 = (m : Int) := by omega
      obtain ⟨x, hx⟩ : ∃ x, L[m]? = some x := ⟨_, List.getElem?_eq_getElem (by omega)⟩
      have hib := belowL_iff HR.out z m x hx
      obtain ⟨g, off, cp, hsl, hcx⟩ := RdRow.str HV.out hx
      cases hsl
      have hi0 : (0 : Int) ≤ m := by omega
      have hi1 : (m : Int) < L.length := by omega
      have HM := Lib.hid hm
      clear hx hm
      cases hb : Op.bytesLess x z with
      | true =>
        have hb1 := hib.2 hb
        clear hib
        (repeat' (first | (go_big_may; fail) | go_values | go_skip | go_guarded | go_step | go_upon | go_back | dsimp only))
        go_roundw
        case rel => exact ⟨m + 1, j, by go_num, rfl, hb1, h2, h3, trivial⟩
        case measure => have := HM.out; simp [intOf] <;> omega
      | false =>
        have hb1 : ¬ m < belowL L z := fun h => by have := hib.1 h; rw [LtW, hb] at this; cases this
        clear hib
        (repeat' (first | (go_big_may; fail) | go_values | go_skip | go_guarded | go_step | go_upon | go_back | dsimp only))
        go_roundw
        case rel => exact ⟨i, m, rfl, rfl, h1, by omega, by omega, trivial⟩
        case measure => have := HM.out; simp [intOf] <;> omega
    · obtain rfl : i = j := by omega
      obtain rfl : i = belowL L z := by omega
      (repeat' (first | (go_big_may; fail) | go_values | go_skip | go_guarded | go_step | go_upon | go_back | dsimp only))
      go_ret
      exact ⟨rfl, rfl⟩
theorem belowL_take {L : List (List UInt8)} (hr : RisesL L) (z : List UInt8) : ∀ y ∈ L.take (belowL L z), LtW y z := fun y hy => by
  obtain ⟨i, hi⟩ := List.mem_iff_getElem?.1 hy
  rw [List.getElem?_take] at hi
  split at hi
  · rename_i h; exact (belowL_iff hr z i y hi).1 h
  · cases hi
set_option maxRecDepth 100000 in
set_option maxHeartbeats 800000 in
theorem RHas_calls {w : World} {L : List (List UInt8)} {v : Value} (hr : RisesL L) (hv : RdRow w v L.length 1 (strs L)) (hn : L.length ≤ 1099511627776) (z : List UInt8) :
    Calls Tryz.prog 44 #[v, .string ⟨z.toArray⟩] w fun e w' => e = .returned (.bool (decide (z ∈ L))) ∧ w' = w := by
  have HH := Lib.hid (halve_calls hr hv hn z)
  obtain ⟨a, c, rfl, _, hc⟩ := hv.shape
  unfold maxLen at hc
  have hble := belowL_le L z
  by_cases hlt : belowL L z < L.length
  · obtain ⟨x, hx⟩ : ∃ x, L[belowL L z]? = some x := ⟨_, List.getElem?_eq_getElem hlt⟩
    have hnb : Op.bytesLess x z = false := by
      cases hb : Op.bytesLess x z with
      | false => rfl
      | true => have := (belowL_iff hr z _ x hx).2 hb; omega
    have hdec := mem_at hr (belowL_take hr z) hx hnb
    obtain ⟨g, off, cp, hsl, hcx⟩ := RdRow.str hv hx
    cases hsl
    rw [hdec]
    have hi0 : (0 : Int) ≤ belowL L z := by omega
    have hi1 : (belowL L z : Int) < L.length := by omega
    clear hv hr hx hnb hdec
    generalize belowL L z = i at *
    go_enter Tryz.func44, Tryz.ntmps44
    (repeat' (first | (go_big_may; fail) | go_values | go_skip | go_guarded | go_step | go_upon | go_back | dsimp only))
    refine HH.out.mono ?_
    rintro e w' ⟨rfl, rfl⟩
    (repeat' (first | (go_big_may; fail) | go_values | go_skip | go_guarded | go_step | go_upon | go_back | dsimp only))
    go_ret
    exact ⟨rfl, rfl⟩
  · have he : belowL L z = L.length := by omega
    have hdec : decide (z ∈ L) = false := mem_end fun y hy => belowL_take hr z y (by rw [he, List.take_of_length_le (Nat.le_refl _)]; exact hy)
    rw [hdec]
    have HE := Lib.hid he
    have hi1 : ¬ (belowL L z : Int) < L.length := by omega
    clear hv hr he hdec
    generalize belowL L z = i at *
    go_enter Tryz.func44, Tryz.ntmps44
    (repeat' (first | (go_big_may; fail) | go_values | go_skip | go_guarded | go_step | go_upon | go_back | dsimp only))
    refine HH.out.mono ?_
    rintro e w' ⟨rfl, rfl⟩
    (repeat' (first | (go_big_may; fail) | go_values | go_skip | go_guarded | go_step | go_upon | go_back | dsimp only))
    go_ret
    exact ⟨rfl, rfl⟩
end
end
end Go.Proofs.YtgeabmmicofanaaGreatDoor
