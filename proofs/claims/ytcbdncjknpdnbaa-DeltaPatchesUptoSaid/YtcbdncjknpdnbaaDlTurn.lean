/- delta: Turn walked; the document's Turn; the law's refs and twin. -/
import Derived.Test.YtcbdncjknpdnbaaDlLaw
namespace Go.Proofs.Ytcbdncjknpdnbaa
open Go.RowKit
attribute [local go_sem] Oper.semAt_some

/-! ### Plain -/
abbrev flipC (c : Chg) : Chg := (c.1, !c.2)
def turnL (D : List Chg) : List Chg := D.reverse.map flipC
theorem turn_turn (D : List Chg) : turnL (turnL D) = D := by
  unfold turnL
  rw [← List.map_reverse, List.reverse_reverse, List.map_map]
  have : (flipC ∘ flipC) = id := by funext c; obtain ⟨a, b⟩ := c; simp [flipC, Function.comp]
  rw [this, List.map_id]
theorem turn_len (D : List Chg) : (turnL D).length = D.length := by simp [turnL]
/-- What goes backward over the changes gives. -/
def backL (D : List Chg) : List (Nat × Chg) := (List.range D.length).map fun k => (D.length - 1 - k, D.getD (D.length - 1 - k) default)
theorem back_len (D : List Chg) : (backL D).length = D.length := by simp [backL]
theorem back_get {D : List Chg} {k : Nat} (h : k < D.length) : (backL D)[k]? = some (D.length - 1 - k, D.getD (D.length - 1 - k) default) := by simp [backL, h]
theorem back_turn (D : List Chg) : (backL D).map (fun p => flipC p.2) = turnL D := by
  apply List.ext_getElem?
  intro k
  by_cases h : k < D.length
  · rw [List.getElem?_map, back_get h]
    unfold turnL
    rw [List.getElem?_map, List.getElem?_reverse h]
    simp only [Option.map_some]
    rw [List.getD_eq_getElem?_getD, List.getElem?_eq_getElem (by omega)]
    rfl
  · rw [List.getElem?_eq_none (by simpa [back_len] using h), List.getElem?_eq_none (by simpa [turn_len] using h)]
theorem turn_take {D : List Chg} {k : Nat} (h : k < D.length) : (turnL D).take k ++ [flipC (D.getD (D.length - 1 - k) default)] = (turnL D).take (k + 1) := by
  rw [List.take_add_one, ← back_turn, List.getElem?_map, back_get h]; rfl
theorem back_take {D : List Chg} {k : Nat} (h : k < D.length) : (backL D).take k ++ [(D.length - 1 - k, D.getD (D.length - 1 - k) default)] = (backL D).take (k + 1) := by
  rw [List.take_add_one, back_get h]; rfl

/-! ### The iterator -/
abbrev encB (p : Nat × Chg) : Array Value := #[.int .i64 p.1, .agg #[.string ⟨p.2.1.toArray⟩, .bool p.2.2]]
set_option maxRecDepth 100000 in
set_option maxHeartbeats 2000000 in
theorem back_seqs {W : World} {v : Value} {D : List Chg} (hrd : RdRow W v D.length 2 (D.flatMap chc)) (hn : D.length ≤ 1099511627776) (b : Nat) :
    Seqs Try.prog encB 53 #[ptrN b] (backL D) W (CellT b #[v] tChs) := by
  intro l J Jx hJ hJx hY w R hR h0
  obtain ⟨ao, cap, rfl, _, hcm⟩ := hrd.shape
  unfold maxLen at hcm
  have HRD := Lib.hid hrd
  have HY := Lib.hid hY
  have c0 := (h0.drop.cellF (o := 0) rfl).1
  clear hrd hY
  (refine (callsIn_wide (n := 0)).1 (callsIn_of_wp Try.func53 rfl trivial ?_ rfl); simp only [Try.ntmps53, List.size_toArray, List.length_cons, List.length_nil, Nat.reduceAdd, Nat.reduceSub, Array.replicate_succ, Array.replicate_zero, List.push_toArray, List.append_toArray, List.nil_append, List.cons_append])
  (repeat' (first | (gi_big_may; fail) | go_values | gi_guarded | gi_step | gi_upon | gi_back | dsimp only))
  clear c0
  gi_loopw [3] (fun i wr => ∃ k : Nat, k ≤ D.length ∧ i = .int .i64 ((D.length : Int) - 1 - k) ∧ At W wr (Both (J ((backL D).take k)) (Both (CellT b #[.slice ao D.length cap] tChs) R))) (fun i _ => (intOf i + 1).toNat)
  case atStart => exact ⟨0, Nat.zero_le _, by simp, h0⟩
  case round =>
    obtain ⟨k, hk, rfl, hJs⟩ := hrel
    by_cases hlt : k < D.length
    · obtain ⟨m, hm⟩ : ∃ m : Nat, m = D.length - 1 - k := ⟨_, rfl⟩
      have hmI : (D.length : Int) - 1 - k = (m : Int) := by omega
      have htk := back_take hlt
      rw [← hm] at htk
      obtain ⟨c, hc⟩ : ∃ c, D[m]? = some c := ⟨_, List.getElem?_eq_getElem (by omega)⟩
      have hg : D.getD m default = c := by rw [List.getD_eq_getElem?_getD, hc]; rfl
      rw [hg] at htk
      obtain ⟨bb, off, cp, hsl, hx0, hx1⟩ := chg_at (fun _ => rfl) (HRD.out.below hJs.below) hc
      cases hsl
      obtain ⟨fn, tmps, assign, body, hy, hRd⟩ := HY.out ((backL D).take k) (m, c) (by rw [htk]; exact List.take_prefix _ _) wr R hR hJs
      unfold encB at hy
      rw [htk] at hRd
      obtain ⟨c0, _, _⟩ := hJs.drop.cellF (o := 0) rfl
      have hm0 : (0 : Int) ≤ m := by omega
      have hm1 : (m : Int) < D.length := by omega
      rw [hmI]
      have HM := Lib.hid hmI
      have HMM := Lib.hid hm
      clear hmI hm hc hg htk
      (repeat' (first | (gi_big_may; fail) | go_values | gi_guarded | gi_step | gi_upon | gi_back | dsimp only))
      refine ⟨rfl, hRd.mono ?_⟩
      rintro e W3 (⟨rfl, hJ3⟩ | ⟨rfl, hJx3⟩)
      · (repeat' (first | (gi_big_may; fail) | go_values | gi_guarded | gi_step | gi_upon | gi_back | dsimp only))
        go_roundw
        case rel => exact ⟨k + 1, by omega, by rw [← HM.out]; congr 1; omega, hJ3⟩
        case measure => have := HM.out; simp [intOf] <;> omega
      · (repeat' (first | (gi_big_may; fail) | go_values | gi_guarded | gi_step | gi_upon | gi_back | dsimp only))
        refine bodyPost_ret (results_none rfl _ _ _) rfl ?_
        exact ⟨⟨_, rfl⟩, .inr ⟨_, List.take_prefix _ _, hJx3⟩⟩
    · obtain rfl : k = D.length := by omega
      have hi : (D.length : Int) - 1 - D.length = -1 := by omega
      rw [hi]
      clear hi
      (repeat' (first | (gi_big_may; fail) | go_values | gi_guarded | gi_step | gi_upon | gi_back | dsimp only))
      go_end0
      rw [List.take_of_length_le (by rw [back_len]; exact Nat.le_refl _)] at hJs
      exact ⟨⟨_, rfl⟩, .inl hJs⟩
theorem Backward_calls (w : World) (ao : Option Addr) (n cap : Nat) :
    Calls Try.prog 32 #[.slice ao n cap] w fun e w' => e = .returned (.func (.func 53) #[] #[ptrN w.heap.size]) ∧ w' = w.alloc (.cells #[.slice ao n cap] tChs) := by
  go_enter Try.func32, Try.ntmps32
  (repeat' (first | (go_big_may; fail) | go_values | go_skip | go_guarded | go_step | go_upon | go_back | dsimp only))
  go_ret
  exact ⟨rfl, rfl⟩
/-- What is turned up to now. -/
def TurnI (ko : Nat) (p : List (Nat × Chg)) : Thing := fun w fp => ∃ v, Both (CellT ko #[v] tChs) (RowG tCh 2 v (p.map fun q => flipC q.2).length ((p.map fun q => flipC q.2).flatMap chc)) w fp
theorem TurnI.stable (ko : Nat) (p : List (Nat × Chg)) : Stable (TurnI ko p) := Stable.ex fun _ => (CellT.stable _ _ _).both (RowG.stable _ _ _ _ _)
theorem fold_two (p q : Tmp) (u v : Value) (t : Array Value) : foldTmps #[p, q] #[u, v] t = (t.setIfInBounds p u).setIfInBounds q v := by simp [foldTmps]
set_option maxRecDepth 100000 in
set_option maxHeartbeats 3200000 in
theorem Turn_calls {w : World} {v : Value} {D : List Chg} (hrd : RdRow w v D.length 2 (D.flatMap chc)) (hn : D.length ≤ 1099511627776) :
    Calls Try.prog 15 #[v] w fun e w' => ∃ vo, e = .returned vo ∧ At w w' (Both (ChG vo (turnL D)) Nought) := by
  obtain ⟨ao, cap, rfl, _, hcm⟩ := hrd.shape
  have HQ := Lib.hid (fun b => back_seqs (W := w) hrd hn b)
  have h1 := ((At.nought (Below.refl w.heap.size w)).noRowG Stable.nought tCh 2).newCell ((RowG.stable _ _ _ _ _).both Stable.nought) #[.slice none 0 0] tChs
  have hst1 := (CellT.stable w.heap.size #[.slice none 0 0] tChs).both ((RowG.stable tCh 2 (.slice none 0 0) 0 []).both Stable.nought)
  have h2 := h1.newCell hst1 #[.slice ao D.length cap] tChs
  have HV := Lib.hid (Backward_calls (w.alloc (.cells #[.slice none 0 0] tChs)) ao D.length cap)
  have H2 := Lib.hid h2
  clear h1 h2 hst1 hrd
  (refine (callsIn_wide (n := 0)).1 (callsIn_of_wp_marks Try.func15 rfl trivial (wpIn_wide.2 ?_) rfl); simp only [Try.ntmps15, List.size_toArray, List.length_cons, List.length_nil, Nat.reduceAdd, Nat.reduceSub, Array.replicate_succ, Array.replicate_zero, List.push_toArray, List.append_toArray, List.nil_append, List.cons_append])
  (repeat' (first | (go_big_may; fail) | go_values | go_skip | go_guarded | go_step | go_upon | go_back | dsimp only))
  refine HV.out.mono ?_
  rintro e2 w2 ⟨rfl, hw2⟩
  have h4 := H2.out
  rw [← hw2, alloc_size] at h4
  simp only [alloc_size]
  have h5 : At w w2 (Both (TurnI w.heap.size []) (Both (CellT (w.heap.size + 1) #[.slice ao D.length cap] tChs) Nought)) :=
    At.intoEx _ (h4.swap.impl fun _ q => Both.toL (Both.mono (fun _ _ q => q.assoc) q))
  generalize w.heap.size + 1 = kb at *
  generalize w.heap.size = ko at *
  clear h4 hw2 HV H2
  (repeat' (first | (go_big_may; fail) | go_values | go_skip | go_guarded | go_step | go_upon | go_back | dsimp only))
  generalize ha0 : Act.mk _ _ = a0
  refine range_at (L := backL D) (HQ.out kb) (by rw [← ha0]; rfl) (enters_of Try.func53 (by kernel_rfl) rfl) (fun _ => rfl) (CellT.stable _ _ _) Stable.nought (fun p => TurnI ko p) (fun _ => TurnI.stable _ _) (fun _ _ => NeverT) (fun _ _ => NeverT.stable)
    (fun p x a X => ∃ kc, a = { tmps := (foldTmps #[8, 9] (encB x) a0.tmps).setIfInBounds 5 (ptrN kc), defers := [] } ∧ X = Both (CellT kc #[.string ⟨x.2.1.toArray⟩, .bool x.2.2] tCh) (TurnI ko p)) h5 ?assign ?body ?done ?stop
  case assign =>
    intro l pre x w2 Ψ hp hΨ h2
    have h3 := (h2.newCell ((TurnI.stable _ _).both hΨ) #[.string ⟨x.2.1.toArray⟩, .bool x.2.2] tCh).toL
    subst ha0
    simp only [fold_two, encB, List.setIfInBounds_toArray, List.set_cons_zero, List.set_cons_succ]
    (repeat' (first | (gi_big_may; fail) | go_values | gi_guarded | gi_step | gi_upon | gi_back | dsimp only))
    exact ⟨_, (CellT.stable _ _ _).both (TurnI.stable _ _), ⟨w2.heap.size, rfl, rfl⟩, h3⟩
  case body =>
    rintro l pre x w2 R2 a2 X hp hR2 hX ⟨kc, rfl, rfl⟩ h2
    have hlen := hp.length_le
    rw [List.length_append, List.length_singleton, back_len] at hlen
    obtain ⟨v, h3⟩ := At.ex h2.toR.swap
    have h4 := h3.toR.swap
    have hst4 := (CellT.stable ko #[v] tChs).both ((CellT.stable kc #[.string ⟨x.2.1.toArray⟩, .bool x.2.2] tCh).both ((CellT.stable kb #[.slice ao D.length cap] tChs).both hR2))
    obtain ⟨oa, oc, rfl, _, hoc⟩ := own_shape h4.rowG
    unfold maxLen at hoc
    obtain ⟨g1, gf1, _⟩ := h4.drop.cellF (o := 0) rfl
    obtain ⟨g2, _, _⟩ := h4.drop.drop.cellF (o := 0) rfl
    obtain ⟨g3, _, _⟩ := h4.drop.drop.cellF (o := 1) rfl
    have H4 := Lib.hid h4
    have HST4 := Lib.hid hst4
    have hpl : (pre.map fun q => flipC q.2).length ≤ D.length := by simp; omega
    have HME := Lib.hid (show (pre ++ [x]).map (fun q => flipC q.2) = pre.map (fun q => flipC q.2) ++ [flipC x.2] by simp)
    clear h2 h3 h4 hst4
    generalize (pre.map fun q => flipC q.2) = E at *
    subst ha0
    simp only [fold_two, encB, List.setIfInBounds_toArray, List.set_cons_zero, List.set_cons_succ]
    (repeat' (first | (gi_big_may; ((gi_at_builtin; go_must (refine wpListIn_append_to rfl _ _ 25 tCh rfl Try.underlying25 info_Ch rfl (by decide) rfl (H4.out) (HST4.out) rfl (by first | rfl | simp) rfl (chc_one (flipC x.2)) (by unfold maxLen; omega) (by omega) ?_); intro a2 c2 w2 h6 _); obtain ⟨q1, qf1, _⟩ := h6.drop.cellF (o := 0) rfl; have H6 := Lib.hid h6; clear h6 g1 gf1 g2 g3)) | go_values | gi_guarded | gi_step | gi_upon | gi_back | dsimp only))
    have h6 := (H6.out.swap.setCell ((RowG.stable _ _ _ _ _).both ((CellT.stable kc #[.string ⟨x.2.1.toArray⟩, .bool x.2.2] tCh).both ((CellT.stable kb #[.slice ao D.length cap] tChs).both hR2))) 0 (.slice a2 (E.length + 1) c2)).pull3.drop
    show At w _ (Both (TurnI ko (pre ++ [x])) _)
    refine At.intoEx (.slice a2 (E.length + 1) c2) ((?_ : At w _ (Both (CellT ko #[.slice a2 (E.length + 1) c2] tChs) (Both (RowG tCh 2 (.slice a2 (E.length + 1) c2) ((pre ++ [x]).map fun q => flipC q.2).length (((pre ++ [x]).map fun q => flipC q.2).flatMap chc)) (Both (CellT kb #[.slice ao D.length cap] tChs) R2)))).impl fun _ q => Both.toL q)
    rw [HME.out]
    exact At.chSnoc (c := flipC x.2) h6
  case done =>
    intro D1 w3 h6
    obtain ⟨v, h7⟩ := At.ex h6
    have h8 := h7.toR
    rw [back_turn] at h8
    obtain ⟨oa, oc, rfl, _, _⟩ := own_shape h8.drop.rowG
    obtain ⟨g1, _, _⟩ := h8.cellF (o := 0) rfl
    subst ha0
    (repeat' (first | (go_big_may; fail) | go_values | go_skip | go_guarded | go_step | go_upon | go_back | dsimp only))
    show LeavesInM _ _ _ _ _ _ _ _ _
    exact leaveM h8.pull4 ((CellT.stable _ _ _).both ((RowG.stable _ _ _ _ _).both ((CellT.stable _ _ _).both Stable.nought))) fun w3 h3 _ => leave0 (v := .slice oa (turnL D).length oc) (results_tmp (t := 2) rfl _ _ _) ⟨_, rfl, h3.drop.swap.drop⟩
  case stop =>
    intro D c pre w2 hp h2
    exact h2.never.elim
/-- 'append(nil, x...)'. -/
theorem wpList_append_new_rd {P : Program} {W w : World} {R : Thing} {ops : Array Oper} {rest : List Oper} {o : Oper} {a : Act} {Q : Exit → Act → World → Prop} (hgd : o.guard = none)
    (s x : Operand) (t e : TypeId) (ho : o.op = .call { callee := .builtin .append, args := #[s, x], argTypes := #[t, t] }) (ht : P.underlying t = some (.slice e))
    {z : Value} {size bytes : Nat} (hinfo : (P.info? e).map (fun i => (i.zero, i.size, i.bytes)) = some (some z, size, bytes)) (hzs : z.cells.size = size) (hsz : 0 < size)
    (hs : a.eval s = .slice none 0 0) (hat : At W w R) (hR : Stable R) {u : Value} {m : Nat} {cs : List Value} (hx : a.eval x = u) (hrd : RdRow w u m size cs) (h1 : ∀ u ∈ cs, u.oneCell' = true) (h63 : m ≤ maxLen) (hbytes : m * bytes ≤ 140737488355328)
    (h : ∀ ao cap w', At W w' (Both (RowG e size (.slice ao m cap) m cs) R) → Below w.heap.size w w' → wpList P ops Q rest (a.put o.dst (.slice ao m cap)) w') : wpList P ops Q (o :: rest) a w := by
  refine wpList_plain hgd fun K hK' => ?_
  obtain ⟨ao, cap, w', hr, h2, h3⟩ := append_rd_run (P := P) t o.type e ht hinfo hzs hsz hat hR hrd h1 h63 hbytes
  unfold Oper.wp
  simp [execOp, ho, resolve, invoke, builtin, hs, hx, hr, Result.andThen]
  exact hK' _ _ (h ao cap w' h2 h3)
theorem chcs_one (D : List Chg) : ∀ u ∈ D.flatMap chc, u.oneCell' = true := by
  intro u hu
  obtain ⟨e, _, hu⟩ := List.mem_flatMap.1 hu
  simp at hu
  rcases hu with rfl | rfl <;> rfl
set_option maxRecDepth 100000 in
theorem twinC_calls {w : World} {v : Value} {D : List Chg} (hrd : RdRow w v D.length 2 (D.flatMap chc)) (hn : D.length ≤ 1099511627776) :
    Calls Try.prog 14 #[v] w fun e w' => ∃ vo, e = .returned vo ∧ At w w' (Both (ChG vo D) Nought) := by
  obtain ⟨ao, cap, rfl, _, hcm⟩ := hrd.shape
  have HRD := Lib.hid hrd
  have H0 := Lib.hid (At.nought (Below.refl w.heap.size w))
  clear hrd
  go_enter Try.func14, Try.ntmps14
  (repeat' (first | (go_big_may; (at_builtin; go_must (refine wpList_append_new_rd rfl _ _ tChs tCh rfl Try.underlying25 info_Ch rfl (by decide) rfl H0.out Stable.nought rfl HRD.out (chcs_one _) (by unfold maxLen; omega) (by omega) ?_); intro a2 c2 w2 h2 _; have H2 := Lib.hid h2; clear h2)) | go_values | go_skip | go_guarded | go_step | go_upon | go_back | dsimp only))
  go_ret
  exact ⟨_, rfl, H2.out⟩
theorem rch_take {D : List Chg} {k : Nat} {c : Chg} (h : D[k]? = some c) : (D.take (k + 1)).flatMap rchc = (D.take k).flatMap rchc ++ rchc c := by
  rw [List.take_add_one, h]; simp
set_option maxRecDepth 100000 in
set_option maxHeartbeats 1600000 in
theorem refs_calls {w : World} {v : Value} {D : List Chg} (hrd : RdRow w v D.length 2 (D.flatMap chc)) (hn : D.length ≤ 1099511627776) :
    Calls Try.prog 17 #[v] w fun e w' => ∃ vo, e = .returned vo ∧ At w w' (Both (RowG tRCh 2 vo D.length (D.flatMap rchc)) Nought) := by
  obtain ⟨ao, cap, rfl, _, hcm⟩ := hrd.shape
  unfold maxLen at hcm
  have HRD := Lib.hid hrd
  have H0 := Lib.hid ((At.nought (Below.refl w.heap.size w)).noRowG Stable.nought tRCh 2)
  clear hrd
  go_enter Try.func17, Try.ntmps17
  (repeat' (first | (go_big_may; fail) | go_values | go_skip | go_guarded | go_step | go_upon | go_back | dsimp only))
  go_loopw [3, 8] (fun vo vk wr => ∃ k : Nat, vk = .int .i64 k ∧ k ≤ D.length ∧ At w wr (Both (RowG tRCh 2 vo k ((D.take k).flatMap rchc)) Nought)) (fun _ vk _ => D.length - (intOf vk).toNat)
  case atStart => exact ⟨0, rfl, Nat.zero_le _, H0.out⟩
  case round =>
    obtain ⟨k, rfl, hk, h1⟩ := hrel
    obtain ⟨oa, oc, rfl, _, hoc⟩ := own_shape h1.rowG
    unfold maxLen at hoc
    by_cases hlt : k < D.length
    · obtain ⟨c, hc⟩ : ∃ c, D[k]? = some c := ⟨_, List.getElem?_eq_getElem hlt⟩
      obtain ⟨b, off, cp, hsl, hx0, hx1⟩ := chg_at (fun _ => rfl) (HRD.out.below h1.below) hc
      cases hsl
      have hkI : (k : Int) < (D.length : Int) := by omega
      have h2 := h1.alloc ((RowG.stable _ _ _ _ _).both Stable.nought) (.cells #[.string ⟨c.1.toArray⟩, .bool c.2] tCh)
      have H2 := Lib.hid h2
      have HTK := Lib.hid (rch_take hc)
      clear h1 h2 hc
      (repeat' (first | (go_big_may; ((at_builtin; go_must (refine wpList_append_to rfl _ _ 29 tRCh rfl Try.underlying29 info_RCh rfl (by decide) rfl (H2.out) (Stable.nought) rfl (by first | rfl | simp) rfl (rchc_one c) (by unfold maxLen; omega) (by omega) ?_); intro a2 c2 w3 h3 _); have H3 := Lib.hid h3; clear h3)) | go_values | go_skip | go_guarded | go_step | go_upon | go_back | dsimp only))
      go_roundw
      case rel => exact ⟨k + 1, by simp, by omega, by rw [HTK.out]; exact H3.out⟩
      case measure => simp [intOf] <;> omega
    · obtain rfl : k = D.length := by omega
      have hkI : ¬ (D.length : Int) < (D.length : Int) := by omega
      rw [List.take_length] at h1
      have H1 := Lib.hid h1
      clear h1
      (repeat' (first | (go_big_may; fail) | go_values | go_skip | go_guarded | go_step | go_upon | go_back | dsimp only))
      go_ret
      exact ⟨_, rfl, H1.out⟩
theorem turn_take2 {D : List Chg} {k : Nat} (h : k < D.length) : ((turnL D).take (k + 1)).flatMap rchc = ((turnL D).take k).flatMap rchc ++ rchc (flipC (D.getD (D.length - 1 - k) default)) := by
  rw [← turn_take h]; simp
set_option maxRecDepth 100000 in
set_option maxHeartbeats 1600000 in
theorem RTurn_calls {w : World} {v : Value} {D : List Chg} (hrd : RdRow w v D.length 2 (D.flatMap rchc)) (hn : D.length ≤ 1099511627776) :
    Calls Try.prog 16 #[v] w fun e w' => ∃ vo, e = .returned vo ∧ At w w' (Both (RowG tRCh 2 vo (turnL D).length ((turnL D).flatMap rchc)) Nought) := by
  obtain ⟨ao, cap, rfl, _, hcm⟩ := hrd.shape
  unfold maxLen at hcm
  have HRD := Lib.hid hrd
  have H0 := Lib.hid ((At.nought (Below.refl w.heap.size w)).noRowG Stable.nought tRCh 2)
  clear hrd
  go_enter Try.func16, Try.ntmps16
  (repeat' (first | (go_big_may; fail) | go_values | go_skip | go_guarded | go_step | go_upon | go_back | dsimp only))
  go_loopw [3, 4] (fun vo vi wr => ∃ k : Nat, vi = .int .i64 ((D.length : Int) - 1 - k) ∧ k ≤ D.length ∧ At w wr (Both (RowG tRCh 2 vo k (((turnL D).take k).flatMap rchc)) Nought)) (fun _ vi _ => (intOf vi + 1).toNat)
  case atStart => exact ⟨0, by simp, Nat.zero_le _, H0.out⟩
  case round =>
    obtain ⟨k, rfl, hk, h1⟩ := hrel
    obtain ⟨oa, oc, rfl, _, hoc⟩ := own_shape h1.rowG
    unfold maxLen at hoc
    by_cases hlt : k < D.length
    · obtain ⟨m, hm⟩ : ∃ m : Nat, m = D.length - 1 - k := ⟨_, rfl⟩
      have hmI : (D.length : Int) - 1 - k = (m : Int) := by omega
      have htk := turn_take2 hlt
      rw [← hm] at htk
      obtain ⟨c, hc⟩ : ∃ c, D[m]? = some c := ⟨_, List.getElem?_eq_getElem (by omega)⟩
      have hg : D.getD m default = c := by rw [List.getD_eq_getElem?_getD, hc]; rfl
      rw [hg] at htk
      obtain ⟨b, off, cp, hsl, hx0, hx1⟩ := chg_at (fun _ => rfl) (HRD.out.below h1.below) hc
      cases hsl
      have hm0 : (0 : Int) ≤ m := by omega
      have hm1 : (m : Int) < D.length := by omega
      obtain ⟨v2, w4, hrun, h6, _, _⟩ := append_at_run (P := Try.prog) 29 29 tRCh Try.underlying29 info_RCh rfl (by decide) (h1.drew ((RowG.stable _ _ _ _ _).both Stable.nought)) Stable.nought (C := #[.string ⟨c.1.toArray⟩, .bool !c.2]) (m := 1) (c := 1) rfl (rchc_one (flipC c)) (by unfold maxLen; omega) (by omega)
      obtain ⟨a2, cp2, rfl, _, _⟩ := own_shape h6.rowG
      have H6 := Lib.hid h6
      have HTK := Lib.hid htk
      rw [hmI]
      have HM := Lib.hid hmI
      have HMM := Lib.hid hm
      clear hmI hm hc hg htk h1 h6
      (repeat' (first | (go_big_may; fail) | go_values | go_skip | go_guarded | go_step | go_upon | go_back | dsimp only))
      go_region_law (refine step_append_run rfl _ _ 29 rfl _ _ rfl rfl hrun ?_)
      all_goals
        clear hrun
        (repeat' (first | (go_big_may; fail) | go_values | go_skip | go_guarded | go_step | go_upon | go_back | dsimp only))
        go_roundw
        case rel => exact ⟨k + 1, by rw [← HM.out]; congr 1; omega, by omega, by rw [HTK.out]; exact H6.out⟩
        case measure => have := HM.out; simp [intOf] <;> omega
    · obtain rfl : k = D.length := by omega
      have hi : (D.length : Int) - 1 - D.length = -1 := by omega
      rw [hi, List.take_of_length_le (by rw [turn_len]; exact Nat.le_refl _)] at *
      have H1 := Lib.hid h1
      clear hi h1
      (repeat' (first | (go_big_may; fail) | go_values | go_skip | go_guarded | go_step | go_upon | go_back | dsimp only))
      go_ret
      exact ⟨_, rfl, by rw [turn_len]; exact H1.out⟩
end Go.Proofs.Ytcbdncjknpdnbaa
