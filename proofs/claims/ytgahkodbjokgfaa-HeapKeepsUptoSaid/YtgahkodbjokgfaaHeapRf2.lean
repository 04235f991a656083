/- heap: the reference's Push, Peek, Replace, Drain walked. -/
import Derived.Test.YtgahkodbjokgfaaHeapRf
namespace Go.Proofs.Ytgahkodbjokgfaa
open Go.RowKit

/-- One item more at the end of the reference's list, the list stored back. -/
theorem rf_push_run {w : World} {b : Nat} {L : List It} {v : Value} (h : RefH w b L v) (x : It) (hn : L.length ≤ 1099511627776) :
    ∃ ao cap w2, (Builtin.append_ #[33, 33] 33 #[v, .slice (some ⟨w.heap.size, 0, none⟩) 1 1]).run Try.prog (w.alloc (.cells #[.int .i64 x.key, .int .i64 x.tag] tRI)) = .ok (.slice ao (L.length + 1) cap) w2 ∧
      w2.cell? ⟨b, 0, none⟩ = some v ∧ w2.frozen? ⟨b, 0, none⟩ = false ∧ b < w2.heap.size ∧ RefH (w2.setCell ⟨b, 0, none⟩ (.slice ao (L.length + 1) cap)) b (L ++ [x]) (.slice ao (L.length + 1) cap) ∧
      Upd (b :: rowOf v) w (w2.setCell ⟨b, 0, none⟩ (.slice ao (L.length + 1) cap)) ∧ Grow w (b :: rowOf v) (b :: rowOf (.slice ao (L.length + 1) cap)) := by
  obtain ⟨ao, cap, w2, h1, h2, h3, h4, h5, h6, h7, h8⟩ := field_push_run (P := Try.prog) 33 33 tRI Try.underlying33 info_RI rfl (by decide) h.1 (o := 0) (v := v) rfl (by decide) h.2
    (C := #[.int .i64 x.key, .int .i64 x.tag]) (m := 1) rfl (two_oneCell _ _) (by decide) (by unfold maxLen; omega) (by omega)
  exact ⟨ao, cap, w2, h1, h2, h3, h4, ⟨h5, by simpa [cellsI] using h6⟩, h7, h8⟩

theorem take_snoc {L : List It} {k : Nat} (h : k < L.length) : L.take (k + 1) = L.take k ++ [L.getD k default] := by
  rw [List.take_add_one, List.getElem?_eq_getElem h]; simp [List.getD_eq_getElem?_getD, h]

set_option maxRecDepth 100000 in
set_option maxHeartbeats 1600000 in
theorem rPush_calls {w : World} {b : Nat} {L : List It} {v : Value} (h : RefH w b L v) {xs : List It} {vx : Value} (hx : RdRow w vx xs.length 2 (cellsI xs))
    (hdx : ∀ k off c, vx = .slice (some ⟨k, off, none⟩) xs.length c → xs ≠ [] → k ∉ b :: rowOf v) (hn : L.length + xs.length ≤ 1099511627776) :
    Calls Try.prog 22 #[.pointer (some ⟨b, 0, none⟩), vx] w fun e w' => e = .returned (.tuple #[]) ∧ ∃ v', RefH w' b (L ++ xs) v' ∧ Upd (b :: rowOf v) w w' ∧ Grow w (b :: rowOf v) (b :: rowOf v') := by
  obtain ⟨ao, cap, hv, hc1, hc2⟩ := hx.shape
  subst hv
  unfold maxLen at hc2
  have H := Lib.hid h
  have HX := Lib.hid hx
  have HDX := Lib.hid hdx
  clear h hx hdx
  go_enter Try.func22, Try.ntmps22
  (repeat' (first | (go_big_may; fail) | go_values | go_skip | go_guarded | go_step | go_upon | go_back | dsimp only))
  go_loopw [4] (fun x wr => ∃ k : Nat, x = .int .i64 k ∧ k ≤ xs.length ∧ ∃ v1, RefH wr b (L ++ xs.take k) v1 ∧ Upd (b :: rowOf v) w wr ∧ Grow w (b :: rowOf v) (b :: rowOf v1)) (fun x _ => xs.length - (intOf x).toNat)
  case atStart => exact ⟨0, rfl, Nat.zero_le _, v, by simpa using H.out, Upd.refl _ _, Grow.refl _ _⟩
  case round =>
    obtain ⟨k, rfl, hk, v1, hh, hu, hg⟩ := hrel
    by_cases hlt : k < xs.length
    · obtain ⟨bx, off, cp, hsl, x0, x1⟩ := HX.out.item hlt
      cases hsl
      have hbx : bx < w.heap.size := World.block_lt_of_cell? _ _ x0
      have hnx : bx ∉ b :: rowOf v := HDX.out bx off cap rfl (by rintro rfl; simp at hlt)
      have hbk := hu.block bx hbx hnx
      have y0 := (World.cell?_of_block (w := w) (a := ⟨bx, off + k * 2, none⟩) hbk).trans x0
      have y1 := (World.cell?_of_block (w := w) (a := ⟨bx, off + k * 2 + 1, none⟩) hbk).trans x1
      have hts := take_snoc hlt
      generalize xs.getD k default = y at *
      have hl : (L ++ xs.take k).length ≤ 1099511627776 := by rw [List.length_append, List.length_take]; omega
      obtain ⟨a2, cp2, w2, hrun, d0, e0, hb2, hh2, hu2, hg2⟩ := rf_push_run (w := wr.drew) hh y hl
      have c0 := hh.c0
      have hbs := lt_of_heap hh.1
      have hbw : bx < wr.heap.size := by have := hu.size; omega
      rw [List.append_assoc, ← hts] at hh2
      have HH2 := Lib.hid hh2
      have HU2 := Lib.hid (hu.trans (Upd.of_drew hu2) hg)
      have HG2 := Lib.hid (hg.trans hg2 hu.size)
      have hk1 : (0 : Int) ≤ k := by omega
      have hk2 : (k : Int) < xs.length := by omega
      generalize hll : (L ++ xs.take k).length = ll at *
      clear hh2 hu2 hg2 hu hg hh hbk x0 x1 hts hll
      (repeat' (first | (go_big_may; fail) | go_values | go_skip | go_guarded | go_step | go_upon | go_back | dsimp only))
      go_region_law (refine step_append_run rfl _ _ 33 rfl _ _ rfl rfl hrun ?_)
      all_goals
        clear hrun d0 e0 c0 y0 y1
        (repeat' (first | (go_big_may; fail) | go_values | go_skip | go_guarded | go_step | go_upon | go_back | dsimp only))
        go_roundw
        case rel => exact ⟨k + 1, by simp, hlt, _, HH2.out, HU2.out, HG2.out⟩
        case measure => simp [intOf] <;> omega
    · obtain rfl : k = xs.length := by omega
      rw [List.take_length] at hh
      have HH := Lib.hid hh
      clear hh
      (repeat' (first | (go_big_may; fail) | go_values | go_skip | go_guarded | go_step | go_upon | go_back | dsimp only))
      go_end0
      exact ⟨rfl, v1, HH.out, hu, hg⟩

set_option maxHeartbeats 800000 in
theorem rPeek_calls {w : World} {b : Nat} {L : List It} {v : Value} (h : RefH w b L v) :
    Calls Try.prog 47 #[.pointer (some ⟨b, 0, none⟩)] w fun e w' => e = .returned (itB (if L = [] then (default, false) else (firstR ltK L, true))) ∧ Below w.heap.size w w' := by
  have hba : Below w.heap.size w (w.alloc (.cells #[.int .i64 0, .int .i64 0] tRI)) := (Below.refl _ _).alloc (Nat.le_refl _) _
  by_cases hl : L = []
  · subst hl
    rw [if_pos rfl]
    have HL := Lib.hid (least_calls (h.below hba))
    clear h
    go_enter Try.func47, Try.ntmps47
    (repeat' (first | (go_big_may; fail) | go_values | go_skip | go_guarded | go_step | go_upon | go_back | dsimp only))
    refine HL.out.mono ?_
    rintro e w1 ⟨rfl, hb1⟩
    simp only [List.length_nil, leastI_zero]
    have hs1 := slot_kept (w := w) (heap_alloc_new w _) (Upd.of_below hb1 []) (by simp)
    obtain ⟨z0, z1, y0, y1, hsz⟩ := slot_facts hs1
    have HB := Lib.hid (hba.trans (hb1.mono hba.size))
    clear hba hb1 hs1
    (repeat' (first | (go_big_may; fail) | go_values | go_skip | go_guarded | go_step | go_upon | go_back | dsimp only))
    exact bodyPost_ret (v := itB (default, false)) (by simp [results, Try.results47, go_sem, z0, z1]; exact ⟨rfl, rfl⟩) rfl ⟨rfl, (HB.out.setCell (Nat.le_refl _) _).setCell (Nat.le_refl _) _⟩
  · have hlen : 0 < L.length := List.length_pos_iff.2 hl
    rw [if_neg hl]
    have HL := Lib.hid (least_calls (h.below hba))
    obtain ⟨ao, cap, hv, hc1, hc2⟩ := h.rd.shape
    unfold maxLen at hc2
    have H := Lib.hid h
    have hml := leastAt_lt ltK L L.length (by omega)
    have hle := leastI_pos L hlen
    have hfr : firstR ltK L = L.getD (leastAt ltK L L.length) default := rfl
    rw [hfr]
    rw [hle] at HL
    clear hfr hle
    generalize leastAt ltK L L.length = m at *
    clear h
    subst hv
    go_enter Try.func47, Try.ntmps47
    (repeat' (first | (go_big_may; fail) | go_values | go_skip | go_guarded | go_step | go_upon | go_back | dsimp only))
    refine HL.out.mono ?_
    rintro e w1 ⟨rfl, hb1⟩
    have hs1 := slot_kept (w := w) (heap_alloc_new w _) (Upd.of_below hb1 []) (by simp)
    obtain ⟨z0, z1, y0, y1, hsz⟩ := slot_facts hs1
    have hbw := hba.trans (hb1.mono hba.size)
    have hh := H.out.below hbw
    have c0 := hh.c0
    obtain ⟨bx, off, cp, hsl, x0, x1⟩ := hh.rd.item (i := m) hml
    cases hsl
    have hm1 : (0 : Int) ≤ m := by omega
    have hm2 : (m : Int) < L.length := by omega
    have hm3 : ¬ (m : Int) < 0 := by omega
    generalize hx : L.getD m default = x at *
    have HX := Lib.hid hx
    have HB := Lib.hid hbw
    clear hh hs1 hbw hb1 hba hx HL
    (repeat' (first | (go_big_may; fail) | go_values | go_skip | go_guarded | go_step | go_upon | go_back | dsimp only))
    exact bodyPost_ret (v := itB (x, true)) (by simp [results, Try.results47, go_sem, z0, z1]) rfl ⟨by rw [HX.out], (HB.out.setCell (Nat.le_refl _) _).setCell (Nat.le_refl _) _⟩

set_option maxRecDepth 100000 in
set_option maxHeartbeats 1600000 in
theorem rReplace_calls {w : World} {b : Nat} {L : List It} {v : Value} (h : RefH w b L v) (x : It) (hn : L.length ≤ 1000000000000) :
    Calls Try.prog 49 #[.pointer (some ⟨b, 0, none⟩), x.v] w fun e w' => e = .returned (itB (if L = [] then (default, false) else (firstR ltK L, true))) ∧ ∃ v', RefH w' b (leftR ltK L ++ [x]) v' ∧ Upd (b :: rowOf v) w w' ∧ Grow w (b :: rowOf v) (b :: rowOf v') := by
  have hba : Below w.heap.size w ((w.alloc (.cells #[.int .i64 x.key, .int .i64 x.tag] tRI)).alloc (.cells #[.int .i64 0, .int .i64 0] tRI)) := ((Below.refl _ _).alloc (Nat.le_refl _) _).alloc (by simp) _
  have hx0 : ((w.alloc (.cells #[.int .i64 x.key, .int .i64 x.tag] tRI)).alloc (.cells #[.int .i64 0, .int .i64 0] tRI)).heap[w.heap.size]? = some (.cells #[.int .i64 x.key, .int .i64 x.tag] tRI (0, 0)) := by
    rw [heap_alloc_old _ _ (by simp)]; exact heap_alloc_new _ _
  have hq0 : ((w.alloc (.cells #[.int .i64 x.key, .int .i64 x.tag] tRI)).alloc (.cells #[.int .i64 0, .int .i64 0] tRI)).heap[w.heap.size + 1]? = some (.cells #[.int .i64 0, .int .i64 0] tRI (0, 0)) := by
    have := heap_alloc_new (w.alloc (.cells #[.int .i64 x.key, .int .i64 x.tag] tRI)) (.cells #[.int .i64 0, .int .i64 0] tRI)
    simpa using this
  have hlt := h.lt
  have hh0 := h.below hba
  have HP := Lib.hid (rPop_calls hh0 (by omega))
  generalize hr : (if L = [] then (default, false) else (firstR ltK L, true) : It × Bool) = r at *
  obtain ⟨y, ok⟩ := r
  have hll : (leftR ltK L).length ≤ 1000000000000 := by
    have := List.length_eraseIdx_le L (leastAt ltK L L.length)
    unfold leftR; omega
  generalize leftR ltK L = LL at *
  have HLT := Lib.hid hlt
  have HB0 := Lib.hid hba
  have HX0 := Lib.hid hx0
  have HQ0 := Lib.hid hq0
  clear h hh0 hr hlt hba hx0 hq0
  go_enter Try.func49, Try.ntmps49
  (repeat' (first | (go_big_may; fail) | go_values | go_skip | go_guarded | go_step | go_upon | go_back | dsimp only))
  refine HP.out.mono ?_
  rintro e w1 ⟨rfl, v1, hh1, hu1, hg1⟩
  have hnf : ∀ k, w.heap.size ≤ k → k ∉ b :: rowOf v := fun k hk hm => by have := HLT.out k hm; omega
  have hx1 := (hu1.block _ (lt_of_heap HX0.out) (hnf _ (Nat.le_refl _))).trans HX0.out
  have hq1 := (hu1.block _ (lt_of_heap HQ0.out) (hnf _ (by omega))).trans HQ0.out
  have hs0 : ((w.alloc (.cells #[.int .i64 x.key, .int .i64 x.tag] tRI)).alloc (.cells #[.int .i64 0, .int .i64 0] tRI)).heap.size = w.heap.size + 2 := by simp
  have hn1 : ∀ k ∈ b :: rowOf v1, k ∈ b :: rowOf v ∨ w.heap.size + 2 ≤ k := fun k hk => by rw [← hs0]; exact hg1 k hk
  have hG1 : Grow w (b :: rowOf v) (b :: rowOf v1) := fun k hk => (hn1 k hk).imp id (fun h => by omega)
  have hU1 : Upd (b :: rowOf v) w w1 := (Upd.of_below HB0.out _).trans hu1 (Grow.refl _ _)
  have hba1 : Below w1.heap.size w1 (w1.alloc (.cells #[.int .i64 y.key, .int .i64 y.tag] tRI)) := (Below.refl _ _).alloc (Nat.le_refl _) _
  have hp2 := heap_alloc_new w1 (.cells #[.int .i64 y.key, .int .i64 y.tag] tRI)
  have hx2 := (hba1.block _ (lt_of_heap hx1)).trans hx1
  have hq2 := (hba1.block _ (lt_of_heap hq1)).trans hq1
  have hh2 := hh1.below hba1
  have hU2 := hU1.alloc (.cells #[.int .i64 y.key, .int .i64 y.tag] tRI)
  have hpn : w1.heap.size ∉ b :: rowOf v1 := fun hm => by have := hh1.lt _ hm; omega
  have hqn : w.heap.size + 1 ∉ b :: rowOf v1 := fun hm => by
    rcases hn1 _ hm with h | h
    · exact hnf _ (by omega) h
    · omega
  have HG1 := Lib.hid hG1
  have HU2 := Lib.hid hU2
  clear HX0 HQ0 HB0 hu1 hg1 hx1 hq1 hs0 hn1 hG1 hU1 hba1 hU2 HP
  generalize hW : w1.alloc (.cells #[.int .i64 y.key, .int .i64 y.tag] tRI) = W1 at *
  generalize hpp : w1.heap.size = p at *
  have HPP := Lib.hid hpp
  clear hpp
  obtain ⟨x0, x1, _, _, hxs⟩ := slot_facts hx2
  obtain ⟨a2, cp2, w2, hrun, d0, e0, hb2, hh3, hu3, hg3⟩ := rf_push_run (w := W1.drew) hh2 x (by omega)
  have hu3 := Upd.of_drew hu3
  have hp3 := (hu3.block _ (lt_of_heap hp2) hpn).trans hp2
  have hq3 := (hu3.block _ (lt_of_heap hq2) hqn).trans hq2
  have c0 := hh2.c0
  have hbs := lt_of_heap hh2.1
  have HH3 := Lib.hid hh3
  have HU3 := Lib.hid (HU2.out.trans hu3 HG1.out)
  have HG3 := Lib.hid (HG1.out.trans (fun k hk => hg3 k hk) HU2.out.size)
  have HP3 := Lib.hid hp3
  have HQ3 := Lib.hid hq3
  have HW := Lib.hid hW
  have HQN := Lib.hid hqn
  have HQL := Lib.hid (lt_of_heap hq2)
  have HG3p := Lib.hid (show Grow W1 (b :: rowOf v1) (b :: rowOf (.slice a2 (LL.length + 1) cp2)) from fun k hk => hg3 k hk)
  clear hh2 hx2 hp2 hq2 hh3 hu3 hg3 hp3 hq3 hpn hqn hW hh1
  (repeat' (first | (go_big_may; fail) | go_values | go_skip | go_guarded | go_step | go_upon | go_back | dsimp only))
  rw [HW.out, HPP.out]
  go_region_law (refine step_append_run rfl _ _ 33 rfl _ _ rfl rfl hrun ?_)
  all_goals
    clear hrun d0 e0 c0
    generalize w2.setCell ⟨b, 0, none⟩ (.slice a2 (LL.length + 1) cp2) = W3 at *
    obtain ⟨p0, p1, _, _, hps⟩ := slot_facts HP3.out
    obtain ⟨z0, z1, y0, y1, hqs⟩ := slot_facts HQ3.out
    (repeat' (first | (go_big_may; fail) | go_values | go_skip | go_guarded | go_step | go_upon | go_back | dsimp only))
    have hq4 : w.heap.size + 1 ∉ b :: rowOf (.slice a2 (LL.length + 1) cp2) := fun hm => by
      have hne := HQN.out
      rcases HG3p.out _ hm with h | h
      · exact hne h
      · have := HQL.out; omega
    have hu := (HU3.out.setCell (p := ⟨w.heap.size + 1, 0, none⟩) (.inr (by simp)) (.int .i64 y.key)).setCell (p := ⟨w.heap.size + 1, 1, none⟩) (.inr (by simp)) (.int .i64 y.tag)
    refine bodyPost_ret (v := itB (y, ok)) (by simp [results, Try.results49, go_sem, z0, z1]) rfl ⟨rfl, .slice a2 (LL.length + 1) cp2, ?_, hu, HG3.out⟩
    refine HH3.out.of_block fun k hk => ?_
    have hkn : k ≠ w.heap.size + 1 := fun e => hq4 (e ▸ hk)
    rw [Below.heap_setCell _ _ _ _ hkn, Below.heap_setCell _ _ _ _ hkn]

/-- All that is left, in its order. -/
theorem drainR_cons {lt : It → It → Bool} {L : List It} (h : L ≠ []) : drainR lt L.length L = firstR lt L :: drainR lt (leftR lt L).length (leftR lt L) := by
  have h1 := leftR_length (lt := lt) h
  rw [← h1, drainR, if_neg h]

/-- The loop of the reference's Drain. -/
def RdAt (w : World) (b : Nat) (v : Value) (L : List It) (vo : Value) (wr : World) : Prop :=
  ∃ acc M v1, RefH wr b M v1 ∧ acc.length + M.length = L.length ∧ acc ++ drainR ltK M.length M = drainR ltK L.length L ∧ wr.ownsRow w.heap.size tRI 2 vo acc.length (cellsI acc) ∧
    (∀ k, vo.ownBlock = some k → k ∉ b :: rowOf v1) ∧ Upd (b :: rowOf v) w wr ∧ Grow w (b :: rowOf v) (b :: rowOf v1)

set_option maxRecDepth 100000 in
set_option maxHeartbeats 1600000 in
theorem rDrain_calls {w : World} {b : Nat} {L : List It} {v : Value} (h : RefH w b L v) (hn : L.length ≤ 1000000000000) :
    Calls Try.prog 17 #[.pointer (some ⟨b, 0, none⟩)] w fun e w' => ∃ vr, e = .returned vr ∧ w'.ownsRow w.heap.size tRI 2 vr L.length (cellsI (drainR ltK L.length L)) ∧ ∃ v', RefH w' b [] v' ∧ (∀ k, vr.ownBlock = some k → k ∉ b :: rowOf v') ∧ Upd (b :: rowOf v) w w' ∧ Grow w (b :: rowOf v) (b :: rowOf v') := by
  have h0 : RdAt w b v L (.slice none 0 0) w := ⟨[], L, v, h, by simp, by simp, World.ownsRow_nil _ _ _ _, by simp [Value.ownBlock], Upd.refl _ _, Grow.refl _ _⟩
  have H0 := Lib.hid h0
  clear h h0
  go_enter Try.func17, Try.ntmps17
  (repeat' (first | (go_big_may; fail) | go_values | go_skip | go_guarded | go_step | go_upon | go_back | dsimp only))
  go_loopw [3] (fun vo wr => RdAt w b v L vo wr) (fun vo _ => L.length - sliceLen vo)
  case atStart => exact H0.out
  case round =>
    obtain ⟨acc, M, v1, hh, hlen, hgo, hown, hdis, hu, hg⟩ := hrel
    clear H0
    have c0 := hh.c0
    obtain ⟨am, cm, hvm, hcm1, hcm2⟩ := hh.rd.shape
    have hsl := sliceLen_own hown
    subst hvm
    unfold maxLen at hcm2
    by_cases hM : M = []
    · subst hM
      have HH := Lib.hid hh
      have HGO := Lib.hid hgo
      have HLEN := Lib.hid hlen
      have HOWN := Lib.hid hown
      have HDIS := Lib.hid hdis
      clear hh hgo hlen hown hdis hsl
      (repeat' (first | (go_big_may; fail) | go_values | go_skip | go_guarded | go_step | go_upon | go_back | dsimp only))
      go_ret
      refine ⟨_, rfl, ?_, _, HH.out, HDIS.out, hu, hg⟩
      have e1 := HGO.out
      have e2 := HLEN.out
      simp only [List.length_nil, drainR, List.append_nil, Nat.add_zero] at e1 e2
      rw [← e1, ← e2]; exact HOWN.out
    · have hpos : 0 < M.length := List.length_pos_iff.2 hM
      have hdc := drainR_cons (lt := ltK) hM
      have hll := leftR_length (lt := ltK) hM
      have HP := Lib.hid (rPop_calls hh (by omega))
      rw [if_neg hM] at HP
      rw [hdc] at hgo
      generalize leftR ltK M = MM at *
      generalize firstR ltK M = x at *
      have HH := Lib.hid hh
      have HGO := Lib.hid hgo
      have HLEN := Lib.hid hlen
      have HLL := Lib.hid hll
      have HOWN := Lib.hid hown
      have HDIS := Lib.hid hdis
      have HU := Lib.hid hu
      have HG := Lib.hid hg
      have HSL := Lib.hid hsl
      have hpos2 : (0 : Int) < M.length := by omega
      have hacc : acc.length ≤ 1000000000000 := by omega
      clear hM hh hgo hlen hown hdis hu hg hsl hdc hll
      (repeat' (first | (go_big_may; fail) | go_values | go_skip | go_guarded | go_step | go_upon | go_back | dsimp only))
      refine HP.out.mono ?_
      rintro e w1 ⟨rfl, v2, hh1, hu1, hg1⟩
      have hown1 := ownsRow_block HOWN.out fun k hk => hu1.block k (HOWN.out.lt k hk).2 (HDIS.out k hk)
      have hdis1 : ∀ k, u3.ownBlock = some k → k ∉ b :: rowOf v2 := fun k hk hm => by
        rcases hg1 k hm with h | h
        · exact HDIS.out k hk h
        · have := (HOWN.out.lt k hk).2; omega
      have hU1 := HU.out.trans hu1 HG.out
      have hG1 := HG.out.trans hg1 HU.out.size
      have hba : Below w1.heap.size w1 (w1.alloc (.cells #[.int .i64 x.key, .int .i64 x.tag] tRI)) := (Below.refl _ _).alloc (Nat.le_refl _) _
      have hp2 := heap_alloc_new w1 (.cells #[.int .i64 x.key, .int .i64 x.tag] tRI)
      have hown2 := ownsRow_below hown1 hba
      have hh2 := hh1.below hba
      have hU2 := hU1.trans (Upd.of_below hba []) (Grow.nil _ _)
      have hB : w.heap.size ≤ (w1.alloc (.cells #[.int .i64 x.key, .int .i64 x.tag] tRI)).heap.size := hU2.size
      obtain ⟨p0, p1, _, _, hps⟩ := slot_facts hp2
      have HH2 := Lib.hid hh2
      have HU2 := Lib.hid hU2
      have HG1 := Lib.hid hG1
      have HD1 := Lib.hid hdis1
      clear hh2 hU2 hG1 hdis1 hh1 hu1 hg1 hown1 hU1 hp2 hba HH HU HG HOWN HDIS HP c0
      (repeat' (first | (go_big_may; (at_builtin; go_must (refine wpList_append_new2 rfl _ _ 33 tRI rfl Try.underlying33 info_RI rfl (by decide) rfl hown2 (by exact (show Value.slice (some ⟨w1.heap.size + 1, 0, none⟩) 1 1 = Value.slice (some ⟨(w1.alloc (.cells #[.int .i64 x.key, .int .i64 x.tag] tRI)).heap.size, 0, none⟩) 1 1 from by simp)) rfl (two_oneCell _ _) hB (by unfold maxLen; omega) (by omega) ?_); intro vo1 w2 hown3 hg3 hbk; have HG3 := Lib.hid hg3; have HBK := Lib.hid hbk; have HO3 := Lib.hid hown3; clear hown3 hg3 hbk)) | go_values | go_skip | go_guarded | go_step | go_upon | go_back | dsimp only))
      go_roundw
      case rel =>
        have hlt := HH2.out.lt
        have hv : ∀ k ∈ b :: rowOf v2, some k ≠ u3.ownBlock := fun k hk e => HD1.out k e.symm hk
        refine ⟨acc ++ [x], MM, v2, HH2.out.of_block fun k hk => HG3.out.block k (hlt k hk) (hv k hk), ?_, ?_, ?_, ?_, ?_, HG1.out⟩
        · have h1 := HLEN.out
          have h2 := HLL.out
          simp; omega
        · rw [← HGO.out]; simp
        · simpa [cellsI_append, cellsI] using HO3.out
        · intro k hk hm
          rcases HBK.out k hk with h | h
          · exact HD1.out k h hm
          · exact absurd (hlt k hm) (Nat.not_lt_of_le h)
        · exact HU2.out.grown HG3.out fun k hk => .inr (hown2.lt k hk).1
      case measure =>
        have h1 := sliceLen_own HO3.out
        have h2 := HSL.out
        have h3 := HLEN.out
        rw [h1, h2]; omega
end Go.Proofs.Ytgahkodbjokgfaa
