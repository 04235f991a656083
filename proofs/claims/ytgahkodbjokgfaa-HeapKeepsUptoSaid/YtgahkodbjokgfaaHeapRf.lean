/- heap: the reference's list in memory; least, Peek walked. -/
import Derived.Test.YtgahkodbjokgfaaHeapSortP
import Derived.Test.YtgahkodbjokgfaaHeapTwin
import Derived.Test.YtgahkodbjokgfaaField
namespace Go.Proofs.Ytgahkodbjokgfaa
open Go.RowKit

abbrev tRH : TypeId := 35
abbrev tRI : TypeId := 36
theorem info_RI : (Try.prog.info? tRI).map (fun i => (i.zero, i.size, i.bytes)) = some (some (.agg #[.int .i64 0, .int .i64 0]), 2, 16) := by kernel_rfl

/-- The reference's heap in block b. -/
def RefH (w : World) (b : Nat) (L : List It) (v : Value) : Prop :=
  w.heap[b]? = some (.cells #[v] tRH (0, 0)) ∧ w.ownsRow 0 tRI 2 v L.length (cellsI L)
theorem RefH.of_block {w w' : World} {b : Nat} {L : List It} {v : Value} (h : RefH w b L v) (hk : ∀ k, k ∈ b :: rowOf v → w'.heap[k]? = w.heap[k]?) : RefH w' b L v :=
  ⟨by rw [hk b (by simp)]; exact h.1, ownsRow_block h.2 fun k e => hk k (List.mem_cons_of_mem _ (mem_rowOf.2 e))⟩
theorem RefH.lt {w : World} {b : Nat} {L : List It} {v : Value} (h : RefH w b L v) : ∀ k, k ∈ b :: rowOf v → k < w.heap.size := by
  intro k hk
  rcases List.mem_cons.1 hk with rfl | hk
  · exact lt_of_heap h.1
  · exact (h.2.lt k (mem_rowOf.1 hk)).2
theorem RefH.upd {fp : List Nat} {w w' : World} {b : Nat} {L : List It} {v : Value} (h : RefH w b L v) (hu : Upd fp w w') (hd : ∀ k ∈ b :: rowOf v, k ∉ fp) : RefH w' b L v :=
  h.of_block fun k hk => hu.block k (h.lt k hk) (hd k hk)
theorem RefH.below {w w' : World} {b : Nat} {L : List It} {v : Value} (h : RefH w b L v) (hb : Below w.heap.size w w') : RefH w' b L v :=
  h.upd (Upd.of_below hb []) (by simp)
theorem RefH.ne {w : World} {b : Nat} {L : List It} {v : Value} (h : RefH w b L v) : b ∉ rowOf v := by
  intro hm
  rw [mem_rowOf] at hm
  rcases h.2.2 with ⟨rfl, _⟩ | ⟨g, cap, cur, rfl, _, hg, _⟩
  · simp [Value.ownBlock] at hm
  · simp only [Value.ownBlock, Option.some.injEq] at hm
    subst hm
    have := h.1.symm.trans hg
    simp only [Option.some.injEq, Obj.cells.injEq] at this
    exact absurd this.2.1 (by decide)
theorem RefH.c0 {w : World} {b : Nat} {L : List It} {v : Value} (h : RefH w b L v) : w.cell? ⟨b, 0, none⟩ = some v := by simp [World.cell?, h.1]
theorem RefH.f0 {w : World} {b : Nat} {L : List It} {v : Value} (h : RefH w b L v) : w.frozen? ⟨b, 0, none⟩ = false := by simp [World.frozen?, h.1]
theorem RefH.rd {w : World} {b : Nat} {L : List It} {v : Value} (h : RefH w b L v) : RdRow w v L.length 2 (cellsI L) := RdRow.of_own h.2

/-- The place of the least of the first k. -/
def leastI (L : List It) (k : Nat) : Int := if k = 0 then -1 else (leastAt ltK L k : Int)
theorem leastI_zero (L : List It) : leastI L 0 = -1 := rfl
theorem leastI_pos (L : List It) {k : Nat} (h : 0 < k) : leastI L k = (leastAt ltK L k : Int) := by unfold leastI; rw [if_neg (by omega)]

set_option maxHeartbeats 800000 in
theorem least_calls {w : World} {b : Nat} {L : List It} {v : Value} (h : RefH w b L v) :
    Calls Try.prog 50 #[.pointer (some ⟨b, 0, none⟩)] w fun e w' => e = .returned (.int .i64 (leastI L L.length)) ∧ Below w.heap.size w w' := by
  obtain ⟨ao, cap, hv, hc1, hc2⟩ := h.rd.shape
  subst hv
  unfold maxLen at hc2
  have H := Lib.hid h
  clear h
  go_enter Try.func50, Try.ntmps50
  (repeat' (first | (go_big_may; fail) | go_values | go_skip | go_guarded | go_step | go_upon | go_back | dsimp only))
  go_loopw [3, 4] (fun at_ x wr => ∃ k : Nat, x = .int .i64 k ∧ k ≤ L.length ∧ at_ = .int .i64 (leastI L k) ∧ Below w.heap.size w wr) (fun _ x _ => L.length - (intOf x).toNat)
  case atStart => exact ⟨0, rfl, Nat.zero_le _, rfl, Below.refl _ _⟩
  case round =>
    obtain ⟨k, rfl, hk, rfl, hb⟩ := hrel
    have hh := H.out.below hb
    have c0 := hh.c0
    have hk1 : (0 : Int) ≤ k := by omega
    have HB := Lib.hid hb
    by_cases hlt : k < L.length
    · have hk2 : (k : Int) < L.length := by omega
      obtain ⟨b1, o1, p1, e1, x0, x1⟩ := hh.rd.item (i := k) hlt
      cases e1
      by_cases hk0 : k = 0
      · subst hk0
        rw [leastI_zero]
        have hs : leastI L 1 = 0 := by unfold leastI leastAt; simp [leastAt]
        have HS := Lib.hid hs
        clear hs hh x1 hb
        (repeat' (first | (go_big_may; fail) | go_values | go_skip | go_guarded | go_step | go_upon | go_back | dsimp only))
        go_quiet (fail)
        (repeat' (first | (go_big_may; fail) | go_values | go_skip | go_guarded | go_step | go_upon | go_back | dsimp only))
        go_roundw
        case rel => exact ⟨1, rfl, hlt, by rw [HS.out]; rfl, HB.out.trans ((below_dW _ _).mono HB.out.size)⟩
        case measure => simp [intOf] <;> omega
      · have hkp : 0 < k := by omega
        rw [leastI_pos L hkp]
        have hml := leastAt_lt ltK L k hk0
        obtain ⟨b2, o2, p2, e2, y0, y1⟩ := hh.rd.item (i := leastAt ltK L k) (by omega)
        cases e2
        have hst : leastAt ltK L (k + 1) = if (L.getD k default).key < (L.getD (leastAt ltK L k) default).key then k else leastAt ltK L k := by rw [leastAt]; simp only [ltK, decide_eq_true_eq]
        generalize leastAt ltK L k = m at *
        generalize (L.getD k default).key = kx at *
        generalize (L.getD m default).key = ky at *
        have hm1 : (0 : Int) ≤ m := by omega
        have hm2 : (m : Int) < L.length := by omega
        have hm3 : ¬ (m : Int) < 0 := by omega
        by_cases hc : kx < ky
        · have hst' : leastI L (k + 1) = k := by rw [leastI_pos L (by omega), hst, if_pos hc]
          have HS := Lib.hid hst'
          clear hst hst' hh x1 y1 hb
          (repeat' (first | (go_big_may; fail) | go_values | go_skip | go_guarded | go_step | go_upon | go_back | dsimp only))
          go_quiet (fail)
          (repeat' (first | (go_big_may; fail) | go_values | go_skip | go_guarded | go_step | go_upon | go_back | dsimp only))
          go_roundw
          case rel => exact ⟨k + 1, by simp, hlt, by rw [HS.out], HB.out.trans ((below_dW _ _).mono HB.out.size)⟩
          case measure => simp [intOf] <;> omega
        · have hst' : leastI L (k + 1) = m := by rw [leastI_pos L (by omega), hst, if_neg hc]
          have HS := Lib.hid hst'
          clear hst hst' hh x1 y1 hb
          (repeat' (first | (go_big_may; fail) | go_values | go_skip | go_guarded | go_step | go_upon | go_back | dsimp only))
          go_quiet (fail)
          (repeat' (first | (go_big_may; fail) | go_values | go_skip | go_guarded | go_step | go_upon | go_back | dsimp only))
          go_roundw
          case rel => exact ⟨k + 1, by simp, hlt, by rw [HS.out], HB.out.trans ((below_dW _ _).mono HB.out.size)⟩
          case measure => simp [intOf] <;> omega
    · obtain rfl : k = L.length := by omega
      clear hh hb
      (repeat' (first | (go_big_may; fail) | go_values | go_skip | go_guarded | go_step | go_upon | go_back | dsimp only))
      go_ret
      exact ⟨rfl, HB.out⟩

theorem ownsRow_mono0 {w : World} {B : Nat} {e : TypeId} {size : Nat} {v : Value} {n : Nat} {xs : List Value} (h : w.ownsRow B e size v n xs) : w.ownsRow 0 e size v n xs := by
  refine ⟨h.1, ?_⟩
  rcases h.2 with hn | ⟨g, cap, cur, rfl, hB, rest⟩
  · exact .inl hn
  · exact .inr ⟨g, cap, cur, rfl, Nat.zero_le _, rest⟩

/-- A list without its place m, of the first k. -/
theorem skip_lt {L : List It} {m k : Nat} (h : k < L.length) (hne : k ≠ m) : (L.take (k + 1)).eraseIdx m = (L.take k).eraseIdx m ++ [L.getD k default] := by
  have e : L.take (k + 1) = L.take k ++ [L.getD k default] := by
    rw [List.take_add_one, List.getElem?_eq_getElem h]; simp [List.getD_eq_getElem?_getD, h]
  rw [e]
  by_cases hk : m < k
  · rw [List.eraseIdx_append_of_lt_length (by simp; omega)]
  · rw [List.eraseIdx_of_length_le (by simp; omega), List.eraseIdx_of_length_le (by simp; omega)]
theorem skip_at {L : List It} {m : Nat} (h : m < L.length) : (L.take (m + 1)).eraseIdx m = (L.take m).eraseIdx m := by
  have e : L.take (m + 1) = L.take m ++ [L.getD m default] := by
    rw [List.take_add_one, List.getElem?_eq_getElem h]; simp [List.getD_eq_getElem?_getD, h]
  have hl : (L.take m).length = m := by rw [List.length_take]; omega
  rw [e, List.eraseIdx_append_of_length_le (by omega), List.eraseIdx_of_length_le (l := L.take m) (by omega), hl]
  simp

/-- The loop of the reference's Pop: the first k, without the place m. -/
def RpAt (w : World) (b q p : Nat) (L : List It) (v : Value) (x : It) (m : Nat) (vo : Value) (k : Nat) (wr : World) : Prop :=
  k ≤ L.length ∧ RefH wr b L v ∧ wr.ownsRow w.heap.size tRI 2 vo ((L.take k).eraseIdx m).length (cellsI ((L.take k).eraseIdx m)) ∧
  wr.heap[q]? = some (.cells #[.int .i64 0, .int .i64 0] tRI (0, 0)) ∧ wr.heap[p]? = some (.cells #[.int .i64 x.key, .int .i64 x.tag] tRI (0, 0)) ∧ vo.ownBlock ≠ some q ∧ vo.ownBlock ≠ some p ∧ w.heap.size ≤ q ∧ w.heap.size ≤ p ∧ Below w.heap.size w wr ∧ ∀ k ∈ b :: rowOf v, k < w.heap.size

theorem RpAt.next {w wr w2 : World} {b q p : Nat} {L : List It} {v : Value} {x : It} {m : Nat} {vo vo1 : Value} {k n : Nat} {cs : List Value} {y : It} (h : RpAt w b q p L v x m vo k wr) (hk : k < L.length) (hne : k ≠ m) (hy : L.getD k default = y)
    (hown : w2.ownsRow w.heap.size tRI 2 vo1 n cs) (hn : n = ((L.take k).eraseIdx m).length + 1) (hcs : cs = cellsI ((L.take k).eraseIdx m) ++ [.int .i64 y.key, .int .i64 y.tag])
    (hg : wr.grownBy w2 vo.ownBlock) (hbk : ∀ k, vo1.ownBlock = some k → vo.ownBlock = some k ∨ wr.heap.size ≤ k) : RpAt w b q p L v x m vo1 (k + 1) w2 := by
  obtain ⟨h0, h1, h2, h3, h4, h5, h6, h7, h8, h9, h10⟩ := h
  have hv : ∀ k, vo.ownBlock = some k → w.heap.size ≤ k := fun k e => (h2.lt k e).1
  have hB : Below w.heap.size w w2 := grownOwn h9 h9.size h2 hg
  have hbw : ∀ k ∈ b :: rowOf v, some k ≠ vo.ownBlock := fun k hk e => by have := hv k e.symm; have := h10 k hk; omega
  refine ⟨hk, h1.of_block fun k hk => hg.block k (h1.lt k hk) (hbw k hk), ?_, ?_, ?_, ?_, ?_, h7, h8, hB, h10⟩
  · rw [skip_lt hk hne, hy]
    rw [hcs, hn] at hown
    simpa [cellsI] using hown
  · rw [hg.block q (lt_of_heap h3) (fun e => h5 e.symm)]; exact h3
  · rw [hg.block p (lt_of_heap h4) (fun e => h6 e.symm)]; exact h4
  · intro e; rcases hbk q e with h | h
    · exact h5 h
    · have := lt_of_heap h3; omega
  · intro e; rcases hbk p e with h | h
    · exact h6 h
    · have := lt_of_heap h4; omega

set_option maxRecDepth 100000 in
set_option maxHeartbeats 1600000 in
theorem rPop_calls {w : World} {b : Nat} {L : List It} {v : Value} (h : RefH w b L v) (hn : L.length ≤ 1099511627776) :
    Calls Try.prog 34 #[.pointer (some ⟨b, 0, none⟩)] w fun e w' => e = .returned (itB (if L = [] then (default, false) else (firstR ltK L, true))) ∧ ∃ v', RefH w' b (leftR ltK L) v' ∧ Upd (b :: rowOf v) w w' ∧ Grow w (b :: rowOf v) (b :: rowOf v') := by
  have hba : Below w.heap.size w (w.alloc (.cells #[.int .i64 0, .int .i64 0] tRI)) := (Below.refl _ _).alloc (Nat.le_refl _) _
  have HLt := Lib.hid h.lt
  by_cases hl : L = []
  · subst hl
    rw [if_pos rfl, show leftR ltK [] = [] from rfl]
    have HL := Lib.hid (least_calls (h.below hba))
    have H := Lib.hid h
    clear h
    go_enter Try.func34, Try.ntmps34
    (repeat' (first | (go_big_may; fail) | go_values | go_skip | go_guarded | go_step | go_upon | go_back | dsimp only))
    refine HL.out.mono ?_
    rintro e w1 ⟨rfl, hb1⟩
    simp only [List.length_nil, leastI_zero]
    have hs1 := slot_kept (w := w) (heap_alloc_new w _) (Upd.of_below hb1 []) (by simp)
    obtain ⟨z0, z1, y0, y1, hsz⟩ := slot_facts hs1
    have HB := Lib.hid (hba.trans (hb1.mono hba.size))
    clear hba hb1 hs1
    (repeat' (first | (go_big_may; fail) | go_values | go_skip | go_guarded | go_step | go_upon | go_back | dsimp only))
    have hu := (((Upd.of_below HB.out []).setCell (p := ⟨w.heap.size, 0, none⟩) (.inr (Nat.le_refl _)) (.int .i64 0)).setCell (p := ⟨w.heap.size, 1, none⟩) (.inr (Nat.le_refl _)) (.int .i64 0))
    refine bodyPost_ret (v := itB (default, false)) (by simp [results, Try.results34, go_sem, z0, z1]; exact ⟨rfl, rfl⟩) rfl ⟨rfl, v, H.out.upd (fp := []) hu (by simp), hu.mono (by simp), Grow.refl _ _⟩
  · have hlen : 0 < L.length := List.length_pos_iff.2 hl
    rw [if_neg hl]
    have HL := Lib.hid (least_calls (h.below hba))
    obtain ⟨ao, cap, hv, hc1, hc2⟩ := h.rd.shape
    unfold maxLen at hc2
    have H := Lib.hid h
    have hml := leastAt_lt ltK L L.length (by omega)
    have hle := leastI_pos L hlen
    have hfr : firstR ltK L = L.getD (leastAt ltK L L.length) default := rfl
    have hlr : leftR ltK L = L.eraseIdx (leastAt ltK L L.length) := rfl
    rw [hfr, hlr]
    rw [hle] at HL
    clear hfr hlr hle
    generalize leastAt ltK L L.length = m at *
    clear h
    subst hv
    go_enter Try.func34, Try.ntmps34
    (repeat' (first | (go_big_may; fail) | go_values | go_skip | go_guarded | go_step | go_upon | go_back | dsimp only))
    refine HL.out.mono ?_
    rintro e w1 ⟨rfl, hb1⟩
    have hs1 := slot_kept (w := w) (heap_alloc_new w _) (Upd.of_below hb1 []) (by simp)
    have hbw := hba.trans (hb1.mono hba.size)
    have hh := H.out.below hbw
    have c0 := hh.c0
    obtain ⟨bx, off, cp, hsl, x0, x1⟩ := hh.rd.item (i := m) hml
    cases hsl
    have hm1 : (0 : Int) ≤ m := by omega
    have hm2 : (m : Int) < L.length := by omega
    have hm3 : ¬ (m : Int) < 0 := by omega
    generalize hx : L.getD m default = x at *
    have HX := Lib.hid hx
    have HH := Lib.hid hh
    have HS := Lib.hid hs1
    have HB := Lib.hid hbw
    have hw1 : w.heap.size < w1.heap.size := lt_of_heap hs1
    clear hh hs1 hbw hb1 hba hx HL
    (repeat' (first | (go_big_may; fail) | go_values | go_skip | go_guarded | go_step | go_upon | go_back | dsimp only))
    have hat : RpAt w b w.heap.size w1.heap.size L (.slice (some ⟨bx, off, none⟩) L.length cap) x m (.slice none 0 0) 0 (w1.alloc (.cells #[.int .i64 x.key, .int .i64 x.tag] tRI)) := by
      refine ⟨Nat.zero_le _, HH.out.below ((Below.refl _ _).alloc (Nat.le_refl _) _), by simpa [cellsI] using World.ownsRow_nil _ _ _ _, ?_, heap_alloc_new w1 _, by simp [Value.ownBlock], by simp [Value.ownBlock], Nat.le_refl _, HB.out.size, HB.out.alloc HB.out.size _, HLt.out⟩
      rw [heap_alloc_old _ _ hw1]; exact HS.out
    generalize w1.alloc (.cells #[.int .i64 x.key, .int .i64 x.tag] tRI) = W1 at *
    have hpq : ¬ w1.heap.size = w.heap.size := by omega
    generalize w1.heap.size = p at *
    have HAT := Lib.hid hat
    clear hat HH HS HB c0 x0 x1 hw1
    go_loopw [6, 7] (fun vo i wr => ∃ k : Nat, i = .int .i64 k ∧ RpAt w b w.heap.size p L (.slice (some ⟨bx, off, none⟩) L.length cap) x m vo k wr) (fun _ i _ => L.length - (intOf i).toNat)
    case atStart => exact ⟨0, rfl, HAT.out⟩
    case round =>
      obtain ⟨k, rfl, hat⟩ := hrel
      clear HAT
      have hkl := hat.1
      have c0 := hat.2.1.c0
      have hk1 : (0 : Int) ≤ k := by omega
      have HAT := Lib.hid hat
      by_cases hlt : k < L.length
      · obtain ⟨b', o', p', e', y0, y1⟩ := hat.2.1.rd.item (i := k) hlt
        cases e'
        have hk2 : (k : Int) < L.length := by omega
        have hBw : w.heap.size ≤ wr.heap.size := hat.2.2.2.2.2.2.2.2.2.1.size
        have hown := hat.2.2.1
        have hlk : ((L.take k).eraseIdx m).length ≤ 1099511627776 := by
          have := List.length_eraseIdx_le (L.take k) m
          rw [List.length_take] at this; omega
        generalize hy : L.getD k default = y at *
        have HY := Lib.hid hy
        clear hat hy
        by_cases hkm : k = m
        · subst hkm
          have hne : ((k : Int) != (k : Int)) = false := by simp
          clear hown hlk y0 y1
          (repeat' (first | (go_big_may; fail) | go_values | go_skip | go_guarded | go_step | go_upon | go_back | dsimp only))
          go_roundw
          case rel =>
            refine ⟨k + 1, by simp, hlt, ?_⟩
            rw [skip_at hlt]
            exact HAT.out.2
          case measure => simp [intOf] <;> omega
        · have hne : ((k : Int) != (m : Int)) = true := by rw [bne_iff_ne]; omega
          have HN := Lib.hid hkm
          clear hkm
          (repeat' (first | (go_big_may; (at_builtin; go_must (refine wpList_append_new2 rfl _ _ 33 tRI rfl Try.underlying33 info_RI rfl (by decide) rfl hown rfl rfl (two_oneCell _ _) hBw (by unfold maxLen; omega) (by omega) ?_); intro vo1 w2 hown1 hg1 hbk; go_must (have HNX := Lib.hid (HAT.out.next hlt HN.out HY.out hown1 rfl rfl hg1 hbk)); clear hown1 hg1 hbk hown c0 y0 y1)) | go_values | go_skip | go_guarded | go_step | go_upon | go_back | dsimp only))
          go_roundw
          case rel => exact ⟨k + 1, by simp, HNX.out⟩
          case measure => simp [intOf] <;> omega
      · obtain rfl : k = L.length := by omega
        obtain ⟨_, hh, hown, hq, hp, hvq, hvp, hwq, hwp, hB, hlt'⟩ := hat
        rw [List.take_length] at hown
        have f0 := hh.f0
        have hbs := lt_of_heap hh.1
        obtain ⟨z0, z1, y0, y1, hsz⟩ := slot_facts hq
        obtain ⟨p0, p1, _, _, hpz⟩ := slot_facts hp
        have hbq : b < w.heap.size := hlt' b (by simp)
        obtain ⟨ao, cap', hv, _, _⟩ := (RdRow.of_own hown).shape
        subst hv
        have HOWN := Lib.hid hown
        have HH := Lib.hid hh
        have HQ := Lib.hid hq
        have HP := Lib.hid hp
        have HB := Lib.hid hB
        have hpq : ¬ p = w.heap.size := hpq
        clear hown hh hq hp hB hlt' HAT
        (repeat' (first | (go_big_may; fail) | go_values | go_skip | go_guarded | go_step | go_upon | go_back | dsimp only))
        have hvb : ∀ k ∈ rowOf (.slice ao (L.eraseIdx m).length cap'), w.heap.size ≤ k ∧ k ≠ b ∧ k ≠ w.heap.size := fun k hk => by
          rw [mem_rowOf] at hk
          have h1 := (HOWN.out.lt k hk).1
          exact ⟨h1, by omega, fun e => hvq (by rw [hk, e])⟩
        have hu := (((Upd.of_below HB.out (b :: rowOf (.slice (some ⟨bx, off, none⟩) L.length cap))).setCell (p := ⟨b, 0, none⟩) (.inl (by simp)) (.slice ao (L.eraseIdx m).length cap')).setCell (p := ⟨w.heap.size, 0, none⟩) (.inr (Nat.le_refl _)) (.int .i64 x.key)).setCell (p := ⟨w.heap.size, 1, none⟩) (.inr (Nat.le_refl _)) (.int .i64 x.tag)
        refine bodyPost_ret (v := itB (x, true)) (by simp [results, Try.results34, go_sem, z0, z1]) rfl ⟨by rw [HX.out], .slice ao (L.eraseIdx m).length cap', ⟨?_, ?_⟩, hu, ?_⟩
        · have hbn : b ≠ w.heap.size := by omega
          rw [Below.heap_setCell _ _ _ _ hbn, Below.heap_setCell _ _ _ _ hbn]
          exact heap_setCell (o := 0) HH.out.1 _
        · have h0 : (wr.setCell ⟨b, 0, none⟩ (.slice ao (L.eraseIdx m).length cap')).ownsRow 0 tRI 2 (.slice ao (L.eraseIdx m).length cap') (L.eraseIdx m).length (cellsI (L.eraseIdx m)) :=
            ownsRow_block (ownsRow_mono0 HOWN.out) fun k hk => Below.heap_setCell _ _ _ _ (hvb k (mem_rowOf.2 hk)).2.1
          exact ownsRow_block h0 fun k hk => by
            have := (hvb k (mem_rowOf.2 hk)).2.2
            rw [Below.heap_setCell _ _ _ _ this, Below.heap_setCell _ _ _ _ this]
        · intro k hk
          rcases List.mem_cons.1 hk with rfl | hk
          · exact .inl (by simp)
          · exact .inr (hvb k hk).1
end Go.Proofs.Ytgahkodbjokgfaa
