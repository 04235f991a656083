/- heap: Replace; the calls of a nil heap. -/
import Derived.Test.YtgahkodbjokgfaaHeapLaw
namespace Go.Proofs.Ytgahkodbjokgfaa
open Go.RowKit

theorem HeapH.lt2 {w : World} {b : Nat} {fl : FuncId} {lt : It → It → Bool} {L : List It} {n : Nat} {v : Value} (h : HeapH w b fl lt L n v) : ∀ k, k ∈ b :: rowOf v → k < w.heap.size := by
  obtain ⟨l, h1, _⟩ := h; exact h1.lt
theorem HeapH.upd2 {fp : List Nat} {w w' : World} {b : Nat} {fl : FuncId} {lt : It → It → Bool} {L : List It} {n : Nat} {v : Value} (h : HeapH w b fl lt L n v) (hu : Upd fp w w') (hd : ∀ k ∈ b :: rowOf v, k ∉ fp) : HeapH w' b fl lt L n v := by
  obtain ⟨l, h1, h2⟩ := h; exact ⟨l, h1.upd hu hd, h2⟩
theorem HeapH.below2 {w w' : World} {b : Nat} {fl : FuncId} {lt : It → It → Bool} {L : List It} {n : Nat} {v : Value} (h : HeapH w b fl lt L n v) (hb : Below w.heap.size w w') : HeapH w' b fl lt L n v :=
  h.upd2 (Upd.of_below hb []) (by simp)

theorem Push_nil (w : World) (vx : Value) : Calls Try.prog 18 #[.pointer none, vx] w fun e w' => e = .returned (.tuple #[]) ∧ w = w' := by
  go_enter Try.func18, Try.ntmps18
  (repeat' (first | (go_big_may; fail) | go_values | go_skip | go_guarded | go_step | go_upon | go_back | dsimp only))
  exact bodyPost_ret (results_none rfl _ _ _) rfl ⟨rfl, rfl⟩

set_option maxHeartbeats 800000 in
theorem Pop_nil (w : World) : Calls Try.prog 19 #[.pointer none] w fun e w' => e = .returned (itB (default, false)) ∧ Below w.heap.size w w' := by
  have hba : Below w.heap.size w (w.alloc (.cells #[.int .i64 0, .int .i64 0] 25)) := (Below.refl _ _).alloc (Nat.le_refl _) _
  go_enter Try.func19, Try.ntmps19
  (repeat' (first | (go_big_may; fail) | go_values | go_skip | go_guarded | go_step | go_upon | go_back | dsimp only))
  refine (Peek_nil _).mono ?_
  rintro e w1 ⟨rfl, hb1⟩
  have hs1 := slot_kept (w := w) (heap_alloc_new w _) (Upd.of_below hb1 []) (by simp)
  obtain ⟨z0, z1, y0, y1, hsz⟩ := slot_facts hs1
  have HB := Lib.hid (hba.trans (hb1.mono hba.size))
  clear hba hb1 hs1
  (repeat' (first | (go_big_may; fail) | go_values | go_skip | go_guarded | go_step | go_upon | go_back | dsimp only))
  exact bodyPost_ret (v := itB (default, false)) (by simp [results, Try.results19, go_sem, z0, z1, hsz]) rfl ⟨rfl, ((HB.out.setCell (Nat.le_refl _) _).setCell (Nat.le_refl _) _).alloc (by simp [World.setCell]; omega) _⟩

set_option maxHeartbeats 800000 in
theorem Drain_nil (w : World) : Calls Try.prog 16 #[.pointer none] w fun e w' => e = .returned (.slice none 0 0) ∧ Below w.heap.size w w' := by
  go_enter Try.func16, Try.ntmps16
  (repeat' (first | (go_big_may; fail) | go_values | go_skip | go_guarded | go_step | go_upon | go_back | dsimp only))
  refine (Pop_nil _).mono ?_
  rintro e w1 ⟨rfl, hb1⟩
  have HB := Lib.hid hb1
  clear hb1
  (repeat' (first | (go_big_may; fail) | go_values | go_skip | go_guarded | go_step | go_upon | go_back | dsimp only))
  go_loopw [3, 5] (fun vo ok wr => vo = .slice none 0 0 ∧ ok = .bool false ∧ Below w.heap.size w wr) (fun _ _ _ => 0)
  case atStart => exact ⟨rfl, rfl, HB.out.alloc HB.out.size _⟩
  case round =>
    obtain ⟨rfl, rfl, hb⟩ := hrel
    clear HB
    have HB := Lib.hid hb
    clear hb
    (repeat' (first | (go_big_may; fail) | go_values | go_skip | go_guarded | go_step | go_upon | go_back | dsimp only))
    refine (Clip_calls _ none 0 0 (Nat.le_refl _) (by decide) (fun _ => rfl)).mono ?_
    rintro e w' ⟨rfl, rfl⟩
    (repeat' (first | (go_big_may; fail) | go_values | go_skip | go_guarded | go_step | go_upon | go_back | dsimp only))
    go_ret
    exact ⟨rfl, HB.out⟩

set_option maxHeartbeats 800000 in
theorem Replace_nil (w : World) (x : It) : Calls Try.prog 48 #[.pointer none, x.v] w fun e w' => e = .returned (itB (default, false)) ∧ Below w.heap.size w w' := by
  have hba : Below w.heap.size w ((w.alloc (.cells #[.int .i64 x.key, .int .i64 x.tag] 25)).alloc (.cells #[.int .i64 0, .int .i64 0] 25)) := ((Below.refl _ _).alloc (Nat.le_refl _) _).alloc (by simp) _
  have hx0 : ((w.alloc (.cells #[.int .i64 x.key, .int .i64 x.tag] 25)).alloc (.cells #[.int .i64 0, .int .i64 0] 25)).heap[w.heap.size]? = some (.cells #[.int .i64 x.key, .int .i64 x.tag] 25 (0, 0)) := by
    rw [heap_alloc_old _ _ (by simp)]; exact heap_alloc_new _ _
  have hq0 : ((w.alloc (.cells #[.int .i64 x.key, .int .i64 x.tag] 25)).alloc (.cells #[.int .i64 0, .int .i64 0] 25)).heap[w.heap.size + 1]? = some (.cells #[.int .i64 0, .int .i64 0] 25 (0, 0)) := by
    have := heap_alloc_new (w.alloc (.cells #[.int .i64 x.key, .int .i64 x.tag] 25)) (.cells #[.int .i64 0, .int .i64 0] 25)
    simpa using this
  have HB0 := Lib.hid hba
  have HX0 := Lib.hid hx0
  have HQ0 := Lib.hid hq0
  clear hba hx0 hq0
  go_enter Try.func48, Try.ntmps48
  (repeat' (first | (go_big_may; fail) | go_values | go_skip | go_guarded | go_step | go_upon | go_back | dsimp only))
  refine (Peek_nil _).mono ?_
  rintro e w1 ⟨rfl, hb1⟩
  have hx1 := (hb1.block _ (lt_of_heap HX0.out)).trans HX0.out
  have hq1 := (hb1.block _ (lt_of_heap HQ0.out)).trans HQ0.out
  obtain ⟨x0, x1, _, _, hxs⟩ := slot_facts hx1
  obtain ⟨z0, z1, y0, y1, hqs⟩ := slot_facts hq1
  have HB := Lib.hid (HB0.out.trans (hb1.mono HB0.out.size))
  have hws : w.heap.size ≤ w1.heap.size := HB.out.size
  clear hb1 hx1 hq1 HB0 HX0 HQ0
  (repeat' (first | (go_big_may; (go_at_call 18; refine (Push_nil _ _).mono ?_; rintro e w' ⟨rfl, rfl⟩)) | go_values | go_skip | go_guarded | go_step | go_upon | go_back | dsimp only))
  exact bodyPost_ret (v := itB (default, false)) (by simp [results, Try.results48, go_sem, hqs, Nat.lt_succ_of_lt hqs, z0, z1]) rfl ⟨rfl, by (repeat' (first | exact HB.out | (with_reducible refine Below.setCell ?_ ?_ _) | (with_reducible refine Below.alloc ?_ ?_ _) | (with_reducible refine Below.drew ?_) | (simp only [World.heap_size_setCell, World.heap_size_alloc, World.heap_size_drew]; omega) | (simp [World.setCell]; done) | (simp [World.setCell]; omega)))⟩

/-- Another entry at the root. -/
def setW (w : World) (g : Nat) (e : It × Nat) : World :=
  ((w.setCell ⟨g, 0, none⟩ (.int .i64 e.1.key)).setCell ⟨g, 1, none⟩ (.int .i64 e.1.tag)).setCell ⟨g, 2, none⟩ (.int .i64 e.2)

theorem setW_heap {w : World} {b g cap : Nat} {f : Value} {l : List (It × Nat)} {turns : Nat} (h : HeapI w b f l turns (.slice (some ⟨g, 0, none⟩) l.length cap)) (hne : l ≠ []) (e : It × Nat) :
    HeapI (setW w g e) b f (l.set 0 e) turns (.slice (some ⟨g, 0, none⟩) l.length cap) ∧ Upd (b :: rowOf (.slice (some ⟨g, 0, none⟩) l.length cap)) w (setW w g e) := by
  obtain ⟨g', cap', cur, hv, hg, hnc, hc, hs, ht⟩ := h.row hne
  cases hv
  have hgb : g ≠ b := fun e => h.ne (by rw [mem_rowOf]; simp [Value.ownBlock, e])
  have hgm : g ∈ b :: rowOf (.slice (some ⟨g, 0, none⟩) l.length cap) := by simp [rowOf, Value.ownBlock]
  refine ⟨⟨?_, ?_⟩, ?_⟩
  · unfold setW
    iterate 3 rw [Below.heap_setCell _ _ _ _ (fun e => hgb e.symm)]
    exact h.1
  · refine ⟨by rw [flatI_length], .inr ⟨g, cap, ((cur.setIfInBounds 0 (.int .i64 e.1.key)).setIfInBounds 1 (.int .i64 e.1.tag)).setIfInBounds 2 (.int .i64 e.2), by rw [List.length_set], Nat.zero_le _, ?_, by rw [List.length_set]; exact hnc, hc, by simpa using hs, ?_⟩⟩
    · unfold setW
      exact heap_setCell (heap_setCell (heap_setCell hg _) _) _
    · obtain ⟨a, l', rfl⟩ := List.exists_cons_of_ne_nil hne
      have e1 : flatI (a :: l') = entI a ++ flatI l' := by simp [flatI]
      have e2 : flatI ((a :: l').set 0 e) = entI e ++ flatI l' := by simp [flatI]
      rw [e2, List.length_set]
      apply List.ext_getElem?
      intro k
      have hk := congrArg (fun x => x[k]?) ht
      simp only [e1] at hk
      simp only [List.length_cons] at hk hs hnc ⊢
      simp only [List.getElem?_take, Array.getElem?_toList, Array.getElem?_setIfInBounds, Array.size_setIfInBounds] at hk ⊢
      match k with
      | 0 => simp; rintro rfl; simp at hs; omega
      | 1 => simp; omega
      | 2 => simp; omega
      | k + 3 =>
        rw [if_neg (by omega : ¬ 2 = k + 3), if_neg (by omega : ¬ 1 = k + 3), if_neg (by omega : ¬ 0 = k + 3), hk]
        simp
  · exact (((Upd.refl _ w).setCell (p := ⟨g, 0, none⟩) (.inl hgm) _).setCell (p := ⟨g, 1, none⟩) (.inl hgm) _).setCell (p := ⟨g, 2, none⟩) (.inl hgm) _

theorem c3_facts {w : World} {b g cap : Nat} {f : Value} {l : List (It × Nat)} {turns : Nat} (h : HeapI w b f l turns (.slice (some ⟨g, 0, none⟩) l.length cap)) (hne : l ≠ []) :
    (∃ z0 z1 z2, w.cell? ⟨g, 0, none⟩ = some z0 ∧ w.cell? ⟨g, 1, none⟩ = some z1 ∧ w.cell? ⟨g, 2, none⟩ = some z2) ∧ ∀ k, w.frozen? ⟨g, k, none⟩ = false := by
  obtain ⟨g', cap', cur, hv, hg, hnc, hc, hs, ht⟩ := h.row hne
  cases hv
  obtain ⟨i0, i1, i2⟩ := row_cells hg ht (List.length_pos_iff.2 hne)
  simp only [Nat.zero_mul, Nat.zero_add] at i0 i1 i2
  exact ⟨⟨_, _, _, i0, i1, i2⟩, fun k => by simp [World.frozen?, hg]⟩

set_option maxRecDepth 100000 in
set_option maxHeartbeats 1600000 in
theorem Replace_full {w : World} {b : Nat} {fl : FuncId} {lt : It → It → Bool} (hL : LessI fl lt) {l : List (It × Nat)} {turns : Nat} {v : Value} (h : HeapI w b (.func (.func fl) #[] #[]) l turns v) (hl : l ≠ []) (x : It) (hn : l.length ≤ 1099511627776) (ht : turns ≤ 1099511627776) :
    Calls Try.prog 48 #[.pointer (some ⟨b, 0, none⟩), x.v] w fun e w' => e = .returned (itB ((l.getD 0 default).1, true)) ∧ HeapI w' b (.func (.func fl) #[] #[]) (hp.sinkL (hp.ahead lt) (l.set 0 (x, turns + 1)) 0) (turns + 1) v ∧ Upd (b :: rowOf v) w w' := by
  have hba : Below w.heap.size w ((w.alloc (.cells #[.int .i64 x.key, .int .i64 x.tag] 25)).alloc (.cells #[.int .i64 0, .int .i64 0] 25)) := ((Below.refl _ _).alloc (Nat.le_refl _) _).alloc (by simp) _
  have hx0 : ((w.alloc (.cells #[.int .i64 x.key, .int .i64 x.tag] 25)).alloc (.cells #[.int .i64 0, .int .i64 0] 25)).heap[w.heap.size]? = some (.cells #[.int .i64 x.key, .int .i64 x.tag] 25 (0, 0)) := by
    rw [heap_alloc_old _ _ (by simp)]; exact heap_alloc_new _ _
  have hq0 : ((w.alloc (.cells #[.int .i64 x.key, .int .i64 x.tag] 25)).alloc (.cells #[.int .i64 0, .int .i64 0] 25)).heap[w.heap.size + 1]? = some (.cells #[.int .i64 0, .int .i64 0] 25 (0, 0)) := by
    have := heap_alloc_new (w.alloc (.cells #[.int .i64 x.key, .int .i64 x.tag] 25)) (.cells #[.int .i64 0, .int .i64 0] 25)
    simpa using this
  have hh0 := h.below hba
  have hlt := h.lt
  obtain ⟨g, cap, cur, hv, hy1, hnc, hc, hy2, hy3⟩ := h.row hl
  clear hy1 hy2 hy3
  subst hv
  unfold maxLen at hc
  have hlen : 0 < l.length := List.length_pos_iff.2 hl
  have hP := Peek_calls hh0
  have hpk : peekR l = ((l.getD 0 default).1, true) := by unfold peekR; rw [if_neg hl]
  rw [hpk] at hP
  generalize (l.getD 0 default).1 = y at *
  have HP := Lib.hid hP
  have HH0 := Lib.hid hh0
  have HLT := Lib.hid hlt
  have HB0 := Lib.hid hba
  have HX0 := Lib.hid hx0
  have HQ0 := Lib.hid hq0
  have hts : turns < 9223372036854775807 := by omega
  have hi1 : (0 : Int) < l.length := by omega
  clear h hh0 hP hpk hlt hba hx0 hq0
  go_enter Try.func48, Try.ntmps48
  (repeat' (first | (go_big_may; fail) | go_values | go_skip | go_guarded | go_step | go_upon | go_back | dsimp only))
  refine HP.out.mono ?_
  rintro e w1 ⟨rfl, hb1⟩
  have hbw := HB0.out.trans (hb1.mono HB0.out.size)
  have hx1 := (hb1.block _ (lt_of_heap HX0.out)).trans HX0.out
  have hq1 := (hb1.block _ (lt_of_heap HQ0.out)).trans HQ0.out
  have hh1 := HH0.out.below hb1
  have HH1 := Lib.hid hh1
  have HX1 := Lib.hid hx1
  have HQ1 := Lib.hid hq1
  have HBW := Lib.hid hbw
  clear hb1 hx1 hq1 hh1 hbw HB0 HX0 HQ0 HH0 HP
  (repeat' (first | (go_big_may; fail) | go_values | go_skip | go_guarded | go_step | go_upon | go_back | dsimp only))
  have hba1 : Below w1.heap.size w1 (w1.alloc (.cells #[.int .i64 y.key, .int .i64 y.tag] 25)) := (Below.refl _ _).alloc (Nat.le_refl _) _
  have hx2 := (hba1.block _ (lt_of_heap HX1.out)).trans HX1.out
  have hq2 := (hba1.block _ (lt_of_heap HQ1.out)).trans HQ1.out
  have hp2 := heap_alloc_new w1 (.cells #[.int .i64 y.key, .int .i64 y.tag] 25)
  have hh2 := HH1.out.below hba1
  have hB2 := HBW.out.trans (hba1.mono HBW.out.size)
  have hpl : w.heap.size ≤ w1.heap.size := HBW.out.size
  clear hba1 HX1 HQ1 HH1 HBW
  generalize w1.alloc (.cells #[.int .i64 y.key, .int .i64 y.tag] 25) = W2 at *
  generalize w1.heap.size = p at *
  obtain ⟨x0, x1, _, _, hxs⟩ := slot_facts hx2
  have c1 := hh2.facts.c1
  have hbs := lt_of_heap hh2.1
  have HH2 := Lib.hid hh2
  have HQ2 := Lib.hid hq2
  have HP2 := Lib.hid hp2
  have HB2 := Lib.hid hB2
  clear hh2 hq2 hp2 hB2 hx2
  go_region_law (refine step_call_fn rfl 35 _ _ rfl enters_enter [.pointer (some ⟨b, 0, none⟩), x.v] rfl ?_; refine (enter_calls (h := HH2.out.drew) x hts).mono ?_; rintro e w3 ⟨rfl, hh3, hu3⟩; dsimp only; obtain ⟨⟨z0, z1, z2, k0, k1, k2⟩, kf⟩ := c3_facts hh3 hl; have c1w := hh3.facts.c1; have hbw3 := lt_of_heap hh3.1; have HH3 := Lib.hid hh3; have HU3 := Lib.hid hu3; clear hh3 hu3)
  all_goals
    obtain ⟨hh4, hu4⟩ := setW_heap HH3.out hl (x, turns + 1)
    have hl4 : (l.set 0 (x, turns + 1)).length = l.length := List.length_set
    have hcast : setW w3 g (x, turns + 1) = ((w3.setCell ⟨g, 0, none⟩ (.int .i64 x.key)).setCell ⟨g, 1, none⟩ (.int .i64 x.tag)).setCell ⟨g, 2, none⟩ (.int .i64 ((turns : Int) + 1)) := by simp [setW]
    rw [← hcast]
    have HH4 := Lib.hid hh4
    have HU4 := Lib.hid hu4
    clear hcast hh4 hu4 c1 c1w k0 k1 k2 kf x0 x1
    generalize setW w3 g (x, turns + 1) = W4 at *
    (repeat' (first | (go_big_may; fail) | go_values | go_skip | go_guarded | go_step | go_upon | go_back | dsimp only))
    refine (sink_at hL HH4.out (by omega) _ rfl).mono ?_
    rintro e w5 ⟨rfl, hh5, hu5⟩
    have hG : rowOf (.slice (some ⟨g, 0, none⟩) l.length cap) = [g] := by simp [rowOf, Value.ownBlock]
    have hu3 := Upd.of_drew HU3.out
    have hu4 := HU4.out
    rw [hG] at hu4 hu5
    have huA : Upd (b :: [g]) W2 w5 := ((hu3.mono (by simp)).trans hu4 (Grow.refl _ _)).trans hu5 (Grow.refl _ _)
    have hnf : ∀ k, w.heap.size ≤ k → k ∉ b :: [g] := fun k hk hm => by
      have := HLT.out k (by rw [hG]; exact hm)
      omega
    have hp5 := (huA.block p (lt_of_heap HP2.out) (hnf _ hpl)).trans HP2.out
    have hq5 := (huA.block _ (lt_of_heap HQ2.out) (hnf _ (by omega))).trans HQ2.out
    obtain ⟨p0, p1, _, _, hps⟩ := slot_facts hp5
    obtain ⟨z0, z1, y0, y1, hqs⟩ := slot_facts hq5
    have HU := Lib.hid ((Upd.of_below HB2.out (b :: [g])).trans huA (Grow.refl _ _))
    have hqn := hnf (w.heap.size + 1) (by omega)
    have HH5 := Lib.hid hh5
    have HQN := Lib.hid hqn
    have HG := Lib.hid hG
    clear hu3 hu4 huA hnf hp5 hq5 hh5 hqn hu5 hG
    (repeat' (first | (go_big_may; fail) | go_values | go_skip | go_guarded | go_step | go_upon | go_back | dsimp only))
    refine bodyPost_ret (v := itB (y, true)) (by simp [results, Try.results48, go_sem, z0, z1]) rfl ⟨rfl, ?_, ?_⟩
    · refine HH5.out.of_block fun k hk => ?_
      have hkn : k ≠ w.heap.size + 1 := fun e => HQN.out (by rw [← e, ← HG.out]; exact hk)
      rw [Below.heap_setCell _ _ _ _ hkn, Below.heap_setCell _ _ _ _ hkn]
    · rw [HG.out]
      exact (HU.out.setCell (p := ⟨w.heap.size + 1, 0, none⟩) (.inr (by simp)) _).setCell (p := ⟨w.heap.size + 1, 1, none⟩) (.inr (by simp)) _

set_option maxRecDepth 100000 in
set_option maxHeartbeats 1600000 in
theorem Replace_empty {w : World} {b : Nat} {fl : FuncId} {lt : It → It → Bool} (hL : LessI fl lt) {n : Nat} {v : Value} (h : HeapH w b fl lt [] n v) (x : It) (ht : n ≤ 1000000000000) :
    Calls Try.prog 48 #[.pointer (some ⟨b, 0, none⟩), x.v] w fun e w' => e = .returned (itB (default, false)) ∧ ∃ v', HeapH w' b fl lt [x] (n + 1) v' ∧ Upd (b :: rowOf v) w w' ∧ Grow w (b :: rowOf v) (b :: rowOf v') := by
  have hba : Below w.heap.size w ((w.alloc (.cells #[.int .i64 x.key, .int .i64 x.tag] 25)).alloc (.cells #[.int .i64 0, .int .i64 0] 25)) := ((Below.refl _ _).alloc (Nat.le_refl _) _).alloc (by simp) _
  have hx0 : ((w.alloc (.cells #[.int .i64 x.key, .int .i64 x.tag] 25)).alloc (.cells #[.int .i64 0, .int .i64 0] 25)).heap[w.heap.size]? = some (.cells #[.int .i64 x.key, .int .i64 x.tag] 25 (0, 0)) := by
    rw [heap_alloc_old _ _ (by simp)]; exact heap_alloc_new _ _
  have hq0 : ((w.alloc (.cells #[.int .i64 x.key, .int .i64 x.tag] 25)).alloc (.cells #[.int .i64 0, .int .i64 0] 25)).heap[w.heap.size + 1]? = some (.cells #[.int .i64 0, .int .i64 0] 25 (0, 0)) := by
    have := heap_alloc_new (w.alloc (.cells #[.int .i64 x.key, .int .i64 x.tag] 25)) (.cells #[.int .i64 0, .int .i64 0] 25)
    simpa using this
  obtain ⟨l, hh, hH⟩ := h
  have hl : l = [] := List.length_eq_zero_iff.1 (by rw [hH.length]; rfl)
  subst hl
  have hh0 := hh.below hba
  have HLT := Lib.hid hh.lt
  have hP := Peek_calls hh0
  rw [show peekR [] = (default, false) from rfl] at hP
  have HP := Lib.hid hP
  have HH0 := Lib.hid (show HeapH _ b fl lt [] n v from ⟨[], hh0, hH⟩)
  have HB0 := Lib.hid hba
  have HX0 := Lib.hid hx0
  have HQ0 := Lib.hid hq0
  clear hh hH hh0 hP hba hx0 hq0
  go_enter Try.func48, Try.ntmps48
  (repeat' (first | (go_big_may; fail) | go_values | go_skip | go_guarded | go_step | go_upon | go_back | dsimp only))
  refine HP.out.mono ?_
  rintro e w1 ⟨rfl, hb1⟩
  have hbw := HB0.out.trans (hb1.mono HB0.out.size)
  have hx1 := (hb1.block _ (lt_of_heap HX0.out)).trans HX0.out
  have hq1 := (hb1.block _ (lt_of_heap HQ0.out)).trans HQ0.out
  have hh1 := HH0.out.below2 hb1
  obtain ⟨x0, x1, _, _, hxs⟩ := slot_facts hx1
  have hpl : w.heap.size ≤ w1.heap.size := hbw.size
  have HH1 := Lib.hid hh1
  have HQ1 := Lib.hid hq1
  have HBW := Lib.hid hbw
  clear hb1 hx1 hq1 hh1 hbw HB0 HX0 HQ0 HH0 HP
  (repeat' (first | (go_big_may; fail) | go_values | go_skip | go_guarded | go_step | go_upon | go_back | dsimp only))
  have hba1 : Below w1.heap.size w1 ((w1.alloc (.cells #[.int .i64 (default : It).key, .int .i64 (default : It).tag] 25)).alloc (.cells #[.int .i64 x.key, .int .i64 x.tag] 25)) := ((Below.refl _ _).alloc (Nat.le_refl _) _).alloc (by simp) _
  have hrd : RdRow ((w1.alloc (.cells #[.int .i64 (default : It).key, .int .i64 (default : It).tag] 25)).alloc (.cells #[.int .i64 x.key, .int .i64 x.tag] 25)) (.slice (some ⟨w1.heap.size + 1, 0, none⟩) 1 1) [x].length 2 (cellsI [x]) := by
    have := RdRow.fresh (w1.alloc (.cells #[.int .i64 (default : It).key, .int .i64 (default : It).tag] 25)) #[.int .i64 x.key, .int .i64 x.tag] 25 1 2 rfl (by unfold maxLen; omega)
    simpa [cellsI] using this
  have hp2 : ((w1.alloc (.cells #[.int .i64 (default : It).key, .int .i64 (default : It).tag] 25)).alloc (.cells #[.int .i64 x.key, .int .i64 x.tag] 25)).heap[w1.heap.size]? = some (.cells #[.int .i64 (default : It).key, .int .i64 (default : It).tag] 25 (0, 0)) := by
    rw [heap_alloc_old _ _ (by simp)]; exact heap_alloc_new _ _
  have hq2 := (hba1.block _ (lt_of_heap HQ1.out)).trans HQ1.out
  have hh2 := HH1.out.below2 hba1
  have hB2 := HBW.out.trans (hba1.mono HBW.out.size)
  have hlt1 : ∀ k ∈ b :: rowOf v, k < w.heap.size := HLT.out
  have hdx : ∀ k off c, Value.slice (some ⟨w1.heap.size + 1, 0, none⟩) 1 1 = .slice (some ⟨k, off, none⟩) [x].length c → [x] ≠ [] → k ∉ b :: rowOf v := by
    intro k off c e _ hm
    cases e
    have := hlt1 _ hm
    omega
  generalize (w1.alloc (.cells #[.int .i64 (default : It).key, .int .i64 (default : It).tag] 25)).alloc (.cells #[.int .i64 x.key, .int .i64 x.tag] 25) = W2 at *
  refine (Push_holds hL hh2 hrd hdx (by simp) (by simp; omega)).mono ?_
  rintro e w5 ⟨rfl, v5, hh5, hu5, hg5⟩
  have hh5 : HeapH w5 b fl lt [x] (n + 1) v5 := by simpa using hh5
  have hnf : ∀ k, w.heap.size ≤ k → k ∉ b :: rowOf v := fun k hk hm => by
    have := hlt1 k hm
    omega
  have hp5 := (hu5.block _ (lt_of_heap hp2) (hnf _ hpl)).trans hp2
  have hq5 := (hu5.block _ (lt_of_heap hq2) (hnf _ (by omega))).trans hq2
  have hqn : w.heap.size + 1 ∉ b :: rowOf v5 := fun hm => by
    rcases hg5 _ hm with h | h
    · exact hnf _ (by omega) h
    · have := lt_of_heap hq2; omega
  generalize w1.heap.size = p at *
  obtain ⟨p0, p1, _, _, hps⟩ := slot_facts hp5
  obtain ⟨z0, z1, y0, y1, hqs⟩ := slot_facts hq5
  have hU := (Upd.of_below hB2 (b :: rowOf v)).trans hu5 (Grow.refl _ _)
  have hG : Grow w (b :: rowOf v) (b :: rowOf v5) := fun k hk => (hg5 k hk).imp id fun h => Nat.le_trans hB2.size h
  have HU := Lib.hid hU
  have HG := Lib.hid hG
  have HH5 := Lib.hid hh5
  have HQN := Lib.hid hqn
  clear hba1 hrd hp2 hq2 hh2 hB2 hlt1 hdx hh5 hu5 hg5 hnf hp5 hq5 hqn hU hG HLT HBW HH1 HQ1
  (repeat' (first | (go_big_may; fail) | go_values | go_skip | go_guarded | go_step | go_upon | go_back | dsimp only))
  refine bodyPost_ret (v := itB (default, false)) (by simp [results, Try.results48, go_sem, z0, z1]) rfl ⟨rfl, v5, ?_, ?_, HG.out⟩
  · obtain ⟨l5, h1, h2⟩ := HH5.out
    refine ⟨l5, h1.of_block fun k hk => ?_, h2⟩
    have hkn : k ≠ w.heap.size + 1 := fun e => HQN.out (e ▸ hk)
    rw [Below.heap_setCell _ _ _ _ hkn, Below.heap_setCell _ _ _ _ hkn]
  · exact (HU.out.setCell (p := ⟨w.heap.size + 1, 0, none⟩) (.inr (by simp)) _).setCell (p := ⟨w.heap.size + 1, 1, none⟩) (.inr (by simp)) _

theorem Replace_holds {w : World} {b : Nat} {fl : FuncId} {lt : It → It → Bool} (hL : LessI fl lt) {L : List It} {n : Nat} {v : Value} (h : HeapH w b fl lt L n v) (x : It) (hn : L.length ≤ 1000000000000) (ht : n ≤ 1000000000000) :
    Calls Try.prog 48 #[.pointer (some ⟨b, 0, none⟩), x.v] w fun e w' => e = .returned (itB (if L = [] then (default, false) else (firstR lt L, true))) ∧ ∃ v', HeapH w' b fl lt (leftR lt L ++ [x]) (n + 1) v' ∧ Upd (b :: rowOf v) w w' ∧ Grow w (b :: rowOf v) (b :: rowOf v') := by
  by_cases hL0 : L = []
  · subst hL0
    rw [if_pos rfl, show leftR lt [] ++ [x] = [x] from rfl]
    exact Replace_empty hL h x ht
  · rw [if_neg hL0]
    obtain ⟨l, hh, hH⟩ := h
    have hl : l ≠ [] := fun e => hL0 ((holds_ne hH).1 e)
    obtain ⟨k, h1, h2, h3⟩ := hH.replace hL.ord hl x
    rw [h1.unique (leastAt_is hL.ord hL0)] at h2 h3
    refine (Replace_full hL hh hl x (by rw [hH.length]; omega) (by omega)).mono ?_
    rintro e w' ⟨rfl, h4, h5⟩
    exact ⟨by rw [h2]; rfl, v, ⟨_, h4, h3⟩, h5, Grow.refl _ _⟩
end Go.Proofs.Ytgahkodbjokgfaa
