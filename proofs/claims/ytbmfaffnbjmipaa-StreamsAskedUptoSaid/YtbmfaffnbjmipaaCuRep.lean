/- heap of cursors: Replace walked. -/
import Derived.Test.YtbmfaffnbjmipaaCuPop
namespace Go.Proofs.Ytbmfaffnbjmipaa.cu
open Go.RowKit

/-- Another entry at the root. -/
def setW (w : World) (g : Nat) (e : Cur × Nat) : World :=
  (w.setCell ⟨g, 0, none⟩ (.slice e.1.a e.1.n e.1.c)).setCell ⟨g, 1, none⟩ (.int .i64 e.2)

theorem setW_heap {w : World} {b g cap : Nat} {f : Value} {l : List (Cur × Nat)} {turns : Nat} (h : HeapI w b f l turns (.slice (some ⟨g, 0, none⟩) l.length cap)) (hne : l ≠ []) (e : Cur × Nat) (hlv : Live w e.1) (hnb : ∀ a, e.1.a = some a → a.block ∉ b :: rowOf (.slice (some ⟨g, 0, none⟩) l.length cap)) :
    HeapI (setW w g e) b f (l.set 0 e) turns (.slice (some ⟨g, 0, none⟩) l.length cap) ∧ Upd (b :: rowOf (.slice (some ⟨g, 0, none⟩) l.length cap)) w (setW w g e) := by
  obtain ⟨g', cap', cur, hv, hg, hnc, hc, hs, ht⟩ := h.row hne
  cases hv
  have hgb : g ≠ b := fun e => h.ne (by rw [mem_rowOf]; simp [Value.ownBlock, e])
  have hgm : g ∈ b :: rowOf (.slice (some ⟨g, 0, none⟩) l.length cap) := by simp [rowOf, Value.ownBlock]
  have hupd : Upd (b :: rowOf (.slice (some ⟨g, 0, none⟩) l.length cap)) w (setW w g e) := ((Upd.refl _ w).setCell (p := ⟨g, 0, none⟩) (.inl hgm) _).setCell (p := ⟨g, 1, none⟩) (.inl hgm) _
  refine ⟨⟨?_, ?_, fun x hx => ?_⟩, hupd⟩
  rotate_left
  rotate_left
  · rcases mem_set hx with h1 | h1
    · exact (h.2.2.own hupd) x h1
    · subst h1; exact ⟨hlv.upd hupd hnb, hnb⟩
  · unfold setW
    iterate 2 rw [Below.heap_setCell _ _ _ _ (fun e => hgb e.symm)]
    exact h.1
  · refine ⟨by rw [flatI_length], .inr ⟨g, cap, (cur.setIfInBounds 0 (.slice e.1.a e.1.n e.1.c)).setIfInBounds 1 (.int .i64 e.2), by rw [List.length_set], Nat.zero_le _, ?_, by rw [List.length_set]; exact hnc, hc, by simpa using hs, ?_⟩⟩
    · unfold setW
      exact heap_setCell (heap_setCell hg _) _
    · obtain ⟨a, l', rfl⟩ := List.exists_cons_of_ne_nil hne
      have e1 : flatI (a :: l') = entI a ++ flatI l' := by simp [flatI]
      have e2 : flatI ((a :: l').set 0 e) = entI e ++ flatI l' := by simp [flatI]
      rw [e2, List.length_set]
      apply List.ext_getElem?
      intro k
      have hk := congrArg (fun x => x[k]?) ht
      simp only [e1] at hk
      simp only [List.length_cons] at hk hs hnc ⊢
      simp only [List.getElem?_take, Array.getElem?_toList, Array.getElem?_setIfInBounds, Array.size_setIfInBounds] at hk ⊢
      match k with
      | 0 => simp; rintro rfl; simp at hs; omega
      | 1 => simp; omega
      | k + 2 =>
        rw [if_neg (by omega : ¬ 1 = k + 2), if_neg (by omega : ¬ 0 = k + 2), hk]
        simp

theorem c3_facts {w : World} {b g cap : Nat} {f : Value} {l : List (Cur × Nat)} {turns : Nat} (h : HeapI w b f l turns (.slice (some ⟨g, 0, none⟩) l.length cap)) (hne : l ≠ []) :
    (∃ z0 z1, w.cell? ⟨g, 0, none⟩ = some z0 ∧ w.cell? ⟨g, 1, none⟩ = some z1) ∧ ∀ k, w.frozen? ⟨g, k, none⟩ = false := by
  obtain ⟨g', cap', cur, hv, hg, hnc, hc, hs, ht⟩ := h.row hne
  cases hv
  obtain ⟨i0, i1⟩ := row_cells hg ht (List.length_pos_iff.2 hne)
  simp only [Nat.zero_mul, Nat.zero_add] at i0 i1
  exact ⟨⟨_, _, i0, i1⟩, fun k => by simp [World.frozen?, hg]⟩

set_option maxRecDepth 100000 in
set_option maxHeartbeats 1600000 in
theorem Replace_full {w : World} {b : Nat} {fl : FuncId} {lt : Cur → Cur → Bool} (hL : LessI fl lt) {l : List (Cur × Nat)} {turns : Nat} {v : Value} (h : HeapI w b (.func (.func fl) #[] #[]) l turns v) (hl : l ≠ []) (x : Cur) (hlv : Live w x) (hnb : ∀ a, x.a = some a → a.block ∉ b :: rowOf v) (hn : l.length ≤ 1099511627776) (ht : turns ≤ 1099511627776) :
    Calls Try.prog 39 #[.pointer (some ⟨b, 0, none⟩), x.v] w fun e w' => e = .returned (itB ((l.getD 0 default).1, true)) ∧ HeapI w' b (.func (.func fl) #[] #[]) (hp.sinkL (hp.ahead lt) (l.set 0 (x, turns + 1)) 0) (turns + 1) v ∧ Upd (b :: rowOf v) w w' := by
  have hba : Below w.heap.size w ((w.alloc (.cells #[.slice x.a x.n x.c] 54)).alloc (.cells #[.slice none 0 0] 54)) := ((Below.refl _ _).alloc (Nat.le_refl _) _).alloc (by simp) _
  have hx0 : ((w.alloc (.cells #[.slice x.a x.n x.c] 54)).alloc (.cells #[.slice none 0 0] 54)).heap[w.heap.size]? = some (.cells #[.slice x.a x.n x.c] 54 (0, 0)) := by
    rw [heap_alloc_old _ _ (by simp)]; exact heap_alloc_new _ _
  have hq0 : ((w.alloc (.cells #[.slice x.a x.n x.c] 54)).alloc (.cells #[.slice none 0 0] 54)).heap[w.heap.size + 1]? = some (.cells #[.slice none 0 0] 54 (0, 0)) := by
    have := heap_alloc_new (w.alloc (.cells #[.slice x.a x.n x.c] 54)) (.cells #[.slice none 0 0] 54)
    simpa using this
  have hh0 := h.below hba
  have hlt := h.lt
  have HLV := Lib.hid hlv
  have HNB := Lib.hid hnb
  have HLE := Lib.hid (fun e (he : e ∈ l) a (ha : e.1.a = some a) => (h.2.2 e he).1.lt a ha)
  have HLX := Lib.hid hlv.lt
  clear hlv hnb
  obtain ⟨g, cap, cur, hv, hy1, hnc, hc, hy2, hy3⟩ := h.row hl
  clear hy1 hy2 hy3
  subst hv
  unfold maxLen at hc
  have hlen : 0 < l.length := List.length_pos_iff.2 hl
  have hP := Peek_calls hh0
  have hpk : peekR l = ((l.getD 0 default).1, true) := by unfold peekR; rw [if_neg hl]
  rw [hpk] at hP
  generalize (l.getD 0 default).1 = y at *
  have HP := Lib.hid hP
  have HH0 := Lib.hid hh0
  have HLT := Lib.hid hlt
  have HB0 := Lib.hid hba
  have HX0 := Lib.hid hx0
  have HQ0 := Lib.hid hq0
  have hts : turns < 9223372036854775807 := by omega
  have hi1 : (0 : Int) < l.length := by omega
  clear h hh0 hP hpk hlt hba hx0 hq0
  go_enter Try.func39, Try.ntmps39
  (repeat' (first | (go_big_may; fail) | go_values | go_skip | go_guarded | go_step | go_upon | go_back | dsimp only))
  refine HP.out.mono ?_
  rintro e w1 ⟨rfl, hb1⟩
  have hbw := HB0.out.trans (hb1.mono HB0.out.size)
  have hx1 := (hb1.block _ (lt_of_heap HX0.out)).trans HX0.out
  have hq1 := (hb1.block _ (lt_of_heap HQ0.out)).trans HQ0.out
  have hh1 := HH0.out.below hb1
  have HH1 := Lib.hid hh1
  have HX1 := Lib.hid hx1
  have HQ1 := Lib.hid hq1
  have HBW := Lib.hid hbw
  clear hb1 hx1 hq1 hh1 hbw HB0 HX0 HQ0 HH0 HP
  (repeat' (first | (go_big_may; fail) | go_values | go_skip | go_guarded | go_step | go_upon | go_back | dsimp only))
  have hba1 : Below w1.heap.size w1 (w1.alloc (.cells #[.slice y.a y.n y.c] 54)) := (Below.refl _ _).alloc (Nat.le_refl _) _
  have hx2 := (hba1.block _ (lt_of_heap HX1.out)).trans HX1.out
  have hq2 := (hba1.block _ (lt_of_heap HQ1.out)).trans HQ1.out
  have hp2 := heap_alloc_new w1 (.cells #[.slice y.a y.n y.c] 54)
  have hh2 := HH1.out.below hba1
  have hB2 := HBW.out.trans (hba1.mono HBW.out.size)
  have hlv2 : Live _ x := HLV.out.below hB2
  have HLV2 := Lib.hid hlv2
  clear hlv2
  have hpl : w.heap.size ≤ w1.heap.size := HBW.out.size
  clear hba1 HX1 HQ1 HH1 HBW
  generalize w1.alloc (.cells #[.slice y.a y.n y.c] 54) = W2 at *
  generalize w1.heap.size = p at *
  obtain ⟨x0, _, hxs⟩ := slot_facts hx2
  have c1 := hh2.facts.c1
  have hbs := lt_of_heap hh2.1
  have HH2 := Lib.hid hh2
  have HQ2 := Lib.hid hq2
  have HP2 := Lib.hid hp2
  have HB2 := Lib.hid hB2
  clear hh2 hq2 hp2 hB2 hx2
  go_region_law (refine step_call_fn rfl 48 _ _ rfl enters_enter [.pointer (some ⟨b, 0, none⟩), x.v] rfl ?_; refine (enter_calls (h := HH2.out.drew) x hts).mono ?_; rintro e w3 ⟨rfl, hh3, hu3⟩; dsimp only; obtain ⟨⟨z0, z1, k0, k1⟩, kf⟩ := c3_facts hh3 hl; have c1w := hh3.facts.c1; have hbw3 := lt_of_heap hh3.1; have HH3 := Lib.hid hh3; have HU3 := Lib.hid hu3; clear hh3 hu3)
  all_goals
    obtain ⟨hh4, hu4⟩ := setW_heap HH3.out hl (x, turns + 1) (HLV2.out.upd (Upd.of_drew HU3.out) fun a ha hm => HNB.out a ha (by simp at hm; simp [hm])) HNB.out
    have hl4 : (l.set 0 (x, turns + 1)).length = l.length := List.length_set
    have hcast : setW w3 g (x, turns + 1) = (w3.setCell ⟨g, 0, none⟩ (.slice x.a x.n x.c)).setCell ⟨g, 1, none⟩ (.int .i64 ((turns : Int) + 1)) := by simp [setW]
    rw [← hcast]
    have HH4 := Lib.hid hh4
    have HU4 := Lib.hid hu4
    clear hcast hh4 hu4 c1 c1w k0 k1 kf x0
    generalize setW w3 g (x, turns + 1) = W4 at *
    (repeat' (first | (go_big_may; fail) | go_values | go_skip | go_guarded | go_step | go_upon | go_back | dsimp only))
    refine (sink_at hL HH4.out (by omega) _ rfl).mono ?_
    rintro e w5 ⟨rfl, hh5, hu5⟩
    have hG : rowOf (.slice (some ⟨g, 0, none⟩) l.length cap) = [g] := by simp [rowOf, Value.ownBlock]
    have hu3 := Upd.of_drew HU3.out
    have hu4 := HU4.out
    rw [hG] at hu4 hu5
    have huA : Upd (b :: [g]) W2 w5 := ((hu3.mono (by simp)).trans hu4 (Grow.refl _ _)).trans hu5 (Grow.refl _ _)
    have hnf : ∀ k, w.heap.size ≤ k → k ∉ b :: [g] := fun k hk hm => by
      have := HLT.out k (by rw [hG]; exact hm)
      omega
    have hp5 := (huA.block p (lt_of_heap HP2.out) (hnf _ hpl)).trans HP2.out
    have hq5 := (huA.block _ (lt_of_heap HQ2.out) (hnf _ (by omega))).trans HQ2.out
    obtain ⟨p0, _, hps⟩ := slot_facts hp5
    obtain ⟨z0, y0, hqs⟩ := slot_facts hq5
    have HU := Lib.hid ((Upd.of_below HB2.out (b :: [g])).trans huA (Grow.refl _ _))
    have hqn := hnf (w.heap.size + 1) (by omega)
    have HH5 := Lib.hid hh5
    have HQN := Lib.hid hqn
    have HG := Lib.hid hG
    clear hu3 hu4 huA hnf hp5 hq5 hh5 hqn hu5 hG
    (repeat' (first | (go_big_may; fail) | go_values | go_skip | go_guarded | go_step | go_upon | go_back | dsimp only))
    refine bodyPost_ret (v := itB (y, true)) (by simp [results, Try.results39, go_sem, z0]) rfl ⟨rfl, ?_, ?_⟩
    · refine HH5.out.of_block (fun k hk => ?_) fun e he a ha => ?_
      · have hkn : k ≠ w.heap.size + 1 := fun e => HQN.out (by rw [← e, ← HG.out]; exact hk)
        rw [Below.heap_setCell _ _ _ _ hkn]
      · have he2 : e ∈ l.set 0 (x, turns + 1) := (hp.sinkL_perm _ _ 0 (by rw [List.length_set]; exact .inl hlen)).mem_iff.1 he
        have hab : a.block < w.heap.size := by
          rcases mem_set he2 with h1 | h1
          · exact HLE.out e h1 a ha
          · subst h1; exact HLX.out a ha
        rw [Below.heap_setCell _ _ _ _ (show a.block ≠ w.heap.size + 1 by omega)]
    · rw [HG.out]
      exact HU.out.setCell (p := ⟨w.heap.size + 1, 0, none⟩) (.inr (by simp)) _

end Go.Proofs.Ytbmfaffnbjmipaa.cu
