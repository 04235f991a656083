/- heap: Push walked. -/
import Derived.Test.YtgahkodbjokgfaaHeapSink
import Derived.Deep.RegionLaw
namespace Go.Proofs.Ytgahkodbjokgfaa
open Go.RowKit

theorem info_entI : (Try.prog.info? tEntI).map (fun i => (i.zero, i.size, i.bytes)) = some (some (.agg #[.int .i64 0, .int .i64 0, .int .i64 0]), 3, 24) := by kernel_rfl

theorem entI_oneCell (e : It × Nat) : ∀ u ∈ entI e, u.oneCell' = true := by
  intro u hu
  simp only [List.mem_cons, List.not_mem_nil, or_false] at hu
  rcases hu with rfl | rfl | rfl <;> rfl

/-- One entry more at the end of the list, the list stored back. -/
theorem push_run {w : World} {b : Nat} {f : Value} {l : List (It × Nat)} {turns : Nat} {v : Value} (h : HeapI w b f l turns v) (e : It × Nat) (z : Int) (hz : z = (e.2 : Int)) (hn : l.length ≤ 1099511627776) :
    ∃ ao cap w2, (Builtin.append_ #[66, 66] 66 #[v, .slice (some ⟨w.heap.size, 0, none⟩) 1 1]).run Try.prog (w.alloc (.cells #[.int .i64 e.1.key, .int .i64 e.1.tag, .int .i64 z] tEntI)) = .ok (.slice ao (l.length + 1) cap) w2 ∧
      w2.cell? ⟨b, 1, none⟩ = some v ∧ w2.frozen? ⟨b, 1, none⟩ = false ∧ HeapI (w2.setCell ⟨b, 1, none⟩ (.slice ao (l.length + 1) cap)) b f (l ++ [e]) turns (.slice ao (l.length + 1) cap) ∧
      Upd (b :: rowOf v) w (w2.setCell ⟨b, 1, none⟩ (.slice ao (l.length + 1) cap)) ∧ Grow w (b :: rowOf v) (b :: rowOf (.slice ao (l.length + 1) cap)) := by
  subst hz
  obtain ⟨i0, hi, hz0, hz1, hz2⟩ := info_parts info_entI
  have hbs := lt_of_heap h.1
  have hcells : ∀ j u, (entI e)[j]? = some u → (w.alloc (.cells #[.int .i64 e.1.key, .int .i64 e.1.tag, .int .i64 e.2] tEntI)).cell? ((⟨w.heap.size, 0, none⟩ : Addr).add j) = some u := by
    intro j u hu
    rw [show (⟨w.heap.size, 0, none⟩ : Addr).add j = ⟨w.heap.size, j, none⟩ from by unfold Addr.add; split <;> simp_all, World.cell?_alloc_at _ _ _ _ rfl]
    simpa using hu
  obtain ⟨v', w2, hr, hown, hg, _⟩ := run_append_own (P := Try.prog) (w.alloc (.cells #[.int .i64 e.1.key, .int .i64 e.1.tag, .int .i64 e.2] tEntI)) 0 66 66 tEntI i0 _ 3 24 Try.underlying66 hi hz0 hz1 hz2 rfl (by decide) v l.length (flatI l) (h.2.alloc _) ⟨w.heap.size, 0, none⟩ 1 1 (entI e) rfl hcells (entI_oneCell e) (by unfold maxLen; omega) (by omega) (Nat.zero_le _)
  have hg' := World.grownBy.of_alloc hg
  have hnb : ∀ k, v.ownBlock = some k → k ≠ b := fun k hk e => h.ne (by rw [← e, mem_rowOf]; exact hk)
  have hb2 : w2.heap[b]? = some (.cells #[f, v, .int .i64 turns] tHeapI (0, 0)) := by
    rw [hg'.block b hbs (fun e => hnb b e.symm rfl)]; exact h.1
  have hown' : w2.ownsRow 0 tEntI 3 v' (l ++ [e]).length (flatI (l ++ [e])) := by
    rw [flatI_append]; simpa [flatI] using hown
  have hne' : v'.ownBlock ≠ some b := by
    rcases hown.2 with ⟨rfl, _⟩ | ⟨g, cap, cur, rfl, _, hgg, _⟩
    · simp [Value.ownBlock]
    · intro e
      simp only [Value.ownBlock, Option.some.injEq] at e
      subst e
      have := hb2.symm.trans hgg
      simp only [Option.some.injEq, Obj.cells.injEq] at this
      exact absurd this.2.1 (by decide)
  have hgrow : Grow w (b :: rowOf v) (b :: rowOf v') := by
    intro k hk
    rcases List.mem_cons.1 hk with rfl | hk
    · exact .inl (by simp)
    · rw [mem_rowOf] at hk
      rcases append_block (P := Try.prog) _ _ _ tEntI i0 _ 3 24 Try.underlying66 hi hz0 hz1 hz2 rfl (by decide) (h.2.alloc _) ⟨w.heap.size, 0, none⟩ 1 1 (entI e) rfl hcells (entI_oneCell e) (by unfold maxLen; omega) (by omega) hr k hk with h1 | h1
      · exact .inl (List.mem_cons_of_mem _ (mem_rowOf.2 h1))
      · exact .inr (by simp at h1; omega)
  obtain ⟨ao, cap, rfl⟩ : ∃ ao cap, v' = .slice ao (l.length + 1) cap := by
    rcases hown.2 with ⟨_, h0⟩ | ⟨g, cap, cur, hv, _⟩
    · omega
    · exact ⟨_, _, hv⟩
  refine ⟨ao, cap, w2, hr, by simp [World.cell?, hb2], by simp [World.frozen?, hb2], ⟨?_, ?_⟩, ?_, hgrow⟩
  · exact heap_setCell (o := 1) hb2 _
  · exact ownsRow_block hown' fun k hk => Below.heap_setCell _ _ _ _ (fun e => hne' (by have e' : k = b := e; rw [← e']; exact hk))
  · exact ((Upd.refl _ w).grown hg' (fun k hk => .inl (List.mem_cons_of_mem _ (mem_rowOf.2 hk)))).setCell (.inl (by simp)) _

theorem enters_enter : ∀ xs w, (callFunc 35 xs).run Try.prog w = .ok (.enter 35 xs) w :=
  enters_fn Try.func35 (by kernel_rfl) rfl

/-- Items as cells. -/
def cellsI (xs : List It) : List Value := xs.flatMap fun x => [.int .i64 x.key, .int .i64 x.tag]
theorem cellsI_get (l : List It) (i : Nat) (hi : i < l.length) : (cellsI l)[i * 2]? = some (.int .i64 (l.getD i default).key) ∧ (cellsI l)[i * 2 + 1]? = some (.int .i64 (l.getD i default).tag) := by
  induction l generalizing i with
  | nil => simp at hi
  | cons e l ih =>
    cases i with
    | zero => exact ⟨rfl, rfl⟩
    | succ i =>
      have := ih i (by simpa using hi)
      have e1 : cellsI (e :: l) = [.int .i64 e.key, .int .i64 e.tag] ++ cellsI l := by simp [cellsI]
      rw [e1]
      have h0 : (i + 1) * 2 = 2 + i * 2 := by omega
      have h1 : (i + 1) * 2 + 1 = 2 + (i * 2 + 1) := by omega
      rw [h0, Nat.add_assoc 2]
      have h3 : ∀ k, ([Value.int .i64 e.key, .int .i64 e.tag] ++ cellsI l)[2 + k]? = (cellsI l)[k]? := fun k => by
        rw [List.getElem?_append_right (by simp)]; simp
      simp only [h3, List.getD_cons_succ]
      exact this
theorem cellsI_length (l : List It) : (cellsI l).length = l.length * 2 := by
  induction l with
  | nil => rfl
  | cons e l ih => simp only [cellsI, List.flatMap_cons, List.length_append, List.length_cons, List.length_nil] at ih ⊢; omega

theorem RdRow.item {w : World} {v : Value} {n : Nat} {xs : List It} (h : RdRow w v n 2 (cellsI xs)) {i : Nat} (hi : i < xs.length) :
    ∃ b off cap, v = .slice (some ⟨b, off, none⟩) n cap ∧ w.cell? ⟨b, off + i * 2, none⟩ = some (.int .i64 (xs.getD i default).key) ∧ w.cell? ⟨b, off + i * 2 + 1, none⟩ = some (.int .i64 (xs.getD i default).tag) := by
  obtain ⟨g0, g1⟩ := cellsI_get xs i hi
  obtain ⟨_, a, cap, rfl, _, _, hc⟩ := h
  obtain ⟨b, off, rfl, h0⟩ := hc _ _ g0
  obtain ⟨b', off', e, h1⟩ := hc _ _ g1
  cases e
  exact ⟨b, off, cap, rfl, h0, by rw [Nat.add_assoc]; exact h1⟩

/-- Pushed one after another. -/
def pushL (R : It × Nat → It × Nat → Bool) : List (It × Nat) → Nat → List It → List (It × Nat)
  | l, _, [] => l
  | l, n, x :: xs => pushL R (hp.riseL R (l ++ [(x, n + 1)]) l.length) (n + 1) xs
theorem pushL_length (R : It × Nat → It × Nat → Bool) : ∀ (xs : List It) (l : List (It × Nat)) (n : Nat), (pushL R l n xs).length = l.length + xs.length
  | [], l, n => rfl
  | x :: xs, l, n => by rw [pushL, pushL_length R xs, hp.riseL_length]; simp; omega
theorem pushL_holds {lt : It → It → Bool} (hlt : hp.Ord lt) : ∀ (xs : List It) (l : List (It × Nat)) (n : Nat) (L : List It), hp.Holds lt l n L → hp.Holds lt (pushL (hp.ahead lt) l n xs) (n + xs.length) (L ++ xs)
  | [], l, n, L, h => by simpa [pushL] using h
  | x :: xs, l, n, L, h => by
    have := pushL_holds hlt xs _ _ _ (h.push hlt x)
    rw [pushL]
    simpa [Nat.add_assoc, Nat.add_comm 1] using this

theorem rise_at {w : World} {b : Nat} {fl : FuncId} {lt : It → It → Bool} (hL : LessI fl lt) {l : List (It × Nat)} {turns : Nat} {v : Value} (h : HeapI w b (.func (.func fl) #[] #[]) l turns v) {i : Nat} (hi : i < l.length) (hn : l.length ≤ 4611686018427387904) (zi : Int) (ei : zi = i) :
    Calls Try.prog 36 #[.pointer (some ⟨b, 0, none⟩), .int .i64 zi] w fun e w' => e = .returned (.tuple #[]) ∧ HeapI w' b (.func (.func fl) #[] #[]) (hp.riseL (hp.ahead lt) l i) turns v ∧ Upd (b :: rowOf v) w w' := by
  subst ei; exact rise_calls hL h hi hn

/-- The loop of Push: k items are in. -/
def PushAt (w : World) (b : Nat) (f : Value) (R : It × Nat → It × Nat → Bool) (l0 : List (It × Nat)) (t0 : Nat) (v0 : Value) (xs : List It) (k : Nat) (wr : World) : Prop :=
  k ≤ xs.length ∧ ∃ l v, HeapI wr b f l (t0 + k) v ∧ l.length = l0.length + k ∧ pushL R l (t0 + k) (xs.drop k) = pushL R l0 t0 xs ∧ Upd (b :: rowOf v0) w wr ∧ Grow w (b :: rowOf v0) (b :: rowOf v)

set_option maxRecDepth 100000 in
set_option maxHeartbeats 3200000 in
theorem Push_calls {w : World} {b : Nat} {fl : FuncId} {lt : It → It → Bool} (hL : LessI fl lt) {l : List (It × Nat)} {turns : Nat} {v : Value} (h : HeapI w b (.func (.func fl) #[] #[]) l turns v)
    {xs : List It} {vx : Value} (hx : RdRow w vx xs.length 2 (cellsI xs)) (hdx : ∀ k off c, vx = .slice (some ⟨k, off, none⟩) xs.length c → xs ≠ [] → k ∉ b :: rowOf v) (hn : l.length + xs.length ≤ 1099511627776) (ht : turns + xs.length ≤ 1099511627776) :
    Calls Try.prog 18 #[.pointer (some ⟨b, 0, none⟩), vx] w fun e w' => e = .returned (.tuple #[]) ∧ ∃ v', HeapI w' b (.func (.func fl) #[] #[]) (pushL (hp.ahead lt) l turns xs) (turns + xs.length) v' ∧ Upd (b :: rowOf v) w w' ∧ Grow w (b :: rowOf v) (b :: rowOf v') := by
  obtain ⟨a, cap, rfl, hc1, hc2⟩ := hx.shape
  unfold maxLen at hc2
  have h0 : PushAt w b (.func (.func fl) #[] #[]) (hp.ahead lt) l turns v xs 0 w := ⟨Nat.zero_le _, l, v, h, rfl, rfl, Upd.refl _ _, Grow.refl _ _⟩
  have HX := Lib.hid hx
  have HDX := Lib.hid hdx
  clear h hx hdx
  go_enter Try.func18, Try.ntmps18
  (repeat' (first | (go_big_may; fail) | go_values | go_skip | go_guarded | go_step | go_upon | go_back | dsimp only))
  go_loopw [10] (fun x wr => ∃ k : Nat, x = .int .i64 k ∧ PushAt w b (.func (.func fl) #[] #[]) (hp.ahead lt) l turns v xs k wr) (fun x _ => xs.length - (intOf x).toNat)
  case atStart => exact ⟨0, rfl, h0⟩
  case round =>
    obtain ⟨k, rfl, hk, lr, vr, hh, hlen, hgo, hup, hgr⟩ := hrel
    clear h0
    by_cases hlt : k < xs.length
    · obtain ⟨bx, off, cp, hsl, hx0, hx1⟩ := HX.out.item hlt
      cases hsl
      have hbx : bx < w.heap.size := World.block_lt_of_cell? w _ hx0
      have hnx : bx ∉ b :: rowOf v := HDX.out bx off cap rfl (by rintro rfl; simp at hlt)
      have y0 : wr.cell? ⟨bx, off + k * 2, none⟩ = some (.int .i64 (xs.getD k default).key) := by
        rw [World.cell?_of_block (w := w) (hup.block bx hbx hnx)]; exact hx0
      have y1 : wr.cell? ⟨bx, off + k * 2 + 1, none⟩ = some (.int .i64 (xs.getD k default).tag) := by
        rw [World.cell?_of_block (w := w) (hup.block bx hbx hnx)]; exact hx1
      have hdrop : xs.drop k = xs.getD k default :: xs.drop (k + 1) := by
        rw [List.drop_eq_getElem_cons hlt]; simp [List.getD_eq_getElem?_getD, hlt]
      rw [hdrop] at hgo
      generalize xs.getD k default = x at *
      have HG := Lib.hid hgo
      have HN := Lib.hid hlen
      have hll : lr.length ≤ 1099511627776 := by omega
      have hbs := lt_of_heap hh.1
      have hbw : bx < wr.heap.size := by have := hup.size; omega
      clear hgo hlen hdrop hx0 hx1
      have hi1 : (0 : Int) ≤ k := by omega
      have hi2 : (k : Int) < xs.length := by omega
      have htk : turns + k < 9223372036854775807 := by omega
      (repeat' (first | (go_big_may; fail) | go_values | go_skip | go_guarded | go_step | go_upon | go_back | dsimp only))
      have hba : Below wr.heap.size wr (wr.alloc (.cells #[.int .i64 x.key, .int .i64 x.tag] 25)) := (Below.refl _ _).alloc (Nat.le_refl _) _
      have hh0 := hh.below hba
      have hu0 := hup.trans (Upd.of_below hba []) (Grow.nil _ _)
      have z0 : (wr.alloc (.cells #[.int .i64 x.key, .int .i64 x.tag] 25)).cell? ⟨wr.heap.size, 0, none⟩ = some (.int .i64 x.key) := by rw [World.cell?_alloc_at _ _ _ _ rfl]; rfl
      have z1 : (wr.alloc (.cells #[.int .i64 x.key, .int .i64 x.tag] 25)).cell? ⟨wr.heap.size, 1, none⟩ = some (.int .i64 x.tag) := by rw [World.cell?_alloc_at _ _ _ _ rfl]; rfl
      generalize wr.alloc (.cells #[.int .i64 x.key, .int .i64 x.tag] 25) = W0 at *
      generalize hps : wr.heap.size = p at z0 z1 ⊢
      clear hps hba hh hup y0 y1 hbw hbs
      have c1 := hh0.facts.c1
      have HH0 := Lib.hid hh0
      have HU0 := Lib.hid hu0
      have HGR := Lib.hid hgr
      clear hh0 hu0 hgr
      go_region_law (first | (refine step_append_run rfl _ _ 66 rfl _ _ rfl rfl hrun ?_) | (refine step_call_fn rfl 35 _ _ rfl enters_enter [.pointer (some ⟨b, 0, none⟩), x.v] rfl ?_; refine (enter_calls (h := HH0.out.drew) x htk).mono ?_; rintro e w1 ⟨rfl, hh1, hu1⟩; dsimp only; obtain ⟨ao, cp2, w2, hrun, d1, e1, hh3, hu3, hg3⟩ := push_run hh1 (x, turns + k + 1) ((turns : Int) + k + 1) (by simp) hll; dsimp only at hrun; have c1w := hh1.facts.c1; have hbw1 := lt_of_heap hh1.1; have HH3 := Lib.hid hh3; have HU1 := Lib.hid hu1; have HU3 := Lib.hid hu3; have HG3 := Lib.hid hg3; clear hh1 hh3 hu1 hu3 hg3))
      all_goals
        have hh3 := HH3.out
        have hu3 := HU3.out
        have hg3 := HG3.out
        have hu1 := HU1.out
        clear HH3 HU3 HG3 HU1 HH0 c1 c1w hrun d1 e1
        generalize w2.setCell ⟨b, 1, none⟩ (.slice ao (lr.length + 1) cp2) = W3 at *
        have c1 := hh3.facts.c1
        have HH3 := Lib.hid hh3
        have HU3 := Lib.hid hu3
        have HG3 := Lib.hid hg3
        have HU1 := Lib.hid hu1
        clear hh3 hu3 hg3 hu1
        (repeat' (first | (go_big_may; fail) | go_values | go_skip | go_guarded | go_step | go_upon | go_back | dsimp only))
        refine (rise_at hL HH3.out (i := lr.length) (by simp) (by simp; omega) _ rfl).mono ?_
        rintro e w4 ⟨rfl, hh4, hu4⟩
        (repeat' (first | (go_big_may; fail) | go_values | go_skip | go_guarded | go_step | go_upon | go_back | dsimp only))
        go_roundw
        case rel =>
          refine ⟨k + 1, by go_num, hlt, _, _, hh4, ?_, HG.out, ?_, ?_⟩
          · rw [hp.riseL_length]; have := HN.out; simp; omega
          · exact ((HU0.out.trans HU1.out.of_drew Grow.head).trans HU3.out (HGR.out.trans (Grow.refl _ _) (Nat.le_refl _))).trans hu4 (HGR.out.trans HG3.out (Nat.le_trans HU0.out.size HU1.out.size))
          · exact HGR.out.trans HG3.out (Nat.le_trans HU0.out.size HU1.out.size)
        case measure => simp [intOf] <;> omega
    · have hke : k = xs.length := by omega
      subst hke
      have hd : xs.drop xs.length = [] := by simp
      rw [hd] at hgo
      (repeat' (first | (go_big_may; fail) | go_values | go_skip | go_guarded | go_step | go_upon | go_back | dsimp only))
      go_end0
      exact ⟨rfl, vr, by rw [← hgo]; exact hh, hup, hgr⟩

end Go.Proofs.Ytgahkodbjokgfaa
