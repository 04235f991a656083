/- 'x.f = append(x.f, ..)': a slice in a field of a struct of the call's own, the elements in a block laid just ahead. Over any program. · A row of the call's own as a thing, and 'append' on it. -/
import Derived.Test.YtcbdncjknpdnbaaMem
import Derived.Test.YtcbdncjknpdnbaaSep
namespace Go.Proofs.Ytcbdncjknpdnbaa
section
open Go.RowKit Go.BigFrame

theorem below_dW (w : World) (n : Nat) : Below w.heap.size w (w.drewN n) := ⟨rfl, rfl, rfl, Nat.le_refl _, fun _ _ => rfl⟩

theorem field_push_run {P : Program} (t ty e : TypeId) (ht : P.underlying t = some (.slice e))
    {z : Value} {size bytes : Nat} (hinfo : (P.info? e).map (fun i => (i.zero, i.size, i.bytes)) = some (some z, size, bytes)) (hzs : z.cells.size = size) (hsz : 0 < size)
    {w : World} {b o : Nat} {cs : Array Value} {T : TypeId} (hb : w.heap[b]? = some (.cells cs T (0, 0))) {v : Value} (ho : cs[o]? = some v) (hT : T ≠ e)
    {n : Nat} {xs : List Value} (hown : w.ownsRow 0 e size v n xs) {C : Array Value} {m : Nat} (hC : C.size = m * size) (h1 : ∀ u ∈ C.toList, u.oneCell' = true) (hm : 0 < m)
    (h63 : n + m ≤ maxLen) (hbytes : (n + m) * bytes ≤ 140737488355328) :
    ∃ ao cap w2, (Builtin.append_ #[t, t] ty #[v, .slice (some ⟨w.heap.size, 0, none⟩) m m]).run P (w.alloc (.cells C e)) = .ok (.slice ao (n + m) cap) w2 ∧
      w2.cell? ⟨b, o, none⟩ = some v ∧ w2.frozen? ⟨b, o, none⟩ = false ∧ b < w2.heap.size ∧
      (w2.setCell ⟨b, o, none⟩ (.slice ao (n + m) cap)).heap[b]? = some (.cells (cs.setIfInBounds o (.slice ao (n + m) cap)) T (0, 0)) ∧
      (w2.setCell ⟨b, o, none⟩ (.slice ao (n + m) cap)).ownsRow 0 e size (.slice ao (n + m) cap) (n + m) (xs ++ C.toList) ∧
      Upd (b :: rowOf v) w (w2.setCell ⟨b, o, none⟩ (.slice ao (n + m) cap)) ∧ Grow w (b :: rowOf v) (b :: rowOf (.slice ao (n + m) cap)) := by
  obtain ⟨i0, hi, hz0, hz1, hz2⟩ := info_parts hinfo
  have hbs := lt_of_heap hb
  have hcells : ∀ j u, C.toList[j]? = some u → (w.alloc (.cells C e)).cell? ((⟨w.heap.size, 0, none⟩ : Addr).add j) = some u := by
    intro j u hu
    rw [show (⟨w.heap.size, 0, none⟩ : Addr).add j = ⟨w.heap.size, j, none⟩ from by unfold Addr.add; split <;> simp_all, World.cell?_alloc_at _ _ _ _ rfl]
    simpa using hu
  obtain ⟨v', w2, hr, hown2, hg, _⟩ := run_append_own (P := P) (w.alloc (.cells C e)) 0 t ty e i0 z size bytes ht hi hz0 hz1 hz2 hzs hsz v n xs (hown.alloc _) ⟨w.heap.size, 0, none⟩ m m C.toList (by simpa using hC) hcells h1 h63 hbytes (Nat.zero_le _)
  have hg' := World.grownBy.of_alloc hg
  have hnb : ∀ k, v.ownBlock = some k → k ≠ b := fun k hk e0 => by
    subst e0
    rcases hown.2 with ⟨rfl, _⟩ | ⟨g, cap, cur, rfl, _, hgg, _⟩
    · simp [Value.ownBlock] at hk
    · simp only [Value.ownBlock, Option.some.injEq] at hk
      subst hk
      have := hb.symm.trans hgg
      simp only [Option.some.injEq, Obj.cells.injEq] at this
      exact hT this.2.1
  have hb2 : w2.heap[b]? = some (.cells cs T (0, 0)) := by
    rw [hg'.block b hbs (fun e => hnb b e.symm rfl)]; exact hb
  have hne' : v'.ownBlock ≠ some b := by
    rcases hown2.2 with ⟨rfl, _⟩ | ⟨g, cap, cur, rfl, _, hgg, _⟩
    · simp [Value.ownBlock]
    · intro e0
      simp only [Value.ownBlock, Option.some.injEq] at e0
      subst e0
      have := hb2.symm.trans hgg
      simp only [Option.some.injEq, Obj.cells.injEq] at this
      exact hT this.2.1
  have hgrow : Grow w (b :: rowOf v) (b :: rowOf v') := by
    intro k hk
    rcases List.mem_cons.1 hk with rfl | hk
    · exact .inl (by simp)
    · rw [mem_rowOf] at hk
      rcases append_block (P := P) _ _ _ e i0 z size bytes ht hi hz0 hz1 hz2 hzs hsz (hown.alloc _) ⟨w.heap.size, 0, none⟩ m m C.toList (by simpa using hC) hcells h1 h63 hbytes hr k hk with h1 | h1
      · exact .inl (List.mem_cons_of_mem _ (mem_rowOf.2 h1))
      · exact .inr (by simp at h1; omega)
  obtain ⟨ao, cap, rfl⟩ : ∃ ao cap, v' = .slice ao (n + m) cap := by
    rcases hown2.2 with ⟨_, h0⟩ | ⟨g, cap, cur, hv, _⟩
    · omega
    · exact ⟨_, _, hv⟩
  refine ⟨ao, cap, w2, hr, by simp [World.cell?, hb2, ho], by simp [World.frozen?, hb2], lt_of_heap hb2, heap_setCell hb2 _, ?_, ?_, hgrow⟩
  · exact ownsRow_block hown2 fun k hk => Below.heap_setCell _ _ _ _ (fun e => hne' (by have e' : k = b := e; rw [← e']; exact hk))
  · exact ((Upd.refl _ w).grown hg' (fun k hk => .inl (List.mem_cons_of_mem _ (mem_rowOf.2 hk)))).setCell (.inl (by simp)) _
end

section
open Go.RowKit Go.BigFrame

/-- A row of the call's own. -/
def RowG (e : TypeId) (size : Nat) (v : Value) (n : Nat) (xs : List Value) : Thing := fun w fp => w.ownsRow 0 e size v n xs ∧ fp = rowOf v
theorem RowG.stable (e : TypeId) (size : Nat) (v : Value) (n : Nat) (xs : List Value) : Stable (RowG e size v n xs) :=
  ⟨fun w fp h k hk => by obtain ⟨h1, rfl⟩ := h; exact (h1.lt k (mem_rowOf.1 hk)).2, fun w w' fp h hs => by obtain ⟨h1, rfl⟩ := h; exact ⟨ownsRow_block h1 fun k hk => hs k (mem_rowOf.2 hk), rfl⟩⟩
theorem ownsRow_at0 {w : World} {B : Nat} {e : TypeId} {size : Nat} {v : Value} {n : Nat} {xs : List Value} (h : w.ownsRow B e size v n xs) : w.ownsRow 0 e size v n xs := by
  refine ⟨h.1, ?_⟩
  rcases h.2 with hn | ⟨g, cap, cur, rfl, hb, rest⟩
  · exact .inl hn
  · exact .inr ⟨g, cap, cur, rfl, Nat.zero_le _, rest⟩
theorem At.rowG {W w : World} {R : Thing} {e : TypeId} {size : Nat} {v : Value} {n : Nat} {xs : List Value} (h : At W w (Both (RowG e size v n xs) R)) : w.ownsRow 0 e size v n xs := by
  obtain ⟨_, fp, ⟨f, g, ⟨h1, rfl⟩, _⟩, _⟩ := h
  exact h1
theorem At.newRowG {W w w' : World} {Φ : Thing} {e : TypeId} {size : Nat} {v : Value} {n : Nat} {xs : List Value} (h : At W w Φ) (hs : Stable Φ) (hb : Below w.heap.size w w') (hr : w'.ownsRow w.heap.size e size v n xs) : At W w' (Both (RowG e size v n xs) Φ) :=
  h.add hs hb (fp := rowOf v) ⟨ownsRow_at0 hr, rfl⟩ (fun k hk => (hr.lt k (mem_rowOf.1 hk)).1)
theorem At.noRowG {W w : World} {Φ : Thing} (h : At W w Φ) (hs : Stable Φ) (e : TypeId) (size : Nat) : At W w (Both (RowG e size (.slice none 0 0) 0 []) Φ) :=
  h.newRowG hs (Below.refl _ _) (World.ownsRow_nil _ _ _ _)

/-- The row's old block: it is the new row's, or is as it was. -/
theorem append_old {P : Program} (w : World) (t ty e : TypeId) (i : TypeInfo) (z : Value) (size bytes : Nat) (ht : P.underlying t = some (.slice e)) (hi : P.info? e = some i) (hz : i.zero = some z)
    (hsize : i.size = size) (hby : i.bytes = bytes) (hzs : z.cells.size = size) (hsz : 0 < size)
    {base : Nat} {v : Value} {n : Nat} {xs : List Value} (hown : w.ownsRow base e size v n xs)
    (a : Addr) (m c : Nat) (news : List Value) (hl : news.length = m * size) (hnews : ∀ j u, news[j]? = some u → w.cell? (a.add j) = some u) (h1 : ∀ u ∈ news, u.oneCell' = true)
    (h63 : n + m ≤ maxLen) (hbytes : (n + m) * bytes ≤ 140737488355328) {v' : Value} {w' : World}
    (hr : (Builtin.append_ #[t, t] ty #[v, .slice (some a) m c]).run P w = .ok v' w') : ∀ k, v.ownBlock = some k → v'.ownBlock = some k ∨ w'.heap[k]? = w.heap[k]? := by
  intro k hk
  rcases hown.2 with ⟨rfl, rfl⟩ | ⟨g, cap, cur, rfl, hbg, hg, hnc, hcm, hcs, htake⟩
  · simp [Value.ownBlock] at hk
  · subst hsize
    subst hby
    by_cases hroom : n + m ≤ cap
    · have hfit : n * i.size + news.length ≤ cur.size := by rw [hl, hcs, ← Nat.add_mul]; exact Nat.mul_le_mul_right _ hroom
      rw [run_append_room (P := P) w t ty e i ht hi g n cap cur hg a m c news hl hnews h1 hroom hfit] at hr
      cases hr
      exact .inl hk
    · have holds : ∀ j u, xs[j]? = some u → w.cell? ((⟨g, 0, none⟩ : Addr).add j) = some u := hown.cells (g := g) rfl
      have hr2 := run_append_grow (P := P) w t ty e i z ht hi hz ⟨g, 0, none⟩ n cap xs hown.1 holds a m c news hl hnews (by omega) (by simp only [maxLen] at h63; omega) (growslice_fits (by omega) hbytes)
      rw [hr] at hr2
      cases hr2
      simp only [Value.ownBlock, Option.some.injEq] at hk
      exact .inr (heap_alloc_old w.drew _ (by simpa [← hk] using lt_of_heap hg))

theorem slit_cells (w : World) (C : Array Value) (e : TypeId) : ∀ j u, C.toList[j]? = some u → (w.alloc (.cells C e)).cell? ((⟨w.heap.size, 0, none⟩ : Addr).add j) = some u := by
  intro j u hu
  rw [show (⟨w.heap.size, 0, none⟩ : Addr).add j = ⟨w.heap.size, j, none⟩ from by unfold Addr.add; split <;> simp_all, World.cell?_alloc_at _ _ _ _ rfl]
  simpa using hu

section
variable {P : Program} {W w : World} {R : Thing}
/-- 'append(s, x, ..)' to a row of the call's own, the elements in a block laid just ahead. -/
theorem append_at_run (t ty e : TypeId) (ht : P.underlying t = some (.slice e)) {z : Value} {size bytes : Nat} (hinfo : (P.info? e).map (fun i => (i.zero, i.size, i.bytes)) = some (some z, size, bytes)) (hzs : z.cells.size = size) (hsz : 0 < size)
    {v : Value} {n : Nat} {xs : List Value} (hat : At W w (Both (RowG e size v n xs) R)) (hR : Stable R) {C : Array Value} {m c : Nat} (hC : C.size = m * size) (h1 : ∀ u ∈ C.toList, u.oneCell' = true)
    (h63 : n + m ≤ maxLen) (hbytes : (n + m) * bytes ≤ 140737488355328) :
    ∃ v' w', (Builtin.append_ #[t, t] ty #[v, .slice (some ⟨w.heap.size, 0, none⟩) m c]).run P (w.alloc (.cells C e)) = .ok v' w' ∧ At W w' (Both (RowG e size v' (n + m) (xs ++ C.toList)) R) ∧
      Upd (rowOf v) w w' ∧ (∀ k, v.ownBlock = some k → v'.ownBlock = some k ∨ w'.heap[k]? = w.heap[k]?) := by
  obtain ⟨i0, hi, hz0, hz1, hz2⟩ := info_parts hinfo
  have hown := hat.rowG
  obtain ⟨v', w', hr, h2, h3, _⟩ := run_append_own (P := P) (w.alloc (.cells C e)) 0 t ty e i0 z size bytes ht hi hz0 hz1 hz2 hzs hsz v n xs (hown.alloc _) ⟨w.heap.size, 0, none⟩ m c C.toList (by simpa using hC) (slit_cells w C e) h1 h63 hbytes (Nat.zero_le _)
  have hb := append_block (P := P) (w.alloc (.cells C e)) t ty e i0 z size bytes ht hi hz0 hz1 hz2 hzs hsz (hown.alloc _) ⟨w.heap.size, 0, none⟩ m c C.toList (by simpa using hC) (slit_cells w C e) h1 h63 hbytes hr
  have ho := append_old (P := P) (w.alloc (.cells C e)) t ty e i0 z size bytes ht hi hz0 hz1 hz2 hzs hsz (hown.alloc _) ⟨w.heap.size, 0, none⟩ m c C.toList (by simpa using hC) (slit_cells w C e) h1 h63 hbytes hr
  have hu : Upd (rowOf v) w w' := (Upd.refl _ w).grown (World.grownBy.of_alloc h3) (fun k hk => .inl (mem_rowOf.2 hk))
  obtain ⟨fp, g1, g2, g3⟩ := hat.step
  obtain ⟨_, rfl⟩ := g1
  refine ⟨v', w', hr, g3 hR w' _ ⟨rowOf v', ⟨h2, rfl⟩, hu, fun k hk => ?_⟩, hu, fun k hk => ?_⟩
  · rcases hb k (mem_rowOf.1 hk) with h4 | h4
    · exact .inl (mem_rowOf.2 h4)
    · exact .inr (by simp at h4; omega)
  · rcases ho k hk with h4 | h4
    · exact .inl h4
    · exact .inr (h4.trans (heap_alloc_old w _ ((hown.lt k hk).2)))
theorem wpList_append_at {ops : Array Oper} {rest : List Oper} {o : Oper} {a : Act} {Q : Exit → Act → World → Prop} (hgd : o.guard = none)
    (s x : Operand) (t e : TypeId) (ho : o.op = .call { callee := .builtin .append, args := #[s, x], argTypes := #[t, t] }) (ht : P.underlying t = some (.slice e))
    {z : Value} {size bytes : Nat} (hinfo : (P.info? e).map (fun i => (i.zero, i.size, i.bytes)) = some (some z, size, bytes)) (hzs : z.cells.size = size) (hsz : 0 < size)
    {v : Value} {n : Nat} {xs : List Value} (hs : a.eval s = v) (hat : At W w (Both (RowG e size v n xs) R)) (hR : Stable R)
    {C : Array Value} {m c : Nat} (hx : a.eval x = .slice (some ⟨w.heap.size, 0, none⟩) m c) (hC : C.size = m * size) (h1 : ∀ u ∈ C.toList, u.oneCell' = true)
    (h63 : n + m ≤ maxLen) (hbytes : (n + m) * bytes ≤ 140737488355328)
    (h : ∀ v' w', At W w' (Both (RowG e size v' (n + m) (xs ++ C.toList)) R) → Upd (rowOf v) w w' → (∀ k, v.ownBlock = some k → v'.ownBlock = some k ∨ w'.heap[k]? = w.heap[k]?) → wpList P ops Q rest (a.put o.dst v') w') :
    wpList P ops Q (o :: rest) a (w.alloc (.cells C e)) := by
  refine wpList_plain hgd fun K hK' => ?_
  obtain ⟨v', w', hr, h2, h3, h4⟩ := append_at_run t o.type e ht hinfo hzs hsz hat hR (c := c) hC h1 h63 hbytes
  unfold Oper.wp
  simp [execOp, ho, resolve, invoke, builtin, hs, hx, hr, Result.andThen]
  exact hK' _ _ (h v' w' h2 h3 h4)
end
theorem own_cut {w : World} {B : Nat} {e : TypeId} {size : Nat} {v : Value} {n : Nat} {xs : List Value} (h : w.ownsRow B e size v n xs) (hn : 0 < n) : ∃ g cap, v = .slice (some ⟨g, 0, none⟩) n cap ∧ B ≤ g ∧ n ≤ cap ∧ cap ≤ maxLen := by
  rcases h.2 with ⟨_, h0⟩ | ⟨g, cap, cur, hv, hb, _, h1, h2, _⟩
  · omega
  · exact ⟨g, cap, hv, hb, h1, h2⟩
theorem own_shape {w : World} {B : Nat} {e : TypeId} {size : Nat} {v : Value} {n : Nat} {xs : List Value} (h : w.ownsRow B e size v n xs) : ∃ ao cap, v = .slice ao n cap ∧ n ≤ cap ∧ cap ≤ maxLen := by
  rcases h.2 with ⟨rfl, rfl⟩ | ⟨g, cap, cur, hv, hb, _, h1, h2, _⟩
  · exact ⟨none, 0, rfl, Nat.le_refl _, by simp [maxLen]⟩
  · exact ⟨_, cap, hv, h1, h2⟩
/-- A cell of the row is set. -/
theorem At.storeG {W w : World} {R : Thing} {e : TypeId} {size g n cap : Nat} {xs : List Value} (h : At W w (Both (RowG e size (.slice (some ⟨g, 0, none⟩) n cap) n xs) R)) (hR : Stable R) (j : Nat) (u : Value) :
    At W (w.setCell ⟨g, j, none⟩ u) (Both (RowG e size (.slice (some ⟨g, 0, none⟩) n cap) n (xs.set j u)) R) := by
  obtain ⟨fp, ⟨g1, rfl⟩, g2, g3⟩ := h.step
  exact g3 hR _ _ ⟨_, ⟨(g1.stored j u).1, rfl⟩, (Upd.refl _ _).setCell (.inl (mem_rowOf.2 rfl)) u, fun k hk => .inl hk⟩
end
end Go.Proofs.Ytcbdncjknpdnbaa
