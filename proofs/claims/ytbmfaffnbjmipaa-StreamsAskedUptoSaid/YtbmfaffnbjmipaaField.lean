/- 'x.f = append(x.f, ..)': a slice in a field of a struct of the call's own, the elements in a block laid just ahead. Over any program. -/
import Derived.Test.YtbmfaffnbjmipaaMem
namespace Go.Proofs.Ytbmfaffnbjmipaa
open Go.RowKit Go.BigFrame

theorem below_dW (w : World) (n : Nat) : Below w.heap.size w (w.drewN n) := ⟨rfl, rfl, rfl, Nat.le_refl _, fun _ _ => rfl⟩

theorem field_push_run {P : Program} (t ty e : TypeId) (ht : P.underlying t = some (.slice e))
    {z : Value} {size bytes : Nat} (hinfo : (P.info? e).map (fun i => (i.zero, i.size, i.bytes)) = some (some z, size, bytes)) (hzs : z.cells.size = size) (hsz : 0 < size)
    {w : World} {b o : Nat} {cs : Array Value} {T : TypeId} (hb : w.heap[b]? = some (.cells cs T (0, 0))) {v : Value} (ho : cs[o]? = some v) (hT : T ≠ e)
    {n : Nat} {xs : List Value} (hown : w.ownsRow 0 e size v n xs) {C : Array Value} {m : Nat} (hC : C.size = m * size) (h1 : ∀ u ∈ C.toList, u.oneCell' = true) (hm : 0 < m)
    (h63 : n + m ≤ maxLen) (hbytes : (n + m) * bytes ≤ 140737488355328) :
    ∃ ao cap w2, (Builtin.append_ #[t, t] ty #[v, .slice (some ⟨w.heap.size, 0, none⟩) m m]).run P (w.alloc (.cells C e)) = .ok (.slice ao (n + m) cap) w2 ∧
      w2.cell? ⟨b, o, none⟩ = some v ∧ w2.frozen? ⟨b, o, none⟩ = false ∧ b < w2.heap.size ∧
      (w2.setCell ⟨b, o, none⟩ (.slice ao (n + m) cap)).heap[b]? = some (.cells (cs.setIfInBounds o (.slice ao (n + m) cap)) T (0, 0)) ∧
      (w2.setCell ⟨b, o, none⟩ (.slice ao (n + m) cap)).ownsRow 0 e size (.slice ao (n + m) cap) (n + m) (xs ++ C.toList) ∧
      Upd (b :: rowOf v) w (w2.setCell ⟨b, o, none⟩ (.slice ao (n + m) cap)) ∧ Grow w (b :: rowOf v) (b :: rowOf (.slice ao (n + m) cap)) := by
  obtain ⟨i0, hi, hz0, hz1, hz2⟩ := info_parts hinfo
  have hbs := lt_of_heap hb
  have hcells : ∀ j u, C.toList[j]? = some u → (w.alloc (.cells C e)).cell? ((⟨w.heap.size, 0, none⟩ : Addr).add j) = some u := by
    intro j u hu
    rw [show (⟨w.heap.size, 0, none⟩ : Addr).add j = ⟨w.heap.size, j, none⟩ from by unfold Addr.add; split <;> simp_all, World.cell?_alloc_at _ _ _ _ rfl]
    simpa using hu
  obtain ⟨v', w2, hr, hown2, hg, _⟩ := run_append_own (P := P) (w.alloc (.cells C e)) 0 t ty e i0 z size bytes ht hi hz0 hz1 hz2 hzs hsz v n xs (hown.alloc _) ⟨w.heap.size, 0, none⟩ m m C.toList (by simpa using hC) hcells h1 h63 hbytes (Nat.zero_le _)
  have hg' := World.grownBy.of_alloc hg
  have hnb : ∀ k, v.ownBlock = some k → k ≠ b := fun k hk e0 => by
    subst e0
    rcases hown.2 with ⟨rfl, _⟩ | ⟨g, cap, cur, rfl, _, hgg, _⟩
    · simp [Value.ownBlock] at hk
    · simp only [Value.ownBlock, Option.some.injEq] at hk
      subst hk
      have := hb.symm.trans hgg
      simp only [Option.some.injEq, Obj.cells.injEq] at this
      exact hT this.2.1
  have hb2 : w2.heap[b]? = some (.cells cs T (0, 0)) := by
    rw [hg'.block b hbs (fun e => hnb b e.symm rfl)]; exact hb
  have hne' : v'.ownBlock ≠ some b := by
    rcases hown2.2 with ⟨rfl, _⟩ | ⟨g, cap, cur, rfl, _, hgg, _⟩
    · simp [Value.ownBlock]
    · intro e0
      simp only [Value.ownBlock, Option.some.injEq] at e0
      subst e0
      have := hb2.symm.trans hgg
      simp only [Option.some.injEq, Obj.cells.injEq] at this
      exact hT this.2.1
  have hgrow : Grow w (b :: rowOf v) (b :: rowOf v') := by
    intro k hk
    rcases List.mem_cons.1 hk with rfl | hk
    · exact .inl (by simp)
    · rw [mem_rowOf] at hk
      rcases append_block (P := P) _ _ _ e i0 z size bytes ht hi hz0 hz1 hz2 hzs hsz (hown.alloc _) ⟨w.heap.size, 0, none⟩ m m C.toList (by simpa using hC) hcells h1 h63 hbytes hr k hk with h1 | h1
      · exact .inl (List.mem_cons_of_mem _ (mem_rowOf.2 h1))
      · exact .inr (by simp at h1; omega)
  obtain ⟨ao, cap, rfl⟩ : ∃ ao cap, v' = .slice ao (n + m) cap := by
    rcases hown2.2 with ⟨_, h0⟩ | ⟨g, cap, cur, hv, _⟩
    · omega
    · exact ⟨_, _, hv⟩
  refine ⟨ao, cap, w2, hr, by simp [World.cell?, hb2, ho], by simp [World.frozen?, hb2], lt_of_heap hb2, heap_setCell hb2 _, ?_, ?_, hgrow⟩
  · exact ownsRow_block hown2 fun k hk => Below.heap_setCell _ _ _ _ (fun e => hne' (by have e' : k = b := e; rw [← e']; exact hk))
  · exact ((Upd.refl _ w).grown hg' (fun k hk => .inl (List.mem_cons_of_mem _ (mem_rowOf.2 hk)))).setCell (.inl (by simp)) _

end Go.Proofs.Ytbmfaffnbjmipaa
