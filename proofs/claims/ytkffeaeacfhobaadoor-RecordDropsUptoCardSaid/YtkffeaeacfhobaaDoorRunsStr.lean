/- append(x, s...) for a string s at a row of the call's own: where the new row lies. Over any program. -/
import Derived.Test.YtkffeaeacfhobaaDoorRunsRemove
import Derived.Lib.AppendStr
namespace Go.Proofs.YtkffeaeacfhobaaDoor
open Go.RowKit Go.BigFrame

theorem append_block_string {P : Program} (w : World) (t u ty e : TypeId) (i : TypeInfo) (ht : P.underlying t = some (.slice e)) (hu : P.underlying u = some .string) (hi : P.info? e = some i) (hz : i.zero = some (.int .u8 0))
    (hsize : i.size = 1) (hby : i.bytes = 1) {base : Nat} {v : Value} {n : Nat} {xs : List Value} (hown : w.ownsRow base e 1 v n xs) (s : ByteArray)
    (h63 : n + s.size ≤ maxLen) (hbytes : n + s.size ≤ 140737488355328) {v' : Value} {w' : World}
    (hr : (Builtin.append_ #[t, u] ty #[v, .string s]).run P w = .ok v' w') : ∀ k, v'.ownBlock = some k → v.ownBlock = some k ∨ w.heap.size ≤ k := by
  intro k hk
  rcases hown.2 with ⟨rfl, rfl⟩ | ⟨g, cap, cur, rfl, hbg, hg, hnc, hcm, hcs, htake⟩
  · have hx : xs = [] := List.eq_nil_of_length_eq_zero (by simpa using hown.1)
    subst hx
    obtain ⟨v2, w2, hr2, ho2, _⟩ := Lib.run_append_own_string (P := P) w w.heap.size t u ty e i ht hu hi hz hsize hby (.slice none 0 0) 0 [] (World.ownsRow_nil _ _ _ _) s h63 hbytes (Nat.le_refl _)
    rw [hr] at hr2
    cases hr2
    exact .inr (ho2.lt k hk).1
  · by_cases hroom : n + s.size ≤ cap
    · rw [Lib.run_append_room_string (P := P) w t u ty e i ht hu hi hsize g n cap cur hg s hroom (by omega)] at hr
      cases hr
      exact .inl hk
    · have holds : ∀ j u, xs[j]? = some u → w.cell? ((⟨g, 0, none⟩ : Addr).add j) = some u := hown.cells (g := g) rfl
      have hr2 := Lib.run_append_grow_string (P := P) w t u ty e i (.int .u8 0) ht hu hi hz ⟨g, 0, none⟩ n cap xs (by rw [hsize]; exact hown.1) holds s (by omega) (by simp only [maxLen] at h63; omega) (by rw [hby]; exact growslice_fits (by omega) (by omega))
      rw [hr] at hr2
      cases hr2
      simp only [Value.ownBlock, Option.some.injEq] at hk
      exact .inr (by rw [← hk]; exact Nat.le_refl _)

theorem wpList_append_str {P : Program} {ops : Array Oper} {rest : List Oper} {o : Oper} {a : Act} {w : World} {Q : Exit → Act → World → Prop} (hgd : o.guard = none) (sl x : Operand) (t u : TypeId)
    (ho : o.op = .call { callee := .builtin .append, args := #[sl, x], argTypes := #[t, u] })
    (e : TypeId) (i : TypeInfo) (ht : P.underlying t = some (.slice e)) (hu : P.underlying u = some .string) (hi : P.info? e = some i) (hz : i.zero = some (.int .u8 0))
    (hsize : i.size = 1) (hby : i.bytes = 1)
    (v : Value) (n : Nat) (xs : List Value) (hs : a.eval sl = v) (hown : w.ownsRow 0 e 1 v n xs) (s : ByteArray) (hx : a.eval x = .string s)
    (h63 : n + s.size ≤ maxLen) (hbytes : n + s.size ≤ 140737488355328)
    (h : ∀ v' w', w'.ownsRow 0 e 1 v' (n + s.size) (xs ++ Lib.strCells s) → w.grownBy w' v.ownBlock → (∀ k, v'.ownBlock = some k → v.ownBlock = some k ∨ w.heap.size ≤ k) → wpList P ops Q rest (a.put o.dst v') w') : wpList P ops Q (o :: rest) a w := by
  refine wpList_plain hgd fun K' hK' => ?_
  obtain ⟨v', w', hr, h1, h2, _⟩ := Lib.run_append_own_string (P := P) w 0 t u o.type e i ht hu hi hz hsize hby v n xs hown s h63 hbytes (Nat.zero_le _)
  unfold Oper.wp
  simp [execOp, ho, resolve, invoke, builtin, hs, hx, hr, Result.andThen]
  exact hK' _ _ (h v' w' h1 h2 (append_block_string w t u o.type e i ht hu hi hz hsize hby hown s h63 hbytes hr))

theorem World.ownsRow.slice_form {w : World} {base : Nat} {e : TypeId} {size : Nat} {v : Value} {n : Nat} {xs : List Value} (h : w.ownsRow base e size v n xs) : ∃ ao n' cap, v = .slice ao n' cap := by
  rcases h.2 with ⟨hv, _⟩ | ⟨g, cap, cur, hv, _⟩
  · exact ⟨_, _, _, hv⟩
  · exact ⟨_, _, _, hv⟩

/-- The bytes of a string. -/
theorem strCells_bvs (t : List UInt8) : Lib.strCells ⟨t.toArray⟩ = bvs t := by
  simp [Lib.strCells, Lib.byteCells]

/-- The store behind an append to a run, the new row stored. -/
theorem StoreI.appended {w w5 : World} {b mb : Nat} {blk : Nat → Nat} {val : Nat → Value} {S : St} (h : StoreI w b mb blk val S) {p : Nat × RunD} (hp : p ∈ S.runs) {t : List UInt8} {v' : Value}
    (hown : w5.ownsRow 0 5 1 v' (p.2.text.length + (⟨t.toArray⟩ : ByteArray).size) (bvs p.2.text ++ Lib.strCells ⟨t.toArray⟩)) (hg : w.grownBy w5 (val p.1).ownBlock)
    (hv : ∀ k, v'.ownBlock = some k → (val p.1).ownBlock = some k ∨ w.heap.size ≤ k) :
    StoreI (w5.setCell ⟨blk p.1, 0, none⟩ v') b mb blk (upTo val p.1 v') (S.setRun p.1 ⟨p.2.text ++ t, p.2.sealed⟩) ∧ Upd (fpS b mb blk val S) w (w5.setCell ⟨blk p.1, 0, none⟩ v') ∧
      Grow w (fpS b mb blk val S) (fpS b mb blk (upTo val p.1 v') (S.setRun p.1 ⟨p.2.text ++ t, p.2.sealed⟩)) ∧ w5.frozen? ⟨blk p.1, 0, none⟩ = false ∧ (∃ x, w5.cell? ⟨blk p.1, 0, none⟩ = some x) := by
  have hrun := h.run p hp
  have hlt := lt_of_heap hrun
  have hne := h.run_ne hp
  have h5 : w5.heap[blk p.1]? = some (.cells #[val p.1, .bool p.2.sealed] tRun (0, 0)) := by
    rw [hg.block _ hlt (fun e => hne.2.2 p hp e.symm)]; exact hrun
  have hvb : ∀ k, v'.ownBlock = some k → k ≠ blk p.1 := fun k hk e => by
    rcases hv k hk with h1 | h1
    · exact hne.2.2 p hp (by rw [h1, e])
    · omega
  have hs : StoreI (w5.setCell ⟨blk p.1, 0, none⟩ v') b mb blk (upTo val p.1 v') (S.setRun p.1 ⟨p.2.text ++ t, p.2.sealed⟩) := by
    refine h.setRun hp (heap_setCell h5 _) (ownsRow_block ?_ fun k hk => Below.heap_setCell _ _ _ _ (hvb k hk)) (fun j hj hj1 hj2 => ?_) hv
    · rw [strCells_bvs, ← bvs_append] at hown
      rw [List.length_append]
      exact hown
    · rw [Below.heap_setCell _ _ _ _ hj1]
      exact hg.block j (h.lt j hj) (fun e => hj2 e.symm)
  refine ⟨hs, ?_, grow_setRun ⟨p, hp, rfl⟩ hv, by simp [World.frozen?, h5], ⟨val p.1, by simp [World.cell?, h5]⟩⟩
  exact ((Upd.refl (fpS b mb blk val S) w).grown hg (fun k hk => .inl (mem_fpS.2 (.inr (.inr ⟨p, hp, .inr hk⟩))))).setCell (.inl (mem_fpS.2 (.inr (.inr ⟨p, hp, .inl rfl⟩)))) _
theorem StoreI.more {w : World} {b mb : Nat} {blk : Nat → Nat} {val : Nat → Value} {S : St} (h : StoreI w b mb blk val S) {n : Nat} (hn : S.used + n ≤ S.cap) :
    StoreI (w.setCell ⟨b, 1, none⟩ (.int .i64 ((S.used : Int) + (n : Int)))) b mb blk val { S with used := S.used + n } :=
  h.reset (S' := { S with used := S.used + n }) rfl (Nat.le_refl _) ⟨h.sizes.1, hn, h.sizes.2.2.1, h.sizes.2.2.2.1, h.sizes.2.2.2.2⟩ 1 _ rfl
theorem StoreI.peaked {w : World} {b mb : Nat} {blk : Nat → Nat} {val : Nat → Value} {S : St} (h : StoreI w b mb blk val S) {m : Nat} (hm : m ≤ S.cap) {z : Int} (hz : z = (m : Int)) :
    StoreI (w.setCell ⟨b, 2, none⟩ (.int .i64 z)) b mb blk val { S with peak := m } :=
  h.reset (S' := { S with peak := m }) rfl (Nat.le_refl _) ⟨h.sizes.1, h.sizes.2.1, hm, h.sizes.2.2.2.1, h.sizes.2.2.2.2⟩ 2 _ (by subst hz; rfl)
end Go.Proofs.YtkffeaeacfhobaaDoor
