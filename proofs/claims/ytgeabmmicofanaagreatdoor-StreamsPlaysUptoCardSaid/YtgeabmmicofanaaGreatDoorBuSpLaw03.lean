/- What a call may write: a list of blocks; all else is as it was. Over any program. · Things in memory side by side: a thing is a claim on a world and the blocks that it stands on. · A call in a region that draws, under a guard that holds. · 'x.f = append(x.f, ..)': a slice in a field of a struct of the call's own, the elements in a block laid just ahead. Over any program. · A row of the call's own as a thing, and 'append' on it. -/
import Derived.Test.YtgeabmmicofanaaGreatDoorBuSpLaw01
import Derived.Lib.Hide
set_option linter.unusedSimpArgs false
set_option linter.unusedVariables false
namespace Go.Proofs.YtgeabmmicofanaaGreatDoor
open Go.RowKit Go.BigFrame

/-- Of the blocks that there were only those of fp may have turned. -/
structure Upd (fp : List Nat) (w w' : World) : Prop where
  os : w'.os = w.os
  tape : w'.tape = w.tape
  output : w'.output = w.output
  size : w.heap.size ≤ w'.heap.size
  block : ∀ k, k < w.heap.size → k ∉ fp → w'.heap[k]? = w.heap[k]?

/-- The blocks of fp' are of fp, or new since w. -/
def Grow (w : World) (fp fp' : List Nat) : Prop := ∀ k ∈ fp', k ∈ fp ∨ w.heap.size ≤ k

theorem Upd.refl (fp : List Nat) (w : World) : Upd fp w w := ⟨rfl, rfl, rfl, Nat.le_refl _, fun _ _ _ => rfl⟩
theorem Upd.trans {fp fp' : List Nat} {a b c : World} (h : Upd fp a b) (k : Upd fp' b c) (hg : Grow a fp fp') : Upd fp a c :=
  ⟨k.os.trans h.os, k.tape.trans h.tape, k.output.trans h.output, Nat.le_trans h.size k.size, fun i hi hn =>
    (k.block i (Nat.lt_of_lt_of_le hi h.size) (fun hm => (hg i hm).elim hn (fun h => by omega))).trans (h.block i hi hn)⟩
theorem Grow.refl (w : World) (fp : List Nat) : Grow w fp fp := fun _ h => .inl h
theorem Grow.trans {w w' : World} {a b c : List Nat} (h : Grow w a b) (k : Grow w' b c) (hs : w.heap.size ≤ w'.heap.size) : Grow w a c := fun i hi =>
  (k i hi).elim (h i) (fun h => .inr (by omega))
theorem Grow.nil (w : World) (fp : List Nat) : Grow w fp [] := fun _ h => by cases h
theorem Upd.mono {fp fp' : List Nat} {w w' : World} (h : Upd fp w w') (hs : ∀ k ∈ fp, k ∈ fp') : Upd fp' w w' :=
  ⟨h.os, h.tape, h.output, h.size, fun k hk hn => h.block k hk fun hm => hn (hs k hm)⟩
theorem Upd.of_below {w w' : World} (h : Below w.heap.size w w') (fp : List Nat) : Upd fp w w' := ⟨h.os, h.tape, h.output, h.size, fun k hk _ => h.block k hk⟩
theorem Upd.below {fp : List Nat} {w w' : World} (h : Upd fp w w') {B : Nat} (hB : B ≤ w.heap.size) (hf : ∀ k ∈ fp, B ≤ k) : Below B w w' :=
  ⟨h.os, h.tape, h.output, h.size, fun k hk => h.block k (by omega) fun hm => by have := hf k hm; omega⟩
theorem Upd.drew {fp : List Nat} {a w : World} (h : Upd fp a w) : Upd fp a w.drew := ⟨h.os, h.tape, h.output, h.size, h.block⟩
theorem Upd.drewN {fp : List Nat} {a w : World} (h : Upd fp a w) (n : Nat) : Upd fp a (w.drewN n) := ⟨h.os, h.tape, h.output, h.size, h.block⟩
theorem Upd.alloc {fp : List Nat} {a w : World} (h : Upd fp a w) (o : Obj) : Upd fp a (w.alloc o) :=
  ⟨h.os, h.tape, h.output, Nat.le_trans h.size (by simp), fun k hk hn => (heap_alloc_old w o (by have := h.size; omega)).trans (h.block k hk hn)⟩
theorem Upd.setCell {fp : List Nat} {a w : World} (h : Upd fp a w) {p : Addr} (hp : p.block ∈ fp ∨ a.heap.size ≤ p.block) (u : Value) : Upd fp a (w.setCell p u) :=
  ⟨h.os, h.tape, h.output, Nat.le_trans h.size (by simp [World.setCell]), fun k hk hn =>
    (Below.heap_setCell _ _ _ _ (fun e => by subst e; exact hp.elim hn (fun h => by omega))).trans (h.block k hk hn)⟩
theorem Upd.grown {fp : List Nat} {a w w' : World} {row : Option Nat} (h : Upd fp a w) (hg : w.grownBy w' row) (hr : ∀ k, row = some k → k ∈ fp ∨ a.heap.size ≤ k) : Upd fp a w' :=
  ⟨hg.os.trans h.os, hg.tape.trans h.tape, hg.output.trans h.output, Nat.le_trans h.size hg.size, fun k hk hn =>
    (hg.block k (by have := h.size; omega) (fun e => (hr k e.symm).elim hn (fun h => by omega))).trans (h.block k hk hn)⟩

theorem Upd.of_drew {fp : List Nat} {w w' : World} (h : Upd fp w.drew w') : Upd fp w w' := ⟨h.os, h.tape, h.output, h.size, h.block⟩
theorem Grow.head {w : World} {b : Nat} {r : List Nat} : Grow w (b :: r) [b] := fun k hk => .inl (by simp at hk; simp [hk])

/-- A store into a row. -/
theorem heap_setCell {w : World} {b o : Nat} {cs : Array Value} {T : TypeId} {fz : Nat × Nat} (h : w.heap[b]? = some (.cells cs T fz)) (v : Value) : (w.setCell ⟨b, o, none⟩ v).heap[b]? = some (.cells (cs.setIfInBounds o v) T fz) := by
  simp [World.setCell, Array.getElem?_modify, h]
theorem heap_drew (w : World) (k : Nat) : w.drew.heap[k]? = w.heap[k]? := rfl
theorem lt_of_heap {w : World} {k : Nat} {o : Obj} (h : w.heap[k]? = some o) : k < w.heap.size := (Array.getElem?_eq_some_iff.1 h).1

/-- A row that is owned depends on its own block alone. -/
theorem ownsRow_block {w w' : World} {B : Nat} {e : TypeId} {size : Nat} {v : Value} {n : Nat} {xs : List Value} (h : w.ownsRow B e size v n xs) (hb : ∀ k, v.ownBlock = some k → w'.heap[k]? = w.heap[k]?) : w'.ownsRow B e size v n xs := by
  refine ⟨h.1, ?_⟩
  rcases h.2 with hn | ⟨g, cap, cur, rfl, hB, hg, rest⟩
  · exact .inl hn
  · exact .inr ⟨g, cap, cur, rfl, hB, by rw [hb g rfl]; exact hg, rest⟩

/-- The blocks of a slice's row. -/
def rowOf (v : Value) : List Nat := v.ownBlock.toList
theorem mem_rowOf {v : Value} {k : Nat} : k ∈ rowOf v ↔ v.ownBlock = some k := by simp [rowOf]

/-- Behind an append the row is the one that it was, or a new one. -/
theorem append_block {P : Program} (w : World) (t ty e : TypeId) (i : TypeInfo) (z : Value) (size bytes : Nat) (ht : P.underlying t = some (.slice e)) (hi : P.info? e = some i) (hz : i.zero = some z)
    (hsize : i.size = size) (hby : i.bytes = bytes) (hzs : z.cells.size = size) (hsz : 0 < size)
    {base : Nat} {v : Value} {n : Nat} {xs : List Value} (hown : w.ownsRow base e size v n xs)
    (a : Addr) (m c : Nat) (news : List Value) (hl : news.length = m * size) (hnews : ∀ j u, news[j]? = some u → w.cell? (a.add j) = some u) (h1 : ∀ u ∈ news, u.oneCell' = true)
    (h63 : n + m ≤ maxLen) (hbytes : (n + m) * bytes ≤ 140737488355328) {v' : Value} {w' : World}
    (hr : (Builtin.append_ #[t, t] ty #[v, .slice (some a) m c]).run P w = .ok v' w') : ∀ k, v'.ownBlock = some k → v.ownBlock = some k ∨ w.heap.size ≤ k := by
  intro k hk
  rcases hown.2 with ⟨rfl, rfl⟩ | ⟨g, cap, cur, rfl, hbg, hg, hnc, hcm, hcs, htake⟩
  · have hx : xs = [] := List.eq_nil_of_length_eq_zero (by simpa using hown.1)
    subst hx
    obtain ⟨v2, w2, hr2, ho2, _⟩ := run_append_own (P := P) w w.heap.size t ty e i z size bytes ht hi hz hsize hby hzs hsz (.slice none 0 0) 0 [] (World.ownsRow_nil _ _ _ _) a m c news hl hnews h1 h63 hbytes (Nat.le_refl _)
    rw [hr] at hr2
    cases hr2
    exact .inr (ho2.lt k hk).1
  · subst hsize
    subst hby
    by_cases hroom : n + m ≤ cap
    · have hfit : n * i.size + news.length ≤ cur.size := by rw [hl, hcs, ← Nat.add_mul]; exact Nat.mul_le_mul_right _ hroom
      rw [run_append_room (P := P) w t ty e i ht hi g n cap cur hg a m c news hl hnews h1 hroom hfit] at hr
      cases hr
      exact .inl hk
    · have holds : ∀ j u, xs[j]? = some u → w.cell? ((⟨g, 0, none⟩ : Addr).add j) = some u := hown.cells (g := g) rfl
      have hr2 := run_append_grow (P := P) w t ty e i z ht hi hz ⟨g, 0, none⟩ n cap xs hown.1 holds a m c news hl hnews (by omega) (by simp only [maxLen] at h63; omega) (growslice_fits (by omega) hbytes)
      rw [hr] at hr2
      cases hr2
      simp only [Value.ownBlock, Option.some.injEq] at hk
      exact .inr (by rw [← hk]; exact Nat.le_refl _)

/-- An append whose run is known, as one step of a region that draws. -/
theorem step_append_run {P : Program} {ops : Array Oper} {o : Oper} {a : Act} {w : World} {K : Act → World → Prop} {Q : Exit → Act → World → Prop} {E : Prop}
    (hg : o.guard = none) (s x : Operand) (t : TypeId) (hop : o.op = Op.call { callee := Callee.builtin Builtin.append, args := #[s, x], argTypes := #[t, t] })
    (vs vx : Value) (hs : a.eval s = vs) (hx : a.eval x = vx) {v' : Value} {w' : World} (hrun : (Builtin.append_ #[t, t] o.type #[vs, vx]).run P w = .ok v' w')
    (hK : K (a.put o.dst v') w') : if Region.wanted o (yielded ops a.tmps) = true then Oper.wp P o a w K Q else E := by
  have hw : Region.wanted o (yielded ops a.tmps) = true := by simp [Region.wanted, hg]
  rw [if_pos hw]
  unfold Oper.wp
  simp [execOp, hop, resolve, invoke, builtin, hs, hx, hrun, Result.andThen]
  exact hK

theorem enters_fn {P : Program} {f : FuncId} {fn : Func} {c : Code} (hf : P.funcs[f]? = some fn) (hname : (fn.name == "runtime.NumGoroutine") = false) (hb : fn.body = some c) (args : Array Value) (w : World) : (callFunc f args).run P w = .ok (.enter f args) w := by
  have h1 : fn.name ≠ "runtime.NumGoroutine" := by simpa using hname
  simp [callFunc, hf, h1, hb, mark]

/-- A call of a named Go function, as one step of a region that draws. -/
theorem step_call_fn {P : Program} {ops : Array Oper} {o : Oper} {a : Act} {w : World} {K : Act → World → Prop} {Q : Exit → Act → World → Prop} {E : Prop}
    (hg : o.guard = none) (f : FuncId) (args : List Operand) (ats : Array TypeId) (hop : o.op = Op.call { callee := Callee.value (Operand.func f), args := args.toArray, argTypes := ats })
    (hent : ∀ xs w, (callFunc f xs).run P w = .ok (.enter f xs) w) (xs : List Value) (hxs : args.map a.eval = xs)
    (h : Calls P f xs.toArray w fun
      | .returned v, w'' => K (a.put o.dst v) w''
      | .panicked chain, w'' => Q (.panic chain) a w''
      | .outgrown, _ => LetsOut Q) : if Region.wanted o (yielded ops a.tmps) = true then Oper.wp P o a w K Q else E := by
  have hw : Region.wanted o (yielded ops a.tmps) = true := by simp [Region.wanted, hg]
  rw [if_pos hw]
  unfold Oper.wp
  subst hxs
  have hrun : (execOp a.eval o).run P w = .ok (.enter f (args.map a.eval).toArray) w := by
    simp [execOp, hop, resolve, invoke, eval_func, Deferred.ofValue, hent]
  rw [hrun]
  exact h

/-- 'clear' whose run is known. -/
theorem wpList_clear {P : Program} {w : World} {ops : Array Oper} {rest : List Oper} {o : Oper} {a : Act} {Q : Exit → Act → World → Prop} (hgd : o.guard = none)
    (x : Operand) (t : TypeId) (ho : o.op = .call { callee := .builtin .clear, args := #[x], argTypes := #[t] }) (v : Value) (hx : a.eval x = v) {r : Value} {w' : World}
    (hrun : (Builtin.clear_ #[t] o.type #[v]).run P w = .ok r w') (hK : wpList P ops Q rest (a.put o.dst r) w') : wpList P ops Q (o :: rest) a w := by
  refine wpList_plain hgd fun K hK' => ?_
  unfold Oper.wp
  simp [execOp, ho, resolve, invoke, builtin, hx, hrun, Result.andThen]
  exact hK' _ _ hK

end Go.Proofs.YtgeabmmicofanaaGreatDoor
namespace Go.Proofs.YtgeabmmicofanaaGreatDoor
section
open Go.RowKit

/-- A thing in memory: of a world and the blocks that it stands on. -/
abbrev Thing := World → List Nat → Prop
/-- Its blocks are there, and it hangs on nothing else. -/
structure Stable (Φ : Thing) : Prop where
  lt : ∀ w fp, Φ w fp → ∀ k ∈ fp, k < w.heap.size
  same : ∀ w w' fp, Φ w fp → (∀ k ∈ fp, w'.heap[k]? = w.heap[k]?) → Φ w' fp
/-- Two things on blocks of their own. -/
def Both (Φ Ψ : Thing) : Thing := fun w fp => ∃ f g, Φ w f ∧ Ψ w g ∧ (∀ k ∈ f, k ∉ g) ∧ ∀ k, k ∈ fp ↔ k ∈ f ∨ k ∈ g
def Nought : Thing := fun _ fp => fp = []
theorem Stable.both {Φ Ψ : Thing} (h : Stable Φ) (h' : Stable Ψ) : Stable (Both Φ Ψ) := by
  refine ⟨fun w fp hp k hk => ?_, fun w w' fp hp hs => ?_⟩
  · obtain ⟨f, g, h1, h2, _, h4⟩ := hp
    rcases (h4 k).1 hk with h5 | h5
    · exact h.lt _ _ h1 k h5
    · exact h'.lt _ _ h2 k h5
  · obtain ⟨f, g, h1, h2, h3, h4⟩ := hp
    exact ⟨f, g, h.same _ _ _ h1 fun k hk => hs k ((h4 k).2 (.inl hk)), h'.same _ _ _ h2 fun k hk => hs k ((h4 k).2 (.inr hk)), h3, h4⟩

/-- What a step leaves: the thing turned, nothing else touched, new blocks at most. -/
def Left (w : World) (fp : List Nat) (Φ : Thing) (w' : World) : Prop := ∃ fp', Φ w' fp' ∧ Upd fp w w' ∧ ∀ k ∈ fp', k ∈ fp ∨ w.heap.size ≤ k
/-- The things of a call, all made since W. -/
structure At (W w : World) (Φ : Thing) : Prop where
  below : Below W.heap.size W w
  here : ∃ fp, Φ w fp ∧ ∀ k ∈ fp, W.heap.size ≤ k

theorem At.step {W w : World} {Φ R : Thing} (h : At W w (Both Φ R)) : ∃ fp, Φ w fp ∧ (∀ k ∈ fp, W.heap.size ≤ k) ∧ (Stable R → ∀ w' Φ', Left w fp Φ' w' → At W w' (Both Φ' R)) := by
  obtain ⟨hb, fp, ⟨f, g, h1, h2, h3, h4⟩, h5⟩ := h
  refine ⟨f, h1, fun k hk => h5 k ((h4 k).2 (.inl hk)), fun hR w' Φ' hl => ?_⟩
  obtain ⟨f', l1, l2, l3⟩ := hl
  have hgl := hR.lt _ _ h2
  refine ⟨hb.trans (l2.below hb.size fun k hk => h5 k ((h4 k).2 (.inl hk))), f' ++ g, ⟨f', g, l1, hR.same _ _ _ h2 fun k hk => l2.block k (hgl k hk) (fun hm => h3 k hm hk), fun k hk hg => ?_, fun k => List.mem_append⟩, fun k hk => ?_⟩
  · rcases l3 k hk with h6 | h6
    · exact h3 k h6 hg
    · have := hgl k hg; omega
  · rcases List.mem_append.1 hk with hk | hk
    · rcases l3 k hk with h6 | h6
      · exact h5 k ((h4 k).2 (.inl h6))
      · exact Nat.le_trans hb.size h6
    · exact h5 k ((h4 k).2 (.inr hk))
theorem At.calls {P : Program} {W w : World} {Φ Φ' R : Thing} {F : FuncId} {args : Array Value} {E : Ending → Prop} (h : At W w (Both Φ R)) (hR : Stable R)
    (hc : ∀ fp, Φ w fp → (∀ k ∈ fp, W.heap.size ≤ k) → Calls P F args w fun e w' => E e ∧ Left w fp Φ' w') : Calls P F args w fun e w' => E e ∧ At W w' (Both Φ' R) := by
  obtain ⟨fp, h1, h2, h3⟩ := h.step
  exact (hc fp h1 h2).mono fun e w' ⟨he, hl⟩ => ⟨he, h3 hR w' Φ' hl⟩

theorem Both.comm {Φ Ψ : Thing} {w : World} {fp : List Nat} (h : Both Φ Ψ w fp) : Both Ψ Φ w fp := by
  obtain ⟨f, g, h1, h2, h3, h4⟩ := h
  exact ⟨g, f, h2, h1, fun k hk hk' => h3 k hk' hk, fun k => by rw [h4 k]; exact Or.comm⟩
theorem Both.assoc {Φ Ψ X : Thing} {w : World} {fp : List Nat} (h : Both Φ (Both Ψ X) w fp) : Both Ψ (Both Φ X) w fp := by
  obtain ⟨f, g, h1, ⟨f2, g2, i1, i2, i3, i4⟩, h3, h4⟩ := h
  refine ⟨f2, f ++ g2, i1, ⟨f, g2, h1, i2, fun k hk hk' => h3 k hk ((i4 k).2 (.inr hk')), fun k => List.mem_append⟩, fun k hk hk' => ?_, fun k => ?_⟩
  · rcases List.mem_append.1 hk' with h5 | h5
    · exact h3 k h5 ((i4 k).2 (.inl hk))
    · exact i3 k hk h5
  · rw [h4 k, i4 k, List.mem_append]
    constructor
    · rintro (h | h | h)
      · exact .inr (.inl h)
      · exact .inl h
      · exact .inr (.inr h)
    · rintro (h | h | h)
      · exact .inr (.inl h)
      · exact .inl h
      · exact .inr (.inr h)
theorem At.swap {W w : World} {Φ Ψ X : Thing} (h : At W w (Both Φ (Both Ψ X))) : At W w (Both Ψ (Both Φ X)) := by
  obtain ⟨hb, fp, h1, h2⟩ := h
  exact ⟨hb, fp, h1.assoc, h2⟩
theorem At.comm {W w : World} {Φ Ψ : Thing} (h : At W w (Both Φ Ψ)) : At W w (Both Ψ Φ) := by
  obtain ⟨hb, fp, h1, h2⟩ := h
  exact ⟨hb, fp, h1.comm, h2⟩
/-- Nothing of it is touched. -/
theorem At.mono {W w w' : World} {Φ : Thing} (h : At W w Φ) (hs : Stable Φ) (hb : Below w.heap.size w w') : At W w' Φ := by
  obtain ⟨h0, fp, h1, h2⟩ := h
  exact ⟨h0.trans (hb.mono h0.size), fp, hs.same _ _ _ h1 fun k hk => hb.block k (hs.lt _ _ h1 k hk), h2⟩
theorem At.alloc {W w : World} {Φ : Thing} (h : At W w Φ) (hs : Stable Φ) (o : Obj) : At W (w.alloc o) Φ := h.mono hs ((Below.refl _ _).alloc (Nat.le_refl _) _)
theorem At.nought {W w : World} (hb : Below W.heap.size W w) : At W w Nought := ⟨hb, [], rfl, by simp⟩
theorem Stable.nought : Stable Nought := ⟨fun _ fp h => by cases h; simp, fun _ _ _ h _ => h⟩
/-- A thing more. -/
theorem At.add {W w w' : World} {Φ Ψ : Thing} {fp : List Nat} (h : At W w Ψ) (hs : Stable Ψ) (hb : Below w.heap.size w w') (hn : Φ w' fp) (hf : ∀ k ∈ fp, w.heap.size ≤ k) : At W w' (Both Φ Ψ) := by
  obtain ⟨h0, g, h1, h2⟩ := h
  have hg := hs.lt _ _ h1
  refine ⟨h0.trans (hb.mono h0.size), fp ++ g, ⟨fp, g, hn, hs.same _ _ _ h1 fun k hk => hb.block k (hg k hk), fun k hk hk' => ?_, fun k => List.mem_append⟩, fun k hk => ?_⟩
  · have := hf k hk; have := hg k hk'; omega
  · rcases List.mem_append.1 hk with h3 | h3
    · exact Nat.le_trans h0.size (hf k h3)
    · exact h2 k h3
/-- Less. -/
theorem At.drop {W w : World} {Φ Ψ : Thing} (h : At W w (Both Φ Ψ)) : At W w Ψ := by
  obtain ⟨h0, fp, ⟨f, g, _, h1, _, h4⟩, h2⟩ := h
  exact ⟨h0, g, h1, fun k hk => h2 k ((h4 k).2 (.inr hk))⟩
theorem At.keep {W w : World} {Φ Ψ : Thing} (h : At W w (Both Φ Ψ)) : At W w Φ := h.comm.drop
theorem Left.below {w w' : World} {fp : List Nat} {Φ : Thing} (hs : Stable Φ) (h : Φ w fp) (hb : Below w.heap.size w w') : Left w fp Φ w' :=
  ⟨fp, hs.same _ _ _ h fun k hk => hb.block k (hs.lt _ _ h k hk), Upd.of_below hb fp, fun _ hk => .inl hk⟩
theorem Both.mono {A Φ Ψ : Thing} (hi : ∀ w fp, Φ w fp → Ψ w fp) {w : World} {fp : List Nat} (h : Both A Φ w fp) : Both A Ψ w fp := by
  obtain ⟨f, g, h1, h2, h3, h4⟩ := h
  exact ⟨f, g, h1, hi _ _ h2, h3, h4⟩
/-- The third thing to the front. -/
theorem At.pull3 {W w : World} {A B C D : Thing} (h : At W w (Both A (Both B (Both C D)))) : At W w (Both C (Both A (Both B D))) := by
  obtain ⟨h0, fp, h1, h2⟩ := h
  exact ⟨h0, fp, (Both.mono (fun w fp h => h.assoc) h1).assoc, h2⟩
theorem At.impl {W w : World} {A B : Thing} (h : At W w A) (hi : ∀ fp, A w fp → B w fp) : At W w B := by
  obtain ⟨h0, fp, h1, h2⟩ := h
  exact ⟨h0, fp, hi fp h1, h2⟩
end

section
open Go.RowKit Go.BigFrame

end
end Go.Proofs.YtgeabmmicofanaaGreatDoor
namespace Go.Proofs.YtgeabmmicofanaaGreatDoor
section
open Go.RowKit Go.BigFrame

theorem below_dW (w : World) (n : Nat) : Below w.heap.size w (w.drewN n) := ⟨rfl, rfl, rfl, Nat.le_refl _, fun _ _ => rfl⟩

theorem field_push_run {P : Program} (t ty e : TypeId) (ht : P.underlying t = some (.slice e))
    {z : Value} {size bytes : Nat} (hinfo : (P.info? e).map (fun i => (i.zero, i.size, i.bytes)) = some (some z, size, bytes)) (hzs : z.cells.size = size) (hsz : 0 < size)
    {w : World} {b o : Nat} {cs : Array Value} {T : TypeId} (hb : w.heap[b]? = some (.cells cs T (0, 0))) {v : Value} (ho : cs[o]? = some v) (hT : T ≠ e)
    {n : Nat} {xs : List Value} (hown : w.ownsRow 0 e size v n xs) {C : Array Value} {m : Nat} (hC : C.size = m * size) (h1 : ∀ u ∈ C.toList, u.oneCell' = true) (hm : 0 < m)
    (h63 : n + m ≤ maxLen) (hbytes : (n + m) * bytes ≤ 140737488355328) :
    ∃ ao cap w2, (Builtin.append_ #[t, t] ty #[v, .slice (some ⟨w.heap.size, 0, none⟩) m m]).run P (w.alloc (.cells C e)) = .ok (.slice ao (n + m) cap) w2 ∧
      w2.cell? ⟨b, o, none⟩ = some v ∧ w2.frozen? ⟨b, o, none⟩ = false ∧ b < w2.heap.size ∧
      (w2.setCell ⟨b, o, none⟩ (.slice ao (n + m) cap)).heap[b]? = some (.cells (cs.setIfInBounds o (.slice ao (n + m) cap)) T (0, 0)) ∧
      (w2.setCell ⟨b, o, none⟩ (.slice ao (n + m) cap)).ownsRow 0 e size (.slice ao (n + m) cap) (n + m) (xs ++ C.toList) ∧
      Upd (b :: rowOf v) w (w2.setCell ⟨b, o, none⟩ (.slice ao (n + m) cap)) ∧ Grow w (b :: rowOf v) (b :: rowOf (.slice ao (n + m) cap)) := by
  obtain ⟨i0, hi, hz0, hz1, hz2⟩ := info_parts hinfo
  have hbs := lt_of_heap hb
  have hcells : ∀ j u, C.toList[j]? = some u → (w.alloc (.cells C e)).cell? ((⟨w.heap.size, 0, none⟩ : Addr).add j) = some u := by
    intro j u hu
    rw [show (⟨w.heap.size, 0, none⟩ : Addr).add j = ⟨w.heap.size, j, none⟩ from by unfold Addr.add; split <;> simp_all, World.cell?_alloc_at _ _ _ _ rfl]
    simpa using hu
  obtain ⟨v', w2, hr, hown2, hg, _⟩ := run_append_own (P := P) (w.alloc (.cells C e)) 0 t ty e i0 z size bytes ht hi hz0 hz1 hz2 hzs hsz v n xs (hown.alloc _) ⟨w.heap.size, 0, none⟩ m m C.toList (by simpa using hC) hcells h1 h63 hbytes (Nat.zero_le _)
  have hg' := World.grownBy.of_alloc hg
  have hnb : ∀ k, v.ownBlock = some k → k ≠ b := fun k hk e0 => by
    subst e0
    rcases hown.2 with ⟨rfl, _⟩ | ⟨g, cap, cur, rfl, _, hgg, _⟩
    · simp [Value.ownBlock] at hk
    · simp only [Value.ownBlock, Option.some.injEq] at hk
      subst hk
      have := hb.symm.trans hgg
      simp only [Option.some.injEq, Obj.cells.injEq] at this
      exact hT this.2.1
  have hb2 : w2.heap[b]? = some (.cells cs T (0, 0)) := by
    rw [hg'.block b hbs (fun e => hnb b e.symm rfl)]; exact hb
  have hne' : v'.ownBlock ≠ some b := by
    rcases hown2.2 with ⟨rfl, _⟩ | ⟨g, cap, cur, rfl, _, hgg, _⟩
    · simp [Value.ownBlock]
    · intro e0
      simp only [Value.ownBlock, Option.some.injEq] at e0
      subst e0
      have := hb2.symm.trans hgg
      simp only [Option.some.injEq, Obj.cells.injEq] at this
      exact hT this.2.1
  have hgrow : Grow w (b :: rowOf v) (b :: rowOf v') := by
    intro k hk
    rcases List.mem_cons.1 hk with rfl | hk
    · exact .inl (by simp)
    · rw [mem_rowOf] at hk
      rcases append_block (P := P) _ _ _ e i0 z size bytes ht hi hz0 hz1 hz2 hzs hsz (hown.alloc _) ⟨w.heap.size, 0, none⟩ m m C.toList (by simpa using hC) hcells h1 h63 hbytes hr k hk with h1 | h1
      · exact .inl (List.mem_cons_of_mem _ (mem_rowOf.2 h1))
      · exact .inr (by simp at h1; omega)
  obtain ⟨ao, cap, rfl⟩ : ∃ ao cap, v' = .slice ao (n + m) cap := by
    rcases hown2.2 with ⟨_, h0⟩ | ⟨g, cap, cur, hv, _⟩
    · omega
    · exact ⟨_, _, hv⟩
  refine ⟨ao, cap, w2, hr, by simp [World.cell?, hb2, ho], by simp [World.frozen?, hb2], lt_of_heap hb2, heap_setCell hb2 _, ?_, ?_, hgrow⟩
  · exact ownsRow_block hown2 fun k hk => Below.heap_setCell _ _ _ _ (fun e => hne' (by have e' : k = b := e; rw [← e']; exact hk))
  · exact ((Upd.refl _ w).grown hg' (fun k hk => .inl (List.mem_cons_of_mem _ (mem_rowOf.2 hk)))).setCell (.inl (by simp)) _
end

section
open Go.RowKit Go.BigFrame

/-- A row of the call's own. -/
def RowG (e : TypeId) (size : Nat) (v : Value) (n : Nat) (xs : List Value) : Thing := fun w fp => w.ownsRow 0 e size v n xs ∧ fp = rowOf v
theorem RowG.stable (e : TypeId) (size : Nat) (v : Value) (n : Nat) (xs : List Value) : Stable (RowG e size v n xs) :=
  ⟨fun w fp h k hk => by obtain ⟨h1, rfl⟩ := h; exact (h1.lt k (mem_rowOf.1 hk)).2, fun w w' fp h hs => by obtain ⟨h1, rfl⟩ := h; exact ⟨ownsRow_block h1 fun k hk => hs k (mem_rowOf.2 hk), rfl⟩⟩
theorem ownsRow_at0 {w : World} {B : Nat} {e : TypeId} {size : Nat} {v : Value} {n : Nat} {xs : List Value} (h : w.ownsRow B e size v n xs) : w.ownsRow 0 e size v n xs := by
  refine ⟨h.1, ?_⟩
  rcases h.2 with hn | ⟨g, cap, cur, rfl, hb, rest⟩
  · exact .inl hn
  · exact .inr ⟨g, cap, cur, rfl, Nat.zero_le _, rest⟩
theorem At.rowG {W w : World} {R : Thing} {e : TypeId} {size : Nat} {v : Value} {n : Nat} {xs : List Value} (h : At W w (Both (RowG e size v n xs) R)) : w.ownsRow 0 e size v n xs := by
  obtain ⟨_, fp, ⟨f, g, ⟨h1, rfl⟩, _⟩, _⟩ := h
  exact h1
theorem At.newRowG {W w w' : World} {Φ : Thing} {e : TypeId} {size : Nat} {v : Value} {n : Nat} {xs : List Value} (h : At W w Φ) (hs : Stable Φ) (hb : Below w.heap.size w w') (hr : w'.ownsRow w.heap.size e size v n xs) : At W w' (Both (RowG e size v n xs) Φ) :=
  h.add hs hb (fp := rowOf v) ⟨ownsRow_at0 hr, rfl⟩ (fun k hk => (hr.lt k (mem_rowOf.1 hk)).1)
theorem At.noRowG {W w : World} {Φ : Thing} (h : At W w Φ) (hs : Stable Φ) (e : TypeId) (size : Nat) : At W w (Both (RowG e size (.slice none 0 0) 0 []) Φ) :=
  h.newRowG hs (Below.refl _ _) (World.ownsRow_nil _ _ _ _)

/-- The row's old block: it is the new row's, or is as it was. -/
theorem append_old {P : Program} (w : World) (t ty e : TypeId) (i : TypeInfo) (z : Value) (size bytes : Nat) (ht : P.underlying t = some (.slice e)) (hi : P.info? e = some i) (hz : i.zero = some z)
    (hsize : i.size = size) (hby : i.bytes = bytes) (hzs : z.cells.size = size) (hsz : 0 < size)
    {base : Nat} {v : Value} {n : Nat} {xs : List Value} (hown : w.ownsRow base e size v n xs)
    (a : Addr) (m c : Nat) (news : List Value) (hl : news.length = m * size) (hnews : ∀ j u, news[j]? = some u → w.cell? (a.add j) = some u) (h1 : ∀ u ∈ news, u.oneCell' = true)
    (h63 : n + m ≤ maxLen) (hbytes : (n + m) * bytes ≤ 140737488355328) {v' : Value} {w' : World}
    (hr : (Builtin.append_ #[t, t] ty #[v, .slice (some a) m c]).run P w = .ok v' w') : ∀ k, v.ownBlock = some k → v'.ownBlock = some k ∨ w'.heap[k]? = w.heap[k]? := by
  intro k hk
  rcases hown.2 with ⟨rfl, rfl⟩ | ⟨g, cap, cur, rfl, hbg, hg, hnc, hcm, hcs, htake⟩
  · simp [Value.ownBlock] at hk
  · subst hsize
    subst hby
    by_cases hroom : n + m ≤ cap
    · have hfit : n * i.size + news.length ≤ cur.size := by rw [hl, hcs, ← Nat.add_mul]; exact Nat.mul_le_mul_right _ hroom
      rw [run_append_room (P := P) w t ty e i ht hi g n cap cur hg a m c news hl hnews h1 hroom hfit] at hr
      cases hr
      exact .inl hk
    · have holds : ∀ j u, xs[j]? = some u → w.cell? ((⟨g, 0, none⟩ : Addr).add j) = some u := hown.cells (g := g) rfl
      have hr2 := run_append_grow (P := P) w t ty e i z ht hi hz ⟨g, 0, none⟩ n cap xs hown.1 holds a m c news hl hnews (by omega) (by simp only [maxLen] at h63; omega) (growslice_fits (by omega) hbytes)
      rw [hr] at hr2
      cases hr2
      simp only [Value.ownBlock, Option.some.injEq] at hk
      exact .inr (heap_alloc_old w.drew _ (by simpa [← hk] using lt_of_heap hg))

theorem slit_cells (w : World) (C : Array Value) (e : TypeId) : ∀ j u, C.toList[j]? = some u → (w.alloc (.cells C e)).cell? ((⟨w.heap.size, 0, none⟩ : Addr).add j) = some u := by
  intro j u hu
  rw [show (⟨w.heap.size, 0, none⟩ : Addr).add j = ⟨w.heap.size, j, none⟩ from by unfold Addr.add; split <;> simp_all, World.cell?_alloc_at _ _ _ _ rfl]
  simpa using hu

section
variable {P : Program} {W w : World} {R : Thing}
/-- 'append(s, x, ..)' to a row of the call's own, the elements in a block laid just ahead. -/
theorem append_at_run (t ty e : TypeId) (ht : P.underlying t = some (.slice e)) {z : Value} {size bytes : Nat} (hinfo : (P.info? e).map (fun i => (i.zero, i.size, i.bytes)) = some (some z, size, bytes)) (hzs : z.cells.size = size) (hsz : 0 < size)
    {v : Value} {n : Nat} {xs : List Value} (hat : At W w (Both (RowG e size v n xs) R)) (hR : Stable R) {C : Array Value} {m c : Nat} (hC : C.size = m * size) (h1 : ∀ u ∈ C.toList, u.oneCell' = true)
    (h63 : n + m ≤ maxLen) (hbytes : (n + m) * bytes ≤ 140737488355328) :
    ∃ v' w', (Builtin.append_ #[t, t] ty #[v, .slice (some ⟨w.heap.size, 0, none⟩) m c]).run P (w.alloc (.cells C e)) = .ok v' w' ∧ At W w' (Both (RowG e size v' (n + m) (xs ++ C.toList)) R) ∧
      Upd (rowOf v) w w' ∧ (∀ k, v.ownBlock = some k → v'.ownBlock = some k ∨ w'.heap[k]? = w.heap[k]?) := by
  obtain ⟨i0, hi, hz0, hz1, hz2⟩ := info_parts hinfo
  have hown := hat.rowG
  obtain ⟨v', w', hr, h2, h3, _⟩ := run_append_own (P := P) (w.alloc (.cells C e)) 0 t ty e i0 z size bytes ht hi hz0 hz1 hz2 hzs hsz v n xs (hown.alloc _) ⟨w.heap.size, 0, none⟩ m c C.toList (by simpa using hC) (slit_cells w C e) h1 h63 hbytes (Nat.zero_le _)
  have hb := append_block (P := P) (w.alloc (.cells C e)) t ty e i0 z size bytes ht hi hz0 hz1 hz2 hzs hsz (hown.alloc _) ⟨w.heap.size, 0, none⟩ m c C.toList (by simpa using hC) (slit_cells w C e) h1 h63 hbytes hr
  have ho := append_old (P := P) (w.alloc (.cells C e)) t ty e i0 z size bytes ht hi hz0 hz1 hz2 hzs hsz (hown.alloc _) ⟨w.heap.size, 0, none⟩ m c C.toList (by simpa using hC) (slit_cells w C e) h1 h63 hbytes hr
  have hu : Upd (rowOf v) w w' := (Upd.refl _ w).grown (World.grownBy.of_alloc h3) (fun k hk => .inl (mem_rowOf.2 hk))
  obtain ⟨fp, g1, g2, g3⟩ := hat.step
  obtain ⟨_, rfl⟩ := g1
  refine ⟨v', w', hr, g3 hR w' _ ⟨rowOf v', ⟨h2, rfl⟩, hu, fun k hk => ?_⟩, hu, fun k hk => ?_⟩
  · rcases hb k (mem_rowOf.1 hk) with h4 | h4
    · exact .inl (mem_rowOf.2 h4)
    · exact .inr (by simp at h4; omega)
  · rcases ho k hk with h4 | h4
    · exact .inl h4
    · exact .inr (h4.trans (heap_alloc_old w _ ((hown.lt k hk).2)))
theorem wpList_append_at {ops : Array Oper} {rest : List Oper} {o : Oper} {a : Act} {Q : Exit → Act → World → Prop} (hgd : o.guard = none)
    (s x : Operand) (t e : TypeId) (ho : o.op = .call { callee := .builtin .append, args := #[s, x], argTypes := #[t, t] }) (ht : P.underlying t = some (.slice e))
    {z : Value} {size bytes : Nat} (hinfo : (P.info? e).map (fun i => (i.zero, i.size, i.bytes)) = some (some z, size, bytes)) (hzs : z.cells.size = size) (hsz : 0 < size)
    {v : Value} {n : Nat} {xs : List Value} (hs : a.eval s = v) (hat : At W w (Both (RowG e size v n xs) R)) (hR : Stable R)
    {C : Array Value} {m c : Nat} (hx : a.eval x = .slice (some ⟨w.heap.size, 0, none⟩) m c) (hC : C.size = m * size) (h1 : ∀ u ∈ C.toList, u.oneCell' = true)
    (h63 : n + m ≤ maxLen) (hbytes : (n + m) * bytes ≤ 140737488355328)
    (h : ∀ v' w', At W w' (Both (RowG e size v' (n + m) (xs ++ C.toList)) R) → Upd (rowOf v) w w' → (∀ k, v.ownBlock = some k → v'.ownBlock = some k ∨ w'.heap[k]? = w.heap[k]?) → wpList P ops Q rest (a.put o.dst v') w') :
    wpList P ops Q (o :: rest) a (w.alloc (.cells C e)) := by
  refine wpList_plain hgd fun K hK' => ?_
  obtain ⟨v', w', hr, h2, h3, h4⟩ := append_at_run t o.type e ht hinfo hzs hsz hat hR (c := c) hC h1 h63 hbytes
  unfold Oper.wp
  simp [execOp, ho, resolve, invoke, builtin, hs, hx, hr, Result.andThen]
  exact hK' _ _ (h v' w' h2 h3 h4)
end
theorem own_cut {w : World} {B : Nat} {e : TypeId} {size : Nat} {v : Value} {n : Nat} {xs : List Value} (h : w.ownsRow B e size v n xs) (hn : 0 < n) : ∃ g cap, v = .slice (some ⟨g, 0, none⟩) n cap ∧ B ≤ g ∧ n ≤ cap ∧ cap ≤ maxLen := by
  rcases h.2 with ⟨_, h0⟩ | ⟨g, cap, cur, hv, hb, _, h1, h2, _⟩
  · omega
  · exact ⟨g, cap, hv, hb, h1, h2⟩
theorem own_shape {w : World} {B : Nat} {e : TypeId} {size : Nat} {v : Value} {n : Nat} {xs : List Value} (h : w.ownsRow B e size v n xs) : ∃ ao cap, v = .slice ao n cap ∧ n ≤ cap ∧ cap ≤ maxLen := by
  rcases h.2 with ⟨rfl, rfl⟩ | ⟨g, cap, cur, hv, hb, _, h1, h2, _⟩
  · exact ⟨none, 0, rfl, Nat.le_refl _, by simp [maxLen]⟩
  · exact ⟨_, cap, hv, h1, h2⟩
end
end Go.Proofs.YtgeabmmicofanaaGreatDoor
