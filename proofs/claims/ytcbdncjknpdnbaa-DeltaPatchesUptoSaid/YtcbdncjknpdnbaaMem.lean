/- What a call may write: a list of blocks; all else is as it was. Over any program. -/
import Derived.Test.YtcbdncjknpdnbaaKit
import Derived.Lib.Hide
namespace Go.Proofs.Ytcbdncjknpdnbaa
open Go.RowKit Go.BigFrame

/-- Of the blocks that there were only those of fp may have turned. -/
structure Upd (fp : List Nat) (w w' : World) : Prop where
  os : w'.os = w.os
  tape : w'.tape = w.tape
  output : w'.output = w.output
  size : w.heap.size ≤ w'.heap.size
  block : ∀ k, k < w.heap.size → k ∉ fp → w'.heap[k]? = w.heap[k]?

/-- The blocks of fp' are of fp, or new since w. -/
def Grow (w : World) (fp fp' : List Nat) : Prop := ∀ k ∈ fp', k ∈ fp ∨ w.heap.size ≤ k

theorem Upd.refl (fp : List Nat) (w : World) : Upd fp w w := ⟨rfl, rfl, rfl, Nat.le_refl _, fun _ _ _ => rfl⟩
theorem Upd.trans {fp fp' : List Nat} {a b c : World} (h : Upd fp a b) (k : Upd fp' b c) (hg : Grow a fp fp') : Upd fp a c :=
  ⟨k.os.trans h.os, k.tape.trans h.tape, k.output.trans h.output, Nat.le_trans h.size k.size, fun i hi hn =>
    (k.block i (Nat.lt_of_lt_of_le hi h.size) (fun hm => (hg i hm).elim hn (fun h => by omega))).trans (h.block i hi hn)⟩
theorem Grow.refl (w : World) (fp : List Nat) : Grow w fp fp := fun _ h => .inl h
theorem Grow.trans {w w' : World} {a b c : List Nat} (h : Grow w a b) (k : Grow w' b c) (hs : w.heap.size ≤ w'.heap.size) : Grow w a c := fun i hi =>
  (k i hi).elim (h i) (fun h => .inr (by omega))
theorem Grow.nil (w : World) (fp : List Nat) : Grow w fp [] := fun _ h => by cases h
theorem Upd.mono {fp fp' : List Nat} {w w' : World} (h : Upd fp w w') (hs : ∀ k ∈ fp, k ∈ fp') : Upd fp' w w' :=
  ⟨h.os, h.tape, h.output, h.size, fun k hk hn => h.block k hk fun hm => hn (hs k hm)⟩
theorem Upd.of_below {w w' : World} (h : Below w.heap.size w w') (fp : List Nat) : Upd fp w w' := ⟨h.os, h.tape, h.output, h.size, fun k hk _ => h.block k hk⟩
theorem Upd.below {fp : List Nat} {w w' : World} (h : Upd fp w w') {B : Nat} (hB : B ≤ w.heap.size) (hf : ∀ k ∈ fp, B ≤ k) : Below B w w' :=
  ⟨h.os, h.tape, h.output, h.size, fun k hk => h.block k (by omega) fun hm => by have := hf k hm; omega⟩
theorem Upd.drew {fp : List Nat} {a w : World} (h : Upd fp a w) : Upd fp a w.drew := ⟨h.os, h.tape, h.output, h.size, h.block⟩
theorem Upd.drewN {fp : List Nat} {a w : World} (h : Upd fp a w) (n : Nat) : Upd fp a (w.drewN n) := ⟨h.os, h.tape, h.output, h.size, h.block⟩
theorem Upd.alloc {fp : List Nat} {a w : World} (h : Upd fp a w) (o : Obj) : Upd fp a (w.alloc o) :=
  ⟨h.os, h.tape, h.output, Nat.le_trans h.size (by simp), fun k hk hn => (heap_alloc_old w o (by have := h.size; omega)).trans (h.block k hk hn)⟩
theorem Upd.setCell {fp : List Nat} {a w : World} (h : Upd fp a w) {p : Addr} (hp : p.block ∈ fp ∨ a.heap.size ≤ p.block) (u : Value) : Upd fp a (w.setCell p u) :=
  ⟨h.os, h.tape, h.output, Nat.le_trans h.size (by simp [World.setCell]), fun k hk hn =>
    (Below.heap_setCell _ _ _ _ (fun e => by subst e; exact hp.elim hn (fun h => by omega))).trans (h.block k hk hn)⟩
theorem Upd.grown {fp : List Nat} {a w w' : World} {row : Option Nat} (h : Upd fp a w) (hg : w.grownBy w' row) (hr : ∀ k, row = some k → k ∈ fp ∨ a.heap.size ≤ k) : Upd fp a w' :=
  ⟨hg.os.trans h.os, hg.tape.trans h.tape, hg.output.trans h.output, Nat.le_trans h.size hg.size, fun k hk hn =>
    (hg.block k (by have := h.size; omega) (fun e => (hr k e.symm).elim hn (fun h => by omega))).trans (h.block k hk hn)⟩

theorem Upd.of_drew {fp : List Nat} {w w' : World} (h : Upd fp w.drew w') : Upd fp w w' := ⟨h.os, h.tape, h.output, h.size, h.block⟩
theorem Grow.head {w : World} {b : Nat} {r : List Nat} : Grow w (b :: r) [b] := fun k hk => .inl (by simp at hk; simp [hk])

/-- A store into a row. -/
theorem heap_setCell {w : World} {b o : Nat} {cs : Array Value} {T : TypeId} {fz : Nat × Nat} (h : w.heap[b]? = some (.cells cs T fz)) (v : Value) : (w.setCell ⟨b, o, none⟩ v).heap[b]? = some (.cells (cs.setIfInBounds o v) T fz) := by
  simp [World.setCell, Array.getElem?_modify, h]
theorem heap_drew (w : World) (k : Nat) : w.drew.heap[k]? = w.heap[k]? := rfl
theorem lt_of_heap {w : World} {k : Nat} {o : Obj} (h : w.heap[k]? = some o) : k < w.heap.size := (Array.getElem?_eq_some_iff.1 h).1

/-- A row that is owned depends on its own block alone. -/
theorem ownsRow_block {w w' : World} {B : Nat} {e : TypeId} {size : Nat} {v : Value} {n : Nat} {xs : List Value} (h : w.ownsRow B e size v n xs) (hb : ∀ k, v.ownBlock = some k → w'.heap[k]? = w.heap[k]?) : w'.ownsRow B e size v n xs := by
  refine ⟨h.1, ?_⟩
  rcases h.2 with hn | ⟨g, cap, cur, rfl, hB, hg, rest⟩
  · exact .inl hn
  · exact .inr ⟨g, cap, cur, rfl, hB, by rw [hb g rfl]; exact hg, rest⟩

/-- The blocks of a slice's row. -/
def rowOf (v : Value) : List Nat := v.ownBlock.toList
theorem mem_rowOf {v : Value} {k : Nat} : k ∈ rowOf v ↔ v.ownBlock = some k := by simp [rowOf]

/-- Behind an append the row is the one that it was, or a new one. -/
theorem append_block {P : Program} (w : World) (t ty e : TypeId) (i : TypeInfo) (z : Value) (size bytes : Nat) (ht : P.underlying t = some (.slice e)) (hi : P.info? e = some i) (hz : i.zero = some z)
    (hsize : i.size = size) (hby : i.bytes = bytes) (hzs : z.cells.size = size) (hsz : 0 < size)
    {base : Nat} {v : Value} {n : Nat} {xs : List Value} (hown : w.ownsRow base e size v n xs)
    (a : Addr) (m c : Nat) (news : List Value) (hl : news.length = m * size) (hnews : ∀ j u, news[j]? = some u → w.cell? (a.add j) = some u) (h1 : ∀ u ∈ news, u.oneCell' = true)
    (h63 : n + m ≤ maxLen) (hbytes : (n + m) * bytes ≤ 140737488355328) {v' : Value} {w' : World}
    (hr : (Builtin.append_ #[t, t] ty #[v, .slice (some a) m c]).run P w = .ok v' w') : ∀ k, v'.ownBlock = some k → v.ownBlock = some k ∨ w.heap.size ≤ k := by
  intro k hk
  rcases hown.2 with ⟨rfl, rfl⟩ | ⟨g, cap, cur, rfl, hbg, hg, hnc, hcm, hcs, htake⟩
  · have hx : xs = [] := List.eq_nil_of_length_eq_zero (by simpa using hown.1)
    subst hx
    obtain ⟨v2, w2, hr2, ho2, _⟩ := run_append_own (P := P) w w.heap.size t ty e i z size bytes ht hi hz hsize hby hzs hsz (.slice none 0 0) 0 [] (World.ownsRow_nil _ _ _ _) a m c news hl hnews h1 h63 hbytes (Nat.le_refl _)
    rw [hr] at hr2
    cases hr2
    exact .inr (ho2.lt k hk).1
  · subst hsize
    subst hby
    by_cases hroom : n + m ≤ cap
    · have hfit : n * i.size + news.length ≤ cur.size := by rw [hl, hcs, ← Nat.add_mul]; exact Nat.mul_le_mul_right _ hroom
      rw [run_append_room (P := P) w t ty e i ht hi g n cap cur hg a m c news hl hnews h1 hroom hfit] at hr
      cases hr
      exact .inl hk
    · have holds : ∀ j u, xs[j]? = some u → w.cell? ((⟨g, 0, none⟩ : Addr).add j) = some u := hown.cells (g := g) rfl
      have hr2 := run_append_grow (P := P) w t ty e i z ht hi hz ⟨g, 0, none⟩ n cap xs hown.1 holds a m c news hl hnews (by omega) (by simp only [maxLen] at h63; omega) (growslice_fits (by omega) hbytes)
      rw [hr] at hr2
      cases hr2
      simp only [Value.ownBlock, Option.some.injEq] at hk
      exact .inr (by rw [← hk]; exact Nat.le_refl _)

/-- An append whose run is known, as one step of a region that draws. -/
theorem step_append_run {P : Program} {ops : Array Oper} {o : Oper} {a : Act} {w : World} {K : Act → World → Prop} {Q : Exit → Act → World → Prop} {E : Prop}
    (hg : o.guard = none) (s x : Operand) (t : TypeId) (hop : o.op = Op.call { callee := Callee.builtin Builtin.append, args := #[s, x], argTypes := #[t, t] })
    (vs vx : Value) (hs : a.eval s = vs) (hx : a.eval x = vx) {v' : Value} {w' : World} (hrun : (Builtin.append_ #[t, t] o.type #[vs, vx]).run P w = .ok v' w')
    (hK : K (a.put o.dst v') w') : if Region.wanted o (yielded ops a.tmps) = true then Oper.wp P o a w K Q else E := by
  have hw : Region.wanted o (yielded ops a.tmps) = true := by simp [Region.wanted, hg]
  rw [if_pos hw]
  unfold Oper.wp
  simp [execOp, hop, resolve, invoke, builtin, hs, hx, hrun, Result.andThen]
  exact hK

theorem enters_fn {P : Program} {f : FuncId} {fn : Func} {c : Code} (hf : P.funcs[f]? = some fn) (hname : (fn.name == "runtime.NumGoroutine") = false) (hb : fn.body = some c) (args : Array Value) (w : World) : (callFunc f args).run P w = .ok (.enter f args) w := by
  have h1 : fn.name ≠ "runtime.NumGoroutine" := by simpa using hname
  simp [callFunc, hf, h1, hb, mark]

/-- A call of a named Go function, as one step of a region that draws. -/
theorem step_call_fn {P : Program} {ops : Array Oper} {o : Oper} {a : Act} {w : World} {K : Act → World → Prop} {Q : Exit → Act → World → Prop} {E : Prop}
    (hg : o.guard = none) (f : FuncId) (args : List Operand) (ats : Array TypeId) (hop : o.op = Op.call { callee := Callee.value (Operand.func f), args := args.toArray, argTypes := ats })
    (hent : ∀ xs w, (callFunc f xs).run P w = .ok (.enter f xs) w) (xs : List Value) (hxs : args.map a.eval = xs)
    (h : Calls P f xs.toArray w fun
      | .returned v, w'' => K (a.put o.dst v) w''
      | .panicked chain, w'' => Q (.panic chain) a w''
      | .outgrown, _ => LetsOut Q) : if Region.wanted o (yielded ops a.tmps) = true then Oper.wp P o a w K Q else E := by
  have hw : Region.wanted o (yielded ops a.tmps) = true := by simp [Region.wanted, hg]
  rw [if_pos hw]
  unfold Oper.wp
  subst hxs
  have hrun : (execOp a.eval o).run P w = .ok (.enter f (args.map a.eval).toArray) w := by
    simp [execOp, hop, resolve, invoke, eval_func, Deferred.ofValue, hent]
  rw [hrun]
  exact h

/-- 'clear' whose run is known. -/
theorem wpList_clear {P : Program} {w : World} {ops : Array Oper} {rest : List Oper} {o : Oper} {a : Act} {Q : Exit → Act → World → Prop} (hgd : o.guard = none)
    (x : Operand) (t : TypeId) (ho : o.op = .call { callee := .builtin .clear, args := #[x], argTypes := #[t] }) (v : Value) (hx : a.eval x = v) {r : Value} {w' : World}
    (hrun : (Builtin.clear_ #[t] o.type #[v]).run P w = .ok r w') (hK : wpList P ops Q rest (a.put o.dst r) w') : wpList P ops Q (o :: rest) a w := by
  refine wpList_plain hgd fun K hK' => ?_
  unfold Oper.wp
  simp [execOp, ho, resolve, invoke, builtin, hx, hrun, Result.andThen]
  exact hK' _ _ hK

end Go.Proofs.Ytcbdncjknpdnbaa
