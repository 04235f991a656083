/- Things in memory side by side: a thing is a claim on a world and the blocks that it stands on. · A call in a region that draws, under a guard that holds. -/
import Derived.Test.YtcbdncjknpdnbaaMem
namespace Go.Proofs.Ytcbdncjknpdnbaa
section
open Go.RowKit

/-- A thing in memory: of a world and the blocks that it stands on. -/
abbrev Thing := World → List Nat → Prop
/-- Its blocks are there, and it hangs on nothing else. -/
structure Stable (Φ : Thing) : Prop where
  lt : ∀ w fp, Φ w fp → ∀ k ∈ fp, k < w.heap.size
  same : ∀ w w' fp, Φ w fp → (∀ k ∈ fp, w'.heap[k]? = w.heap[k]?) → Φ w' fp
/-- Two things on blocks of their own. -/
def Both (Φ Ψ : Thing) : Thing := fun w fp => ∃ f g, Φ w f ∧ Ψ w g ∧ (∀ k ∈ f, k ∉ g) ∧ ∀ k, k ∈ fp ↔ k ∈ f ∨ k ∈ g
def Nought : Thing := fun _ fp => fp = []
theorem Stable.both {Φ Ψ : Thing} (h : Stable Φ) (h' : Stable Ψ) : Stable (Both Φ Ψ) := by
  refine ⟨fun w fp hp k hk => ?_, fun w w' fp hp hs => ?_⟩
  · obtain ⟨f, g, h1, h2, _, h4⟩ := hp
    rcases (h4 k).1 hk with h5 | h5
    · exact h.lt _ _ h1 k h5
    · exact h'.lt _ _ h2 k h5
  · obtain ⟨f, g, h1, h2, h3, h4⟩ := hp
    exact ⟨f, g, h.same _ _ _ h1 fun k hk => hs k ((h4 k).2 (.inl hk)), h'.same _ _ _ h2 fun k hk => hs k ((h4 k).2 (.inr hk)), h3, h4⟩

/-- What a step leaves: the thing turned, nothing else touched, new blocks at most. -/
def Left (w : World) (fp : List Nat) (Φ : Thing) (w' : World) : Prop := ∃ fp', Φ w' fp' ∧ Upd fp w w' ∧ ∀ k ∈ fp', k ∈ fp ∨ w.heap.size ≤ k
/-- The things of a call, all made since W. -/
structure At (W w : World) (Φ : Thing) : Prop where
  below : Below W.heap.size W w
  here : ∃ fp, Φ w fp ∧ ∀ k ∈ fp, W.heap.size ≤ k

theorem At.step {W w : World} {Φ R : Thing} (h : At W w (Both Φ R)) : ∃ fp, Φ w fp ∧ (∀ k ∈ fp, W.heap.size ≤ k) ∧ (Stable R → ∀ w' Φ', Left w fp Φ' w' → At W w' (Both Φ' R)) := by
  obtain ⟨hb, fp, ⟨f, g, h1, h2, h3, h4⟩, h5⟩ := h
  refine ⟨f, h1, fun k hk => h5 k ((h4 k).2 (.inl hk)), fun hR w' Φ' hl => ?_⟩
  obtain ⟨f', l1, l2, l3⟩ := hl
  have hgl := hR.lt _ _ h2
  refine ⟨hb.trans (l2.below hb.size fun k hk => h5 k ((h4 k).2 (.inl hk))), f' ++ g, ⟨f', g, l1, hR.same _ _ _ h2 fun k hk => l2.block k (hgl k hk) (fun hm => h3 k hm hk), fun k hk hg => ?_, fun k => List.mem_append⟩, fun k hk => ?_⟩
  · rcases l3 k hk with h6 | h6
    · exact h3 k h6 hg
    · have := hgl k hg; omega
  · rcases List.mem_append.1 hk with hk | hk
    · rcases l3 k hk with h6 | h6
      · exact h5 k ((h4 k).2 (.inl h6))
      · exact Nat.le_trans hb.size h6
    · exact h5 k ((h4 k).2 (.inr hk))
theorem At.calls {P : Program} {W w : World} {Φ Φ' R : Thing} {F : FuncId} {args : Array Value} {E : Ending → Prop} (h : At W w (Both Φ R)) (hR : Stable R)
    (hc : ∀ fp, Φ w fp → (∀ k ∈ fp, W.heap.size ≤ k) → Calls P F args w fun e w' => E e ∧ Left w fp Φ' w') : Calls P F args w fun e w' => E e ∧ At W w' (Both Φ' R) := by
  obtain ⟨fp, h1, h2, h3⟩ := h.step
  exact (hc fp h1 h2).mono fun e w' ⟨he, hl⟩ => ⟨he, h3 hR w' Φ' hl⟩

theorem Both.comm {Φ Ψ : Thing} {w : World} {fp : List Nat} (h : Both Φ Ψ w fp) : Both Ψ Φ w fp := by
  obtain ⟨f, g, h1, h2, h3, h4⟩ := h
  exact ⟨g, f, h2, h1, fun k hk hk' => h3 k hk' hk, fun k => by rw [h4 k]; exact Or.comm⟩
theorem Both.assoc {Φ Ψ X : Thing} {w : World} {fp : List Nat} (h : Both Φ (Both Ψ X) w fp) : Both Ψ (Both Φ X) w fp := by
  obtain ⟨f, g, h1, ⟨f2, g2, i1, i2, i3, i4⟩, h3, h4⟩ := h
  refine ⟨f2, f ++ g2, i1, ⟨f, g2, h1, i2, fun k hk hk' => h3 k hk ((i4 k).2 (.inr hk')), fun k => List.mem_append⟩, fun k hk hk' => ?_, fun k => ?_⟩
  · rcases List.mem_append.1 hk' with h5 | h5
    · exact h3 k h5 ((i4 k).2 (.inl hk))
    · exact i3 k hk h5
  · rw [h4 k, i4 k, List.mem_append]
    constructor
    · rintro (h | h | h)
      · exact .inr (.inl h)
      · exact .inl h
      · exact .inr (.inr h)
    · rintro (h | h | h)
      · exact .inr (.inl h)
      · exact .inl h
      · exact .inr (.inr h)
theorem At.swap {W w : World} {Φ Ψ X : Thing} (h : At W w (Both Φ (Both Ψ X))) : At W w (Both Ψ (Both Φ X)) := by
  obtain ⟨hb, fp, h1, h2⟩ := h
  exact ⟨hb, fp, h1.assoc, h2⟩
theorem At.comm {W w : World} {Φ Ψ : Thing} (h : At W w (Both Φ Ψ)) : At W w (Both Ψ Φ) := by
  obtain ⟨hb, fp, h1, h2⟩ := h
  exact ⟨hb, fp, h1.comm, h2⟩
/-- Nothing of it is touched. -/
theorem At.mono {W w w' : World} {Φ : Thing} (h : At W w Φ) (hs : Stable Φ) (hb : Below w.heap.size w w') : At W w' Φ := by
  obtain ⟨h0, fp, h1, h2⟩ := h
  exact ⟨h0.trans (hb.mono h0.size), fp, hs.same _ _ _ h1 fun k hk => hb.block k (hs.lt _ _ h1 k hk), h2⟩
theorem At.alloc {W w : World} {Φ : Thing} (h : At W w Φ) (hs : Stable Φ) (o : Obj) : At W (w.alloc o) Φ := h.mono hs ((Below.refl _ _).alloc (Nat.le_refl _) _)
theorem At.nought {W w : World} (hb : Below W.heap.size W w) : At W w Nought := ⟨hb, [], rfl, by simp⟩
theorem Stable.nought : Stable Nought := ⟨fun _ fp h => by cases h; simp, fun _ _ _ h _ => h⟩
/-- A thing more. -/
theorem At.add {W w w' : World} {Φ Ψ : Thing} {fp : List Nat} (h : At W w Ψ) (hs : Stable Ψ) (hb : Below w.heap.size w w') (hn : Φ w' fp) (hf : ∀ k ∈ fp, w.heap.size ≤ k) : At W w' (Both Φ Ψ) := by
  obtain ⟨h0, g, h1, h2⟩ := h
  have hg := hs.lt _ _ h1
  refine ⟨h0.trans (hb.mono h0.size), fp ++ g, ⟨fp, g, hn, hs.same _ _ _ h1 fun k hk => hb.block k (hg k hk), fun k hk hk' => ?_, fun k => List.mem_append⟩, fun k hk => ?_⟩
  · have := hf k hk; have := hg k hk'; omega
  · rcases List.mem_append.1 hk with h3 | h3
    · exact Nat.le_trans h0.size (hf k h3)
    · exact h2 k h3
/-- Less. -/
theorem At.drop {W w : World} {Φ Ψ : Thing} (h : At W w (Both Φ Ψ)) : At W w Ψ := by
  obtain ⟨h0, fp, ⟨f, g, _, h1, _, h4⟩, h2⟩ := h
  exact ⟨h0, g, h1, fun k hk => h2 k ((h4 k).2 (.inr hk))⟩
theorem At.keep {W w : World} {Φ Ψ : Thing} (h : At W w (Both Φ Ψ)) : At W w Φ := h.comm.drop
theorem Left.below {w w' : World} {fp : List Nat} {Φ : Thing} (hs : Stable Φ) (h : Φ w fp) (hb : Below w.heap.size w w') : Left w fp Φ w' :=
  ⟨fp, hs.same _ _ _ h fun k hk => hb.block k (hs.lt _ _ h k hk), Upd.of_below hb fp, fun _ hk => .inl hk⟩
theorem Both.mono {A Φ Ψ : Thing} (hi : ∀ w fp, Φ w fp → Ψ w fp) {w : World} {fp : List Nat} (h : Both A Φ w fp) : Both A Ψ w fp := by
  obtain ⟨f, g, h1, h2, h3, h4⟩ := h
  exact ⟨f, g, h1, hi _ _ h2, h3, h4⟩
theorem At.third {W w : World} {Φ A B C R : Thing} (h : At W w (Both Φ (Both A (Both B (Both C R))))) : At W w (Both A (Both B (Both C (Both Φ R)))) := by
  obtain ⟨h0, fp, h1, h2⟩ := h
  exact ⟨h0, fp, Both.mono (fun w fp h => Both.mono (fun w fp h => h.assoc) h.assoc) h1.assoc, h2⟩
/-- The third thing to the front. -/
theorem At.pull3 {W w : World} {A B C D : Thing} (h : At W w (Both A (Both B (Both C D)))) : At W w (Both C (Both A (Both B D))) := by
  obtain ⟨h0, fp, h1, h2⟩ := h
  exact ⟨h0, fp, (Both.mono (fun w fp h => h.assoc) h1).assoc, h2⟩
theorem At.impl {W w : World} {A B : Thing} (h : At W w A) (hi : ∀ fp, A w fp → B w fp) : At W w B := by
  obtain ⟨h0, fp, h1, h2⟩ := h
  exact ⟨h0, fp, hi fp h1, h2⟩
end

section
open Go.RowKit Go.BigFrame

theorem step_call_fnG {P : Program} {ops : Array Oper} {o : Oper} {a : Act} {w : World} {K : Act → World → Prop} {Q : Exit → Act → World → Prop} {E : Prop}
    (hw : Region.wanted o (yielded ops a.tmps) = true) (f : FuncId) (args : List Operand) (ats : Array TypeId) (hop : o.op = Op.call { callee := Callee.value (Operand.func f), args := args.toArray, argTypes := ats })
    (hent : ∀ xs w, (callFunc f xs).run P w = .ok (.enter f xs) w) (xs : List Value) (hxs : args.map a.eval = xs)
    (h : Calls P f xs.toArray w fun
      | .returned v, w'' => K (a.put o.dst v) w''
      | .panicked chain, w'' => Q (.panic chain) a w''
      | .outgrown, _ => LetsOut Q) : if Region.wanted o (yielded ops a.tmps) = true then Oper.wp P o a w K Q else E := by
  rw [if_pos hw]
  unfold Oper.wp
  subst hxs
  have hrun : (execOp a.eval o).run P w = .ok (.enter f (args.map a.eval).toArray) w := by
    simp [execOp, hop, resolve, invoke, eval_func, Deferred.ofValue, hent]
  rw [hrun]
  exact h
theorem Both.pull8 {A B C D E F G H I : Thing} {w : World} {fp : List Nat} (h : Both A (Both B (Both C (Both D (Both E (Both F (Both G (Both H I))))))) w fp) : Both H (Both A (Both B (Both C (Both D (Both E (Both F (Both G I))))))) w fp := by
  refine Both.assoc (Both.mono (fun _ _ h => ?_) h)
  refine Both.assoc (Both.mono (fun _ _ h => ?_) h)
  refine Both.assoc (Both.mono (fun _ _ h => ?_) h)
  refine Both.assoc (Both.mono (fun _ _ h => ?_) h)
  refine Both.assoc (Both.mono (fun _ _ h => ?_) h)
  refine Both.assoc (Both.mono (fun _ _ h => ?_) h)
  exact h.assoc
theorem At.pull8 {W w : World} {A B C D E F G H I : Thing} (h : At W w (Both A (Both B (Both C (Both D (Both E (Both F (Both G (Both H I))))))))) : At W w (Both H (Both A (Both B (Both C (Both D (Both E (Both F (Both G I)))))))) := h.impl fun _ q => q.pull8
end
end Go.Proofs.Ytcbdncjknpdnbaa
