/- A range over a function, for things side by side: the contract of an iterator, and the law of the statement. · Things side by side in any order. -/
import Derived.Test.YtgeabmmicofanaaGreatDoorBuSpLaw04
import Derived.Test.YtgeabmmicofanaaGreatDoorBuSpLaw01
import Derived.Test.YtgeabmmicofanaaGreatDoorProg
import Derived.RangeFuncNested
import Derived.RangeFuncCalls
import Derived.RangeFuncLeaves
import Derived.OwnWalkIn
set_option linter.unusedSimpArgs false
set_option linter.unusedVariables false
namespace Go.Proofs.YtgeabmmicofanaaGreatDoor
open Go.RowKit

theorem Both.toL {A B C : Thing} {w : World} {fp : List Nat} (h : Both A (Both B C) w fp) : Both (Both A B) C w fp := by
  obtain ⟨f, g, h1, ⟨p, q, h5, h6, h7, h8⟩, h3, h4⟩ := h
  refine ⟨f ++ p, q, ⟨f, p, h1, h5, fun k hk hk' => h3 k hk ((h8 k).2 (.inl hk')), fun k => List.mem_append⟩, h6, fun k hk hk' => ?_, fun k => ?_⟩
  · rcases List.mem_append.1 hk with h9 | h9
    · exact h3 k h9 ((h8 k).2 (.inr hk'))
    · exact h7 k h9 hk'
  · rw [h4 k, h8 k, List.mem_append]
    constructor
    · rintro (h | h | h)
      · exact .inl (.inl h)
      · exact .inl (.inr h)
      · exact .inr h
    · rintro ((h | h) | h)
      · exact .inl h
      · exact .inr (.inl h)
      · exact .inr (.inr h)
theorem Both.toR {A B C : Thing} {w : World} {fp : List Nat} (h : Both (Both A B) C w fp) : Both A (Both B C) w fp := by
  obtain ⟨f, g, ⟨p, q, h5, h6, h7, h8⟩, h2, h3, h4⟩ := h
  refine ⟨p, q ++ g, h5, ⟨q, g, h6, h2, fun k hk hk' => h3 k ((h8 k).2 (.inr hk)) hk', fun k => List.mem_append⟩, fun k hk hk' => ?_, fun k => ?_⟩
  · rcases List.mem_append.1 hk' with h9 | h9
    · exact h7 k hk h9
    · exact h3 k ((h8 k).2 (.inl hk)) h9
  · rw [h4 k, h8 k, List.mem_append]
    constructor
    · rintro ((h | h) | h)
      · exact .inl h
      · exact .inr (.inl h)
      · exact .inr (.inr h)
    · rintro (h | h | h)
      · exact .inl (.inl h)
      · exact .inl (.inr h)
      · exact .inr h
/-- One block that holds just this. -/
def ObjT (k : Nat) (o : Obj) : Thing := fun w fp => w.heap[k]? = some o ∧ fp = [k]
theorem ObjT.stable (k : Nat) (o : Obj) : Stable (ObjT k o) :=
  ⟨fun w fp h j hj => by obtain ⟨h1, rfl⟩ := h; simp at hj; subst hj; exact lt_of_heap h1,
   fun w w' fp h hs => by obtain ⟨h1, rfl⟩ := h; exact ⟨(hs k (by simp)).trans h1, rfl⟩⟩
section
variable {W w : World} {R Φ : Thing} {k : Nat} {o : Obj}
theorem At.obj (h : At W w (Both (ObjT k o) R)) : w.heap[k]? = some o ∧ W.heap.size ≤ k := by
  obtain ⟨hb, fp, ⟨f, g, ⟨h1, rfl⟩, h2, h3, h4⟩, h5⟩ := h
  exact ⟨h1, h5 k ((h4 k).2 (.inl (by simp)))⟩
theorem At.putObj (h : At W w (Both (ObjT k o) R)) (hR : Stable R) (o' : Obj) : At W (w.putObj k o') (Both (ObjT k o') R) := by
  obtain ⟨fp, ⟨h1, rfl⟩, h2, h3⟩ := h.step
  have hl := lt_of_heap h1
  refine h3 hR _ _ ⟨[k], ⟨World.putObj_heap_same hl, rfl⟩, ⟨rfl, rfl, rfl, by simp, fun j hj hn => World.putObj_heap_other (by simpa using hn)⟩, fun j hj => .inl hj⟩
theorem At.newObj (h : At W w Φ) (hs : Stable Φ) (o : Obj) : At W (w.alloc o) (Both (ObjT w.heap.size o) Φ) :=
  h.add hs ((Below.refl _ _).alloc (Nat.le_refl _) _) (fp := [w.heap.size]) ⟨World.alloc_heap_new w o, rfl⟩ (by simp)
end

/-- What an iterator (function gf, with what it has captured) gives: the list L, an entry a round; Φ, the memory that it reads, is at the rounds' hand too. -/
def Seqs (P : Program) {α : Type} (enc : α → Array Value) (gf : Nat) (lb : Array Value) (L : List α) (W : World) (Φ : Thing) : Prop :=
  ∀ (l : Nat) (J Jx : List α → Thing), (∀ p, Stable (J p)) → (∀ p, Stable (Jx p)) →
    (∀ pre x, pre ++ [x] <+: L → ∀ w R, Stable R → At W w (Both (J pre) (Both Φ R)) → YieldAt Fence.wide 0 P l (enc x) w fun e w' =>
      (e = .returned (.bool true) ∧ At W w' (Both (J (pre ++ [x])) (Both Φ R))) ∨ (e = .returned (.bool false) ∧ At W w' (Both (Jx (pre ++ [x])) (Both Φ R)))) →
    ∀ w R, Stable R → At W w (Both (J []) (Both Φ R)) → Calls P gf (#[.func (.yield l) #[] #[]] ++ lb) w fun e w' => (∃ v, e = .returned v) ∧
      (At W w' (Both (J L) (Both Φ R)) ∨ ∃ pre, pre <+: L ∧ At W w' (Both (Jx pre) (Both Φ R)))

/-- How a round is left. -/
def rndPost {α : Type} (W : World) (I : List α → Thing) (Ix : Code → List α → Thing) (xs : List α) (Ψ : Thing) : Exit → Act → World → Prop
  | .normal, _, w' => At W w' (Both (I xs) Ψ)
  | .ret, _, w' => At W w' (Both (Ix .ret xs) Ψ)
  | .exit id, _, w' => At W w' (Both (Ix (.exit id) xs) Ψ)
  | .goto t, _, w' => At W w' (Both (Ix (.goto t) xs) Ψ)
  | .panic _, _, _ => False
  | .outgrown, _, _ => False
theorem Stable.ex {β : Type} {Φ : β → Thing} (h : ∀ b, Stable (Φ b)) : Stable (fun w fp => ∃ b, Φ b w fp) :=
  ⟨fun w fp ⟨b, q⟩ => (h b).lt w fp q, fun w w' fp ⟨b, q⟩ hs => ⟨b, (h b).same w w' fp q hs⟩⟩
theorem At.ex {β : Type} {Φ : β → Thing} {R : Thing} {W w : World} (h : At W w (Both (fun w fp => ∃ b, Φ b w fp) R)) : ∃ b, At W w (Both (Φ b) R) := by
  obtain ⟨hb, fp, ⟨f, g, ⟨b, h1⟩, h2⟩, h3⟩ := h
  exact ⟨b, hb, fp, ⟨f, g, h1, h2⟩, h3⟩
theorem At.intoEx {β : Type} {Φ : β → Thing} {R : Thing} {W w : World} (b : β) (h : At W w (Both (Φ b) R)) : At W w (Both (fun w fp => ∃ b, Φ b w fp) R) :=
  h.impl fun _ ⟨f, g, h1, h2⟩ => ⟨f, g, ⟨b, h1⟩, h2⟩

abbrev mark1 (D : Nat) (a : Act) : Act := { a with defers := { target := .collected D, args := #[] } :: a.defers }
abbrev foldTmps (ps : Array Tmp) (vs : Array Value) (tmps : Array Value) : Array Value := (ps.zip vs).foldl (fun t (p, v) => t.setIfInBounds p v) tmps
set_option maxHeartbeats 1000000 in
/-- 'for .. := range g { .. }'. -/
theorem range_at {P : Program} {α : Type} {enc : α → Array Value} {L : List α} {W w : World} {Φ R : Thing} {g : Operand} {ps : Array Tmp} {assign body : Code} {Q : Exit → Act → World → Prop} {a : Act} {gf : Nat} {lb : Array Value}
    (hseq : Seqs P enc gf lb L W Φ) (hg : a.eval g = .func (.func gf) #[] lb) (eg : ∀ args w, (callFunc gf args).run P w = .ok (.enter gf args) w) (hps : ∀ x, (enc x).size = ps.size)
    (hΦ : Stable Φ) (hR : Stable R) (I : List α → Thing) (hI : ∀ p, Stable (I p)) (Ix : Code → List α → Thing) (hIx : ∀ c p, Stable (Ix c p)) (Ax : List α → α → Act → Thing → Prop)
    (h0 : At W w (Both (I []) (Both Φ R)))
    (hassign : ∀ l pre x w1 Ψ, pre ++ [x] <+: L → Stable Ψ → At W w1 (Both (I pre) Ψ) →
      assign.wpIn (Fence.wide.inRound l) 0 P (Exit.then (fun a1 w2 => ∃ X, Stable X ∧ Ax pre x a1 X ∧ At W w2 (Both X Ψ)) (fun _ _ _ => False)) { tmps := foldTmps ps (enc x) a.tmps, defers := [] } w1)
    (hbody : ∀ l pre x w1 R1 a1 X, pre ++ [x] <+: L → Stable R1 → Stable X → Ax pre x a1 X → At W w1 (Both X (Both Φ R1)) →
      body.wpIn (Fence.wide.inRound l) 0 P (rndPost W I Ix (pre ++ [x]) (Both Φ R1)) a1 w1)
    (hdone : ∀ D w1, At W w1 (Both (I L) (Both Φ (Both (ObjT D (.deferred (some []))) R))) → Q .normal (mark1 D a) w1)
    (hstop : ∀ D c pre w1, pre <+: L → At W w1 (Both (Ix c pre) (Both Φ (Both (ObjT D (.deferred (some []))) R))) → c.wp P Q (mark1 D a) w1) :
    (Code.rangeFunc g ps assign body).wp P Q a w := by
  refine wpIn_wide (n := 0).1 (wpIn_rangeFunc ?_)
  intro fn hfn
  obtain ⟨rec, hrec⟩ : ∃ rec : LoopState → Option Code → Loop, rec = fun st pe => { state := st, pending := pe, fn, tmps := a.tmps, params := ps, assign, body, defers := w.heap.size } := ⟨_, rfl⟩
  have hIs := (hI []).both (hΦ.both hR)
  have hd := h0.newObj hIs (.deferred (some []))
  have hl := hd.newObj ((ObjT.stable _ _).both hIs) (.loop (rec .ready none))
  rw [show (w.alloc (.deferred (some []))).heap.size = w.heap.size + 1 from by simp] at hl
  obtain ⟨W1, hW1⟩ : ∃ W1, (w.alloc (.deferred (some []))).alloc (.loop (rec .ready none)) = W1 := ⟨_, rfl⟩
  rw [hW1] at hl
  refine ⟨w.heap.size + 1, [{ target := .collected w.heap.size, args := #[] }], W1, { target := .fn (.func gf) lb, args := #[.func (.yield (w.heap.size + 1)) #[] #[]] }, W1, gf,
    #[.func (.yield (w.heap.size + 1)) #[] #[]] ++ lb, W1, ?_, ?_, fun _ _ => trivial, ?_, fun h => by simp [Fence.wide] at h, ?_⟩
  · rw [← hW1, hrec]; exact run_enterLoop_outer _ _ _ _ _
  · simp only [resolve, hg]
    simp [go_sem]
  · simp [invoke, go_sem, eg]
  · generalize hD : w.heap.size = D at *
    obtain ⟨LT, hLT⟩ : ∃ LT : Thing, ObjT D (.deferred (some [])) = LT := ⟨_, rfl⟩
    have hLTs : Stable LT := by rw [← hLT]; exact ObjT.stable _ _
    rw [hLT] at hl
    have hJs : ∀ p, Stable (Both (ObjT (D + 1) (.loop (rec .ready none))) (I p)) := fun p => (ObjT.stable _ _).both (hI p)
    have hJxs : ∀ p, Stable (fun w fp => ∃ c, Both (ObjT (D + 1) (.loop (rec .done (some c)))) (Ix c p) w fp) := fun p => Stable.ex fun c => (ObjT.stable _ _).both (hIx c p)
    refine callsIn_wide.2 ((hseq (D + 1) (fun p => Both (ObjT (D + 1) (.loop (rec .ready none))) (I p)) (fun p w fp => ∃ c, Both (ObjT (D + 1) (.loop (rec .done (some c)))) (Ix c p) w fp) hJs hJxs ?_ W1 (Both LT R) (hLTs.both hR) ?_).mono ?_)
    · -- one round
      intro pre x hpre w1 R1 hR1 h1
      have h1a : At W w1 (Both (ObjT (D + 1) (.loop (rec .ready none))) (Both (I pre) (Both Φ R1))) := h1.impl fun _ q => Both.toR q
      have ho := h1a.obj.1
      have hy := run_yield (P := P) (args := enc x) ho (by rw [hrec]; exact hps x)
      rw [hrec] at hy
      refine ⟨fn, _, assign, body, hy, roundIn_of_wpIn trivial ?_⟩
      refine wpIn_mono (hassign _ pre x w1 _ hpre ((ObjT.stable _ _).both (hΦ.both hR1)) h1a.swap) ?_
      rintro e a1 w2 hp
      cases e with
      | normal =>
        obtain ⟨X, hX, hax, h2⟩ := hp
        have h2a := h2.swap
        refine ⟨_, run_beginRound h2a.obj.1 (by rw [hrec]), ?_⟩
        have h3 := h2a.putObj (hX.both (hΦ.both hR1)) (.loop { rec .ready none with state := .busy })
        refine wpIn_mono (hbody _ pre x _ (Both (ObjT (D + 1) (.loop { rec .ready none with state := .busy })) R1) a1 X hpre ((ObjT.stable _ _).both hR1) hX hax (h3.push3)) ?_
        have fin : ∀ (jump : Option Code) (Y : Thing) (_ : Stable Y) (w3 : World), At W w3 (Both Y (Both Φ (Both (ObjT (D + 1) (.loop { rec .ready none with state := .busy })) R1))) →
            (Instr.endRound (D + 1) jump).run P w3 = .ok (.bool jump.isNone) (w3.putObj (D + 1) (.loop (rec (if jump.isNone then .ready else .done) jump))) ∧
            At W (w3.putObj (D + 1) (.loop (rec (if jump.isNone then .ready else .done) jump))) (Both (Both (ObjT (D + 1) (.loop (rec (if jump.isNone then .ready else .done) jump))) Y) (Both Φ R1)) := fun jump Y hY w3 h4 => by
          have h5 := h4.pull3
          have := run_endRound (P := P) jump h5.obj.1
          rw [hrec] at this h5 ⊢
          exact ⟨this, (h5.putObj (hY.both (hΦ.both hR1)) _).impl fun _ q => Both.toL q⟩
        rintro e a3 w3 hp
        cases e with
        | normal =>
          obtain ⟨hr, h6⟩ := fin none _ (hI _) w3 hp
          exact ⟨_, _, hr, .inl ⟨rfl, h6⟩⟩
        | ret =>
          obtain ⟨hr, h6⟩ := fin (some .ret) _ (hIx _ _) w3 hp
          exact ⟨_, _, hr, .inr ⟨rfl, At.intoEx Code.ret h6⟩⟩
        | exit id =>
          obtain ⟨hr, h6⟩ := fin (some (.exit id)) _ (hIx _ _) w3 hp
          exact ⟨_, _, hr, .inr ⟨rfl, At.intoEx (Code.exit id) h6⟩⟩
        | goto t =>
          obtain ⟨hr, h6⟩ := fin (some (.goto t)) _ (hIx _ _) w3 hp
          exact ⟨_, _, hr, .inr ⟨rfl, At.intoEx (Code.goto t) h6⟩⟩
        | panic ch => exact hp.elim
        | outgrown => exact hp.elim
      | ret => exact hp.elim
      | exit id => exact hp.elim
      | goto t => exact hp.elim
      | panic ch => exact hp.elim
      | outgrown => exact hp.elim
    · exact (hl.impl fun _ q => Both.mono (fun _ _ q => Both.mono (fun _ _ q => Both.assoc q) (Both.assoc q)) q).impl fun _ q => Both.toL q
    · rintro e w2 ⟨⟨v, rfl⟩, (h7 | ⟨pre, hpre, h7⟩)⟩
      · have h8 : At W w2 (Both (ObjT (D + 1) (.loop (rec .ready none))) (Both (I L) (Both Φ (Both LT R)))) := h7.impl fun _ q => Both.toR q
        have h9 := (h8.putObj ((hI L).both (hΦ.both (hLTs.both hR))) (.loop { rec .ready none with state := .exhausted })).drop
        rw [← hLT] at h9
        exact ⟨none, _, by have := run_endLoop (P := P) h8.obj.1 (by rw [hrec]; simp); rw [hrec] at this ⊢; exact this, hdone D _ h9⟩
      · obtain ⟨c, h7c⟩ := At.ex (Φ := fun c => Both (ObjT (D + 1) (.loop (rec .done (some c)))) (Ix c pre)) h7
        have h8 : At W w2 (Both (ObjT (D + 1) (.loop (rec .done (some c)))) (Both (Ix c pre) (Both Φ (Both LT R)))) := h7c.impl fun _ q => Both.toR q
        have h9 := (h8.putObj ((hIx c pre).both (hΦ.both (hLTs.both hR))) (.loop { rec .done (some c) with state := .exhausted })).drop
        rw [← hLT] at h9
        exact ⟨some c, _, by have := run_endLoop (P := P) h8.obj.1 (by rw [hrec]; simp); rw [hrec] at this ⊢; exact this, wpIn_wide.2 (hstop D c pre _ hpre h9)⟩
/-- 'append(s, x, ..)' to a row of the call's own, in a round. -/
theorem wpListIn_append_to {F : Fence} {k : Nat} {P : Program} {W w : World} {R : Thing} {ops : Array Oper} {rest : List Oper} {o : Oper} {a : Act} {Q : Exit → Act → World → Prop} (hgd : o.guard = none)
    (s x : Operand) (t e : TypeId) (ho : o.op = .call { callee := .builtin .append, args := #[s, x], argTypes := #[t, t] }) (ht : P.underlying t = some (.slice e))
    {z : Value} {size bytes : Nat} (hinfo : (P.info? e).map (fun i => (i.zero, i.size, i.bytes)) = some (some z, size, bytes)) (hzs : z.cells.size = size) (hsz : 0 < size)
    {v : Value} {n : Nat} {xs : List Value} (hs : a.eval s = v) (hat : At W w (Both (RowG e size v n xs) R)) (hR : Stable R)
    {C : Array Value} {g m c : Nat} (hx : a.eval x = .slice (some ⟨g, 0, none⟩) m c) (hg : g = w.heap.size) (hC : C.size = m * size) (h1 : ∀ u ∈ C.toList, u.oneCell' = true)
    (h63 : n + m ≤ maxLen) (hbytes : (n + m) * bytes ≤ 140737488355328)
    (h : ∀ ao cap w', At W w' (Both (RowG e size (.slice ao (n + m) cap) (n + m) (xs ++ C.toList)) R) → Upd (rowOf v) w w' → wpListIn F k P ops Q rest (a.put o.dst (.slice ao (n + m) cap)) w') :
    wpListIn F k P ops Q (o :: rest) a (w.alloc (.cells C e)) := by
  subst hg
  refine wpListIn_plain hgd fun K hK' => ?_
  obtain ⟨v', w', hr, h2, h3, h4⟩ := append_at_run t o.type e ht hinfo hzs hsz hat hR (c := c) hC h1 h63 hbytes
  obtain ⟨ao, cap, rfl, _, _⟩ := own_shape h2.rowG
  unfold Oper.wpIn
  refine ⟨?_, ?_⟩
  · simp [Oper.about, ho, resolve, Target.leads, Sem.run_pure]
  · rw [Oper.semAt_plain F _ _ (by rw [ho]; intro c hc'; cases hc')]
    simp [execOp, ho, resolve, invoke, builtin, hs, hx, hr, Result.andThen]
    exact hK' _ _ (h ao cap w' h2 h3)

/-- A function leaves past a mark. -/
theorem leaveM {F : Fence} {n : Nat} {P : Program} {fn : Func} {tmps : Array Value} {E : Ending → World → Prop} {W w : World} {D : Nat} {Ψ : Thing} {ds : List Deferred} (h : At W w (Both (ObjT D (.deferred (some []))) Ψ)) (hΨ : Stable Ψ)
    (hr : ∀ w', At W w' Ψ → (∀ k, k ≠ D → w'.heap[k]? = w.heap[k]?) → LeavesInM F n P fn tmps E ds .returning w') : LeavesInM F n P fn tmps E ({ target := .collected D, args := #[] } :: ds) .returning w :=
  ⟨by simp, .inl ⟨D, _, rfl, run_takeDeferred h.obj.1, hr _ (h.putObj hΨ _).drop fun k hk => World.putObj_heap_other hk⟩⟩
theorem leave0 {F : Fence} {n : Nat} {P : Program} {fn : Func} {tmps : Array Value} {E : Ending → World → Prop} {w : World} {v : Value} (hr : (results fn tmps).run P w = .ok v w) (hE : E (.returned v) w) : LeavesInM F n P fn tmps E [] .returning w :=
  ⟨v, hr, hE⟩
/-- What never is. -/
def NeverT : Thing := fun _ _ => False
theorem NeverT.stable : Stable NeverT := ⟨fun _ _ h => h.elim, fun _ _ _ h => h.elim⟩
theorem At.never {W w : World} {R : Thing} (h : At W w (Both NeverT R)) : False := by
  obtain ⟨_, _, ⟨_, _, h, _⟩, _⟩ := h
  exact h
theorem fold_one (p : Tmp) (v : Value) (t : Array Value) : foldTmps #[p] #[v] t = t.setIfInBounds p v := by simp [foldTmps]
/-- A thing, and a word beside it. -/
def WithT (Φ : Thing) (p : Prop) : Thing := fun w fp => Φ w fp ∧ p
theorem WithT.stable {Φ : Thing} (h : Stable Φ) (p : Prop) : Stable (WithT Φ p) := ⟨fun w fp q => h.lt w fp q.1, fun w w' fp q hs => ⟨h.same w w' fp q.1 hs, q.2⟩⟩
theorem At.word {W w : World} {Φ R : Thing} {p : Prop} (h : At W w (Both (WithT Φ p) R)) : p ∧ At W w (Both Φ R) := by
  obtain ⟨hb, fp, ⟨f, g, ⟨h1, hp⟩, h2⟩, h3⟩ := h
  exact ⟨hp, hb, fp, ⟨f, g, h1, h2⟩, h3⟩
theorem At.withW {W w : World} {Φ R : Thing} {p : Prop} (h : At W w (Both Φ R)) (hp : p) : At W w (Both (WithT Φ p) R) := h.impl fun _ ⟨f, g, h1, h2⟩ => ⟨f, g, ⟨h1, hp⟩, h2⟩
theorem At.toL {W w : World} {A B C : Thing} (h : At W w (Both A (Both B C))) : At W w (Both (Both A B) C) := h.impl fun _ q => Both.toL q
theorem At.toR {W w : World} {A B C : Thing} (h : At W w (Both (Both A B) C)) : At W w (Both A (Both B C)) := h.impl fun _ q => Both.toR q
/-- Marks of ranges that are through. -/
def MarksT : List Nat → Thing
  | [] => Nought
  | D :: Ds => Both (ObjT D (.deferred (some []))) (MarksT Ds)
theorem MarksT.stable : ∀ Ds, Stable (MarksT Ds)
  | [] => Stable.nought
  | _ :: Ds => (ObjT.stable _ _).both (MarksT.stable Ds)
abbrev marks (Ds : List Nat) : List Deferred := Ds.map fun D => { target := .collected D, args := #[] }
abbrev tTx : TypeId := 9
abbrev tTxs : TypeId := 32
theorem info_Tx : (Tryz.prog.info? tTx).map (fun i => (i.zero, i.size, i.bytes)) = some (some (.string ⟨#[]⟩), 1, 16) := by kernel_rfl
/-- A boxed list of texts of the call's own. -/
def OutT (k : Nat) (p : List (List UInt8)) : Thing := fun w fp => ∃ v, Both (CellT k #[v] tTxs) (RowG tTx 1 v p.length (strs p)) w fp
theorem OutT.stable (k : Nat) (p : List (List UInt8)) : Stable (OutT k p) := Stable.ex fun _ => (CellT.stable _ _ _).both (RowG.stable _ _ _ _ _)
def leftLen (w : World) (k : Nat) : Nat := match w.cell? ⟨k, 0, none⟩ with | some (.slice _ n _) => n | _ => 0
/-- What is left of the row v1 of M: from the place i on. -/
def LeftV (u v1 : Value) (M : List (List UInt8)) (i : Nat) : Prop :=
  ∃ (ao : Option Addr) (c cap : Nat), u = .slice ao c cap ∧ i + c = M.length ∧ c ≤ cap ∧ cap ≤ maxLen ∧ (0 < c → ∃ g cap0, ao = some ⟨g, i, none⟩ ∧ v1 = .slice (some ⟨g, 0, none⟩) M.length cap0)
theorem prefix_lt {L p : List (List UInt8)} {x : List UInt8} (hL : RisesL L) (hp : p ++ [x] <+: L) : ∀ z ∈ p, LtW z x := fun z hz => by
  obtain ⟨t, rfl⟩ := hp
  have h1 := (List.pairwise_append.1 hL).1
  exact (List.pairwise_append.1 h1).2.2 z hz x (by simp)
theorem strs_getS {L : List (List UInt8)} {i : Nat} {x : List UInt8} (h : L[i]? = some x) : (strs L)[i]? = some (.string ⟨x.toArray⟩) := by simp [strs, h]
end Go.Proofs.YtgeabmmicofanaaGreatDoor
namespace Go.Proofs.YtgeabmmicofanaaGreatDoor
open Go.RowKit

theorem Both.comm_eq (A B : Thing) : Both A B = Both B A := by funext w fp; exact propext ⟨Both.comm, Both.comm⟩
theorem Both.assoc_eq (A B C : Thing) : Both (Both A B) C = Both A (Both B C) := by funext w fp; exact propext ⟨Both.toR, Both.toL⟩
instance : Std.Commutative Both := ⟨Both.comm_eq⟩
instance : Std.Associative Both := ⟨Both.assoc_eq⟩
theorem At.perm {W w : World} {A B : Thing} (h : At W w A) (e : A = B) : At W w B := e ▸ h
end Go.Proofs.YtgeabmmicofanaaGreatDoor
