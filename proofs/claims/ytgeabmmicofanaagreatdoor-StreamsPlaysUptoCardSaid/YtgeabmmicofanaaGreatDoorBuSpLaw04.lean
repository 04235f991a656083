/- A block of cells as a thing. · Many rows as one thing. · Many things side by side, each with its number: one taken out, one put back. · 'make([]T, n)' as a row of the call's own. · 'copy(dst, src)' into a row of the call's own. -/
import Derived.Test.YtgeabmmicofanaaGreatDoorBuSpLaw03
import Derived.OwnWalk
import Derived.Laws.OwnMore
import Derived.Laws.CopyOwn
set_option linter.unusedSimpArgs false
set_option linter.unusedVariables false
namespace Go.Proofs.YtgeabmmicofanaaGreatDoor
section
open Go.RowKit

/-- A block of cells. -/
def CellT (k : Nat) (cs : Array Value) (T : TypeId) : Thing := fun w fp => w.heap[k]? = some (.cells cs T (0, 0)) ∧ fp = [k]
theorem CellT.stable (k : Nat) (cs : Array Value) (T : TypeId) : Stable (CellT k cs T) :=
  ⟨fun w fp h j hj => by obtain ⟨h1, rfl⟩ := h; rw [List.mem_singleton] at hj; subst hj; exact lt_of_heap h1, fun w w' fp h hs => by obtain ⟨h1, rfl⟩ := h; exact ⟨(hs k (by simp)).trans h1, rfl⟩⟩

section
variable {W w : World} {R : Thing}
theorem At.cell {k : Nat} {cs : Array Value} {T : TypeId} (h : At W w (Both (CellT k cs T) R)) : w.heap[k]? = some (.cells cs T (0, 0)) ∧ W.heap.size ≤ k := by
  obtain ⟨_, fp, ⟨f, g, ⟨h1, rfl⟩, _, _, h4⟩, h5⟩ := h
  exact ⟨h1, h5 k ((h4 k).2 (.inl (by simp)))⟩
theorem At.setCell {k : Nat} {cs : Array Value} {T : TypeId} (h : At W w (Both (CellT k cs T) R)) (hR : Stable R) (o : Nat) (v : Value) : At W (w.setCell ⟨k, o, none⟩ v) (Both (CellT k (cs.setIfInBounds o v) T) R) := by
  obtain ⟨fp, h1, h2, h3⟩ := h.step
  refine h3 hR _ _ ?_
  obtain ⟨h1, rfl⟩ := h1
  exact ⟨[k], ⟨heap_setCell h1 v, rfl⟩, (Upd.refl _ _).setCell (.inl (by simp)) v, fun j hj => .inl hj⟩
theorem At.newCell {Φ : Thing} (h : At W w Φ) (hs : Stable Φ) (cs : Array Value) (T : TypeId) : At W (w.alloc (.cells cs T)) (Both (CellT w.heap.size cs T) Φ) :=
  h.add hs ((Below.refl _ _).alloc (Nat.le_refl _) _) (fp := [w.heap.size]) ⟨heap_alloc_new _ _, rfl⟩ (by simp)
/-- The facts of a cell. -/
theorem At.cellF {k : Nat} {cs : Array Value} {T : TypeId} (h : At W w (Both (CellT k cs T) R)) {o : Nat} {u : Value} (ho : cs[o]? = some u) : w.cell? ⟨k, o, none⟩ = some u ∧ w.frozen? ⟨k, o, none⟩ = false ∧ k < w.heap.size := by
  have h1 := h.cell.1
  exact ⟨by simp [World.cell?, h1, ho], by simp [World.frozen?, h1], lt_of_heap h1⟩
theorem At.drewN {Φ : Thing} (h : At W w Φ) (hs : Stable Φ) (n : Nat) : At W (w.drewN n) Φ := h.mono hs ⟨rfl, rfl, rfl, Nat.le_refl _, fun _ _ => rfl⟩
theorem At.drew {Φ : Thing} (h : At W w Φ) (hs : Stable Φ) : At W w.drew Φ := h.mono hs ⟨rfl, rfl, rfl, Nat.le_refl _, fun _ _ => rfl⟩
theorem Both.pull3 {A B C D : Thing} {w : World} {fp : List Nat} (h : Both A (Both B (Both C D)) w fp) : Both C (Both A (Both B D)) w fp := (Both.mono (fun _ _ h => h.assoc) h).assoc
theorem At.push3 {A B C D : Thing} (h : At W w (Both C (Both A (Both B D)))) : At W w (Both A (Both B (Both C D))) :=
  h.impl fun _ q => Both.mono (fun _ _ q => q.assoc) q.assoc
theorem At.pull4 {A B C D E : Thing} (h : At W w (Both A (Both B (Both C (Both D E))))) : At W w (Both D (Both A (Both B (Both C E)))) :=
  h.impl fun _ q => Both.assoc (Both.mono (fun _ _ q => q.pull3) q)
theorem Both.pull4 {A B C D E : Thing} {w : World} {fp : List Nat} (h : Both A (Both B (Both C (Both D E))) w fp) : Both D (Both A (Both B (Both C E))) w fp := (Both.mono (fun _ _ h => h.pull3) h).assoc
theorem Both.pull5 {A B C D E F : Thing} {w : World} {fp : List Nat} (h : Both A (Both B (Both C (Both D (Both E F)))) w fp) : Both E (Both A (Both B (Both C (Both D F)))) w fp := (Both.mono (fun _ _ h => h.pull4) h).assoc
theorem At.pull5 {W w : World} {A B C D E F : Thing} (h : At W w (Both A (Both B (Both C (Both D (Both E F)))))) : At W w (Both E (Both A (Both B (Both C (Both D F))))) := h.impl fun _ q => q.pull5
theorem At.cellNe {k k' : Nat} {cs cs' : Array Value} {T T' : TypeId} (h : At W w (Both (CellT k cs T) (Both (CellT k' cs' T') R))) : k ≠ k' := by
  obtain ⟨_, fp, ⟨f, gg, ⟨_, rfl⟩, ⟨f2, g2, ⟨_, rfl⟩, _, _, h7⟩, h3, _⟩, _⟩ := h
  intro e
  subst e
  exact h3 k (by simp) ((h7 k).2 (.inl (by simp)))
theorem At.swap2 {A B C D : Thing} (h : At W w (Both A (Both B (Both C D)))) : At W w (Both A (Both C (Both B D))) :=
  h.impl fun _ q => Both.mono (fun _ _ q => q.assoc) q
end

/-- A cell of a row of the call's own. -/
theorem At.rowCell {W w : World} {R : Thing} {e : TypeId} {size g n cap : Nat} {xs : List Value} (h : At W w (Both (RowG e size (.slice (some ⟨g, 0, none⟩) n cap) n xs) R)) {j : Nat} {u : Value} (hj : xs[j]? = some u) :
    w.cell? ⟨g, j, none⟩ = some u ∧ w.frozen? ⟨g, j, none⟩ = false ∧ g < w.heap.size := by
  have h1 := h.rowG
  have h2 := h1.cells (g := g) rfl j u hj
  rw [show (⟨g, 0, none⟩ : Addr).add j = ⟨g, j, none⟩ from by unfold Addr.add; split <;> simp_all] at h2
  rcases h1.2 with ⟨h3, _⟩ | ⟨g', cap', cur, h3, _, hg, _⟩
  · cases h3
  · cases h3
    exact ⟨h2, by simp [World.frozen?, hg], lt_of_heap hg⟩
/-- Rows of the call's own, each element with its own; they may be many. -/
def AllRows {α : Type} (e : TypeId) (size : Nat) (val : α → Value) (cells : α → List Value) (n : α → Nat) (xs : List α) : Thing := fun w fp =>
  (∀ x ∈ xs, w.ownsRow 0 e size (val x) (n x) (cells x)) ∧ ∀ k, k ∈ fp ↔ ∃ x ∈ xs, k ∈ rowOf (val x)
theorem AllRows.stable {α : Type} (e : TypeId) (size : Nat) (val : α → Value) (cells : α → List Value) (n : α → Nat) (xs : List α) : Stable (AllRows e size val cells n xs) :=
  ⟨fun w fp h k hk => by
      obtain ⟨h1, h2⟩ := h
      obtain ⟨x, hx, hm⟩ := (h2 k).1 hk
      exact ((h1 x hx).lt k (mem_rowOf.1 hm)).2,
   fun w w' fp h hs => by
      obtain ⟨h1, h2⟩ := h
      exact ⟨fun x hx => ownsRow_block (h1 x hx) fun k hk => hs k ((h2 k).2 ⟨x, hx, mem_rowOf.2 hk⟩), h2⟩⟩
/-- One row more. -/
theorem AllRows.push {α : Type} {e : TypeId} {size : Nat} {val : α → Value} {cells : α → List Value} {n : α → Nat} {xs : List α} (x : α) {R : Thing} {w : World} {fp : List Nat}
    (h : Both (RowG e size (val x) (n x) (cells x)) (Both (AllRows e size val cells n xs) R) w fp) : Both (AllRows e size val cells n (xs ++ [x])) R w fp := by
  obtain ⟨f, g, ⟨h1, rfl⟩, ⟨f2, g2, ⟨h2, h3⟩, h4, h5, h6⟩, h7, h8⟩ := h
  refine ⟨rowOf (val x) ++ f2, g2, ⟨fun y hy => ?_, fun k => ?_⟩, h4, fun k hk hk' => ?_, fun k => ?_⟩
  · rcases List.mem_append.1 hy with hy | hy
    · exact h2 y hy
    · rw [List.mem_singleton] at hy; subst hy; exact h1
  · rw [List.mem_append, h3]
    constructor
    · rintro (hk | ⟨y, hy, hk⟩)
      · exact ⟨x, by simp, hk⟩
      · exact ⟨y, by simp [hy], hk⟩
    · rintro ⟨y, hy, hk⟩
      rcases List.mem_append.1 hy with hy | hy
      · exact .inr ⟨y, hy, hk⟩
      · rw [List.mem_singleton] at hy; subst hy; exact .inl hk
  · rcases List.mem_append.1 hk with hk | hk
    · exact h7 k hk ((h6 k).2 (.inr hk'))
    · exact h5 k hk hk'
  · rw [h8, h6, List.mem_append]
    constructor
    · rintro (h | h | h)
      · exact .inl (.inl h)
      · exact .inl (.inr h)
      · exact .inr h
    · rintro ((h | h) | h)
      · exact .inl h
      · exact .inr (.inl h)
      · exact .inr (.inr h)
/-- 'append(s, x, ..)' to a row of the call's own; the elements' block is spelled g. -/
theorem wpList_append_to {P : Program} {W w : World} {R : Thing} {ops : Array Oper} {rest : List Oper} {o : Oper} {a : Act} {Q : Exit → Act → World → Prop} (hgd : o.guard = none)
    (s x : Operand) (t e : TypeId) (ho : o.op = .call { callee := .builtin .append, args := #[s, x], argTypes := #[t, t] }) (ht : P.underlying t = some (.slice e))
    {z : Value} {size bytes : Nat} (hinfo : (P.info? e).map (fun i => (i.zero, i.size, i.bytes)) = some (some z, size, bytes)) (hzs : z.cells.size = size) (hsz : 0 < size)
    {v : Value} {n : Nat} {xs : List Value} (hs : a.eval s = v) (hat : At W w (Both (RowG e size v n xs) R)) (hR : Stable R)
    {C : Array Value} {g m c : Nat} (hx : a.eval x = .slice (some ⟨g, 0, none⟩) m c) (hg : g = w.heap.size) (hC : C.size = m * size) (h1 : ∀ u ∈ C.toList, u.oneCell' = true)
    (h63 : n + m ≤ maxLen) (hbytes : (n + m) * bytes ≤ 140737488355328)
    (h : ∀ ao cap w', At W w' (Both (RowG e size (.slice ao (n + m) cap) (n + m) (xs ++ C.toList)) R) → Upd (rowOf v) w w' → wpList P ops Q rest (a.put o.dst (.slice ao (n + m) cap)) w') :
    wpList P ops Q (o :: rest) a (w.alloc (.cells C e)) := by
  subst hg
  refine wpList_append_at hgd s x t e ho ht hinfo hzs hsz hs hat hR hx hC h1 h63 hbytes fun v' w' h2 h3 _ => ?_
  obtain ⟨ao, cap, rfl, _, _⟩ := own_shape h2.rowG
  exact h ao cap w' h2 h3
end

section
open Go.RowKit

/-- The things 0 to n-1, each on blocks of its own. -/
def AllT (f : Nat → Thing) : Nat → Thing
  | 0 => Nought
  | n + 1 => Both (f n) (AllT f n)
/-- Another thing in the place i. -/
def putT (f : Nat → Thing) (i : Nat) (Φ : Thing) : Nat → Thing := fun j => if j = i then Φ else f j
theorem putT_same {f : Nat → Thing} {i : Nat} {Φ : Thing} : putT f i Φ i = Φ := by simp [putT]
theorem putT_other {f : Nat → Thing} {i j : Nat} {Φ : Thing} (h : j ≠ i) : putT f i Φ j = f j := by simp [putT, h]
theorem AllT.stable {f : Nat → Thing} {n : Nat} (h : ∀ i, i < n → Stable (f i)) : Stable (AllT f n) := by
  induction n with
  | zero => exact Stable.nought
  | succ n ih => exact (h n (by omega)).both (ih fun i hi => h i (by omega))
theorem AllT.congr {f g : Nat → Thing} {n : Nat} (h : ∀ i, i < n → f i = g i) : AllT f n = AllT g n := by
  induction n with
  | zero => rfl
  | succ n ih => simp only [AllT]; rw [h n (by omega), ih fun i hi => h i (by omega)]
theorem Both.nought {Φ : Thing} {w : World} {fp : List Nat} (h : Φ w fp) : Both Nought Φ w fp := ⟨[], fp, rfl, h, by simp, by simp⟩
theorem AllT.take {f : Nat → Thing} {n i : Nat} (hi : i < n) {w : World} {fp : List Nat} (h : AllT f n w fp) : Both (f i) (AllT (putT f i Nought) n) w fp := by
  induction n generalizing w fp with
  | zero => omega
  | succ n ih =>
    simp only [AllT] at h ⊢
    by_cases he : i = n
    · subst he
      rw [putT_same, AllT.congr (g := f) fun j hj => putT_other (by omega)]
      exact Both.mono (fun _ _ h => Both.nought h) h
    · rw [putT_other (fun e => he e.symm)]
      exact (Both.mono (fun _ _ h => ih (by omega) h) h).assoc
/-- A thing that does not see how its blocks are listed. -/
def Loose (Φ : Thing) : Prop := ∀ w f g, Φ w f → (∀ k, k ∈ g ↔ k ∈ f) → Φ w g
theorem AllT.push {f : Nat → Thing} {n : Nat} {Φ : Thing} {w : World} {fp : List Nat} (h : Both Φ (AllT f n) w fp) : AllT (putT f n Φ) (n + 1) w fp := by
  simp only [AllT]
  rw [putT_same, AllT.congr (g := f) fun j hj => putT_other (by omega)]
  exact h
section
variable {W w : World} {R : Thing} {f : Nat → Thing} {n i : Nat}
end
end

section
open Go.RowKit

end

section
open Go.RowKit

end
end Go.Proofs.YtgeabmmicofanaaGreatDoor
