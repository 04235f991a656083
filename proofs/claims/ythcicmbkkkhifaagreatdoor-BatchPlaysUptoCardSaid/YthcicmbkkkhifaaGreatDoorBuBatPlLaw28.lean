/- A range over a function, for things side by side: the contract of an iterator, and the law of the statement. · Things side by side in any order. -/
import Derived.Test.YthcicmbkkkhifaaGreatDoorBuBatPlLaw16
import Derived.Test.YthcicmbkkkhifaaGreatDoorBuBatPlLaw01
import Derived.Test.YthcicmbkkkhifaaGreatDoorProg
import Derived.RangeFuncNested
import Derived.RangeFuncCalls
import Derived.RangeFuncLeaves
import Derived.OwnWalkIn
set_option linter.unusedSimpArgs false
set_option linter.unusedVariables false
namespace Go.Proofs.YthcicmbkkkhifaaGreatDoor
open Go.RowKit

theorem Both.toL {A B C : Thing} {w : World} {fp : List Nat} (h : Both A (Both B C) w fp) : Both (Both A B) C w fp := by
  obtain ⟨f, g, h1, ⟨p, q, h5, h6, h7, h8⟩, h3, h4⟩ := h
  refine ⟨f ++ p, q, ⟨f, p, h1, h5, fun k hk hk' => h3 k hk ((h8 k).2 (.inl hk')), fun k => List.mem_append⟩, h6, fun k hk hk' => ?_, fun k => ?_⟩
  · rcases List.mem_append.1 hk with h9 | h9
    · exact h3 k h9 ((h8 k).2 (.inr hk'))
    · exact h7 k h9 hk'
  · rw [h4 k, h8 k, List.mem_append]
    constructor
    · rintro (h | h | h)
      · exact .inl (.inl h)
      · exact .inl (.inr h)
      · exact .inr h
    · rintro ((h | h) | h)
      · exact .inl h
      · exact .inr (.inl h)
      · exact .inr (.inr h)
theorem Both.toR {A B C : Thing} {w : World} {fp : List Nat} (h : Both (Both A B) C w fp) : Both A (Both B C) w fp := by
  obtain ⟨f, g, ⟨p, q, h5, h6, h7, h8⟩, h2, h3, h4⟩ := h
  refine ⟨p, q ++ g, h5, ⟨q, g, h6, h2, fun k hk hk' => h3 k ((h8 k).2 (.inr hk)) hk', fun k => List.mem_append⟩, fun k hk hk' => ?_, fun k => ?_⟩
  · rcases List.mem_append.1 hk' with h9 | h9
    · exact h7 k hk h9
    · exact h3 k ((h8 k).2 (.inl hk)) h9
  · rw [h4 k, h8 k, List.mem_append]
    constructor
    · rintro ((h | h) | h)
      · exact .inl h
      · exact .inr (.inl h)
      · exact .inr (.inr h)
    · rintro (h | h | h)
      · exact .inl (.inl h)
      · exact .inl (.inr h)
      · exact .inr h
/-- One block that holds just this. -/
def ObjT (k : Nat) (o : Obj) : Thing := fun w fp => w.heap[k]? = some o ∧ fp = [k]
theorem ObjT.stable (k : Nat) (o : Obj) : Stable (ObjT k o) :=
  ⟨fun w fp h j hj => by obtain ⟨h1, rfl⟩ := h; simp at hj; subst hj; exact lt_of_heap h1,
   fun w w' fp h hs => by obtain ⟨h1, rfl⟩ := h; exact ⟨(hs k (by simp)).trans h1, rfl⟩⟩
section
variable {W w : World} {R Φ : Thing} {k : Nat} {o : Obj}
end

/-- What an iterator (function gf, with what it has captured) gives: the list L, an entry a round; Φ, the memory that it reads, is at the rounds' hand too. -/
def Seqs (P : Program) {α : Type} (enc : α → Array Value) (gf : Nat) (lb : Array Value) (L : List α) (W : World) (Φ : Thing) : Prop :=
  ∀ (l : Nat) (J Jx : List α → Thing), (∀ p, Stable (J p)) → (∀ p, Stable (Jx p)) →
    (∀ pre x, pre ++ [x] <+: L → ∀ w R, Stable R → At W w (Both (J pre) (Both Φ R)) → YieldAt Fence.wide 0 P l (enc x) w fun e w' =>
      (e = .returned (.bool true) ∧ At W w' (Both (J (pre ++ [x])) (Both Φ R))) ∨ (e = .returned (.bool false) ∧ At W w' (Both (Jx (pre ++ [x])) (Both Φ R)))) →
    ∀ w R, Stable R → At W w (Both (J []) (Both Φ R)) → Calls P gf (#[.func (.yield l) #[] #[]] ++ lb) w fun e w' => (∃ v, e = .returned v) ∧
      (At W w' (Both (J L) (Both Φ R)) ∨ ∃ pre, pre <+: L ∧ At W w' (Both (Jx pre) (Both Φ R)))

/-- How a round is left. -/
def rndPost {α : Type} (W : World) (I : List α → Thing) (Ix : Code → List α → Thing) (xs : List α) (Ψ : Thing) : Exit → Act → World → Prop
  | .normal, _, w' => At W w' (Both (I xs) Ψ)
  | .ret, _, w' => At W w' (Both (Ix .ret xs) Ψ)
  | .exit id, _, w' => At W w' (Both (Ix (.exit id) xs) Ψ)
  | .goto t, _, w' => At W w' (Both (Ix (.goto t) xs) Ψ)
  | .panic _, _, _ => False
  | .outgrown, _, _ => False
theorem Stable.ex {β : Type} {Φ : β → Thing} (h : ∀ b, Stable (Φ b)) : Stable (fun w fp => ∃ b, Φ b w fp) :=
  ⟨fun w fp ⟨b, q⟩ => (h b).lt w fp q, fun w w' fp ⟨b, q⟩ hs => ⟨b, (h b).same w w' fp q hs⟩⟩
theorem At.ex {β : Type} {Φ : β → Thing} {R : Thing} {W w : World} (h : At W w (Both (fun w fp => ∃ b, Φ b w fp) R)) : ∃ b, At W w (Both (Φ b) R) := by
  obtain ⟨hb, fp, ⟨f, g, ⟨b, h1⟩, h2⟩, h3⟩ := h
  exact ⟨b, hb, fp, ⟨f, g, h1, h2⟩, h3⟩
theorem At.intoEx {β : Type} {Φ : β → Thing} {R : Thing} {W w : World} (b : β) (h : At W w (Both (Φ b) R)) : At W w (Both (fun w fp => ∃ b, Φ b w fp) R) :=
  h.impl fun _ ⟨f, g, h1, h2⟩ => ⟨f, g, ⟨b, h1⟩, h2⟩

abbrev mark1 (D : Nat) (a : Act) : Act := { a with defers := { target := .collected D, args := #[] } :: a.defers }
abbrev foldTmps (ps : Array Tmp) (vs : Array Value) (tmps : Array Value) : Array Value := (ps.zip vs).foldl (fun t (p, v) => t.setIfInBounds p v) tmps
/-- What never is. -/
def NeverT : Thing := fun _ _ => False
theorem NeverT.stable : Stable NeverT := ⟨fun _ _ h => h.elim, fun _ _ _ h => h.elim⟩
/-- A thing, and a word beside it. -/
def WithT (Φ : Thing) (p : Prop) : Thing := fun w fp => Φ w fp ∧ p
theorem WithT.stable {Φ : Thing} (h : Stable Φ) (p : Prop) : Stable (WithT Φ p) := ⟨fun w fp q => h.lt w fp q.1, fun w w' fp q hs => ⟨h.same w w' fp q.1 hs, q.2⟩⟩
theorem At.toL {W w : World} {A B C : Thing} (h : At W w (Both A (Both B C))) : At W w (Both (Both A B) C) := h.impl fun _ q => Both.toL q
theorem At.toR {W w : World} {A B C : Thing} (h : At W w (Both (Both A B) C)) : At W w (Both A (Both B C)) := h.impl fun _ q => Both.toR q
/-- Marks of ranges that are through. -/
def MarksT : List Nat → Thing
  | [] => Nought
  | D :: Ds => Both (ObjT D (.deferred (some []))) (MarksT Ds)
theorem MarksT.stable : ∀ Ds, Stable (MarksT Ds)
  | [] => Stable.nought
  | _ :: Ds => (ObjT.stable _ _).both (MarksT.stable Ds)
abbrev marks (Ds : List Nat) : List Deferred := Ds.map fun D => { target := .collected D, args := #[] }
abbrev tTx : TypeId := 9
abbrev tTxs : TypeId := 22
/-- A boxed list of texts of the call's own. -/
def OutT (k : Nat) (p : List (List UInt8)) : Thing := fun w fp => ∃ v, Both (CellT k #[v] tTxs) (RowG tTx 1 v p.length (strs p)) w fp
theorem OutT.stable (k : Nat) (p : List (List UInt8)) : Stable (OutT k p) := Stable.ex fun _ => (CellT.stable _ _ _).both (RowG.stable _ _ _ _ _)
def leftLen (w : World) (k : Nat) : Nat := match w.cell? ⟨k, 0, none⟩ with | some (.slice _ n _) => n | _ => 0
/-- What is left of the row v1 of M: from the place i on. -/
def LeftV (u v1 : Value) (M : List (List UInt8)) (i : Nat) : Prop :=
  ∃ (ao : Option Addr) (c cap : Nat), u = .slice ao c cap ∧ i + c = M.length ∧ c ≤ cap ∧ cap ≤ maxLen ∧ (0 < c → ∃ g cap0, ao = some ⟨g, i, none⟩ ∧ v1 = .slice (some ⟨g, 0, none⟩) M.length cap0)
end Go.Proofs.YthcicmbkkkhifaaGreatDoor
namespace Go.Proofs.YthcicmbkkkhifaaGreatDoor
open Go.RowKit

theorem Both.comm_eq (A B : Thing) : Both A B = Both B A := by funext w fp; exact propext ⟨Both.comm, Both.comm⟩
theorem Both.assoc_eq (A B C : Thing) : Both (Both A B) C = Both A (Both B C) := by funext w fp; exact propext ⟨Both.toR, Both.toL⟩
instance : Std.Commutative Both := ⟨Both.comm_eq⟩
instance : Std.Associative Both := ⟨Both.assoc_eq⟩
theorem At.perm {W w : World} {A B : Thing} (h : At W w A) (e : A = B) : At W w B := e ▸ h
theorem Both.left_comm_eq (A B C : Thing) : Both A (Both B C) = Both B (Both A C) := by rw [← Both.assoc_eq, Both.comm_eq A B, Both.assoc_eq]
end Go.Proofs.YthcicmbkkkhifaaGreatDoor
