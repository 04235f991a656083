/- A region that draws its order, in a round of a range over a function: its first operations only read: walked in the order of the text. · A region that draws its order, with calls, in a round of a range over a function: its operations read what the calls leave alone. -/
import Derived.Test.YtgeabmmicofanaaGreatDoorBuSpLaw30
import Derived.OrdersIn
import Derived.RangeFuncCalls
import Derived.OwnWalkIn
import Derived.OrdersHeld
import Derived.Deep.RegionHeld3
set_option linter.unusedSimpArgs false
set_option linter.unusedVariables false
namespace Go.Proofs.YtgeabmmicofanaaGreatDoor
section
open Go.RowKit

def noDefer (ops : Array Oper) : Bool := ops.toList.all fun o => match o.op with | .defer _ => false | _ => true
section
variable {l : Nat} {P : Program} {ops : Array Oper} {md : Region.Mode} {w : World} {Q' : Exit → Act → World → Prop}
theorem wpIn_of_still {o : Oper} {a : Act} {K : Act → Prop} {K' : Act → World → Prop} (hnd : ∀ c, o.op ≠ .defer c) (h : ∀ a, K a → K' a w) (hh : o.still P a w K) : o.wpIn (Fence.wide.inRound l) 0 P a w K' Q' := by
  refine ⟨fun _ _ => trivial, ?_⟩
  rw [Oper.semAt_plain _ _ _ hnd]
  unfold Oper.still at hh
  generalize (execOp a.eval o).run P w = r at *
  cases r with
  | ok n w' =>
    cases n <;> simp only [Oper.stillUpon] at hh <;> simp only [Oper.uponIn]
    case enter f args =>
      obtain ⟨rfl, v, hc, hn⟩ := hh
      refine ⟨fun h => by simp [Fence.wide] at h, CallsIn.inRound l (callsIn_wide.2 (hc.mono fun e w'' ⟨he, hw⟩ => by subst he; subst hw; exact h _ hn))⟩
    all_goals (obtain ⟨rfl, h2⟩ := hh; exact h _ h2)
  | halt x w' => simp only [Oper.stillUpon] at hh
theorem wpOpIn_of_stOp (hnd : noDefer ops = true) {i : Nat} {a : Act} {K : Act → Prop} {K' : Act → World → Prop} (h : ∀ a, K a → K' a w) (hh : stOp P ops w i K a) : wpOpIn (Fence.wide.inRound l) 0 P ops Q' i K' a w := by
  unfold stOp at hh
  unfold wpOpIn
  split
  · rename_i ho; simp only [ho] at hh; exact h _ hh
  · rename_i o ho
    simp only [ho] at hh
    split
    · rename_i hw
      simp only [hw, if_true] at hh
      refine wpIn_of_still (fun c hc => ?_) h hh
      have := List.all_eq_true.1 hnd o (Array.mem_toList_iff.2 (Array.mem_of_getElem? ho))
      rw [hc] at this
      cases this
    · rename_i hw; simp only [hw] at hh; exact ⟨fun _ _ => trivial, h _ hh⟩
theorem wpAnyIn_of_head (hnd : noDefer ops = true) {n g : Nat} {L : Array Bool → Act → Prop} (hL : ∀ listed a, L listed a → wpAnyIn (Fence.wide.inRound l) 0 P md ops Q' g listed a w) :
    ∀ (f : Nat) (listed : Array Bool) (a : Act), wpAnyL P md ops w n L f listed a → wpAnyIn (Fence.wide.inRound l) 0 P md ops Q' (f + g) listed a w
  | 0, listed, a, h => by rw [Nat.zero_add]; exact hL _ _ h
  | f + 1, listed, a, h => by
    rw [show f + 1 + g = (f + g) + 1 by omega]
    exact ⟨fun h0 => absurd h0 h.1, fun i hi => wpOpIn_of_stOp hnd (fun a' h' => wpAnyIn_of_head hnd hL f _ a' h') (h.2 i hi).2⟩
theorem wpAnyIn_of_seq : ∀ (l1 : List Oper) (k : Nat) (listed : Array Bool) (a : Act) (w : World), (∀ j, l1[j]? = ops[k + j]?) →
    Region.seqB md ops l1.length k listed = true → wpListIn (Fence.wide.inRound l) 0 P ops Q' l1 a w → wpAnyIn (Fence.wide.inRound l) 0 P md ops Q' l1.length listed a w
  | [], _, _, _, _, _, hB, h => ⟨by simpa [Region.seqB] using hB, h⟩
  | o :: l1, k, listed, a, w, hl, hB, h => by
    have h0 : ops[k]? = some o := by simpa using (hl 0).symm
    simp only [List.length_cons, Region.seqB, Bool.and_eq_true, decide_eq_true_eq] at hB
    refine ⟨fun h1 => (by rw [hB.1] at h1; cases h1), fun i hi => ?_⟩
    rw [hB.1] at hi
    have hik : i = k := by simpa using hi
    subst hik
    have hw : wpOpIn (Fence.wide.inRound l) 0 P ops Q' i (wpListIn (Fence.wide.inRound l) 0 P ops Q' l1) a w := by unfold wpOpIn; simp only [h0]; exact h
    exact wpOpIn_mono (fun a' w' h' => wpAnyIn_of_seq l1 (i + 1) _ a' w' (fun j => by have := hl (j + 1); simpa [Nat.add_assoc, Nat.add_comm 1 j] using this) hB.2 h') hw
end
theorem region_still_tailIn {l : Nat} {P : Program} {id : Nat} {Q : Exit → Act → World → Prop} {a : Act} {w : World} {l1 : List Oper} (n : Nat) (hm : P.follows .mixedOrders = true) (hB : Region.lexTailB .any l1.toArray n = true) (hnd : noDefer l1.toArray = true)
    (h : wpStill P l1.toArray w.drew (fun a' => wpListIn (Fence.wide.inRound l) 0 P l1.toArray Q (l1.drop n) a' w.drew) (l1.take n) a) : (Code.region id l1.toArray true).wpIn (Fence.wide.inRound l) 0 P Q a w := by
  simp only [Region.lexTailB, Bool.and_eq_true, decide_eq_true_eq] at hB
  obtain ⟨⟨⟨⟨hsel, hn⟩, hs⟩, hc⟩, hlex⟩ := hB
  have hn' : n < l1.length := by simpa using hn
  have htl : (l1.take n).length = n := by simp; omega
  have hdl : (l1.drop n).length = l1.toArray.size - n := by simp
  have inv0 : HeadInv .any l1.toArray n (Array.replicate l1.toArray.size false) :=
    ⟨by simp, fun j oj _ hl => (by rw [getD_replicate_false] at hl; cases hl), fun t _ ht => getD_in (by simpa using ht) (getD_replicate_false _ _)⟩
  have H := wpAnyL_lex (md := .any) (g := l1.toArray.size - n) hsel hs hc hn (l1.take n) 0 _ a (fun j hj => by
    have hj' : j < n := by rw [htl] at hj; exact hj
    simp [hj']) (by simpa using htl) inv0 (by rw [htl]; exact hlex) h
  refine wpIn_region_any hm ?_
  have := wpAnyIn_of_head (Q' := Q) (l := l) hnd (g := l1.toArray.size - n) (fun listed a' hL => by
    have := wpAnyIn_of_seq (md := .any) (Q' := Q) (l := l) (l1.drop n) n listed a' w.drew (fun j => by simp [List.getElem?_drop]) (by rw [hdl]; exact hL.1) hL.2
    rwa [hdl] at this) _ _ _ H
  rw [htl, show n + (l1.toArray.size - n) = l1.toArray.size by omega] at this
  exact this
end

section
open Go.RowKit

/-- A region that only ends normally. -/
abbrev onlyN (Q : Exit → Act → World → Prop) : Exit → Act → World → Prop := fun e a w => match e with | .normal => Q .normal a w | _ => False
section
variable {l : Nat} {P : Program} {ops : Array Oper} {md : Region.Mode} {Q : Exit → Act → World → Prop}
end
/-- All lists of n bits. -/
def bitsL : Nat → List (List Bool)
  | 0 => [[]]
  | n + 1 => (bitsL n).flatMap fun l => [false :: l, true :: l]
abbrev fullL (l : List Bool) (m : Nat) : Array Bool := (l ++ List.replicate m false).toArray
/-- What has come up stands behind what it waits for. -/
def shutB (md : Region.Mode) (ops : Array Oper) (L : Array Bool) : Bool := (List.range ops.size).all fun i => !L.getD i false || ((ops[i]?).map (·.after.all fun e => !Region.binds md e || L.getD e.on false)).getD true
def headB (md : Region.Mode) (l1 : List Oper) (n : Nat) : Bool :=
  decide (n ≤ l1.length) && ((l1.take n).all fun o => match o.guard with | none => true | some (j, _) => decide (j < n)) && shutB md l1.toArray (fullL (List.replicate n false) (l1.length - n)) &&
  Region.seqB md l1.toArray (l1.length - n) n (fullL (List.replicate n true) (l1.length - n)) &&
  (bitsL n).all fun l => l.all id || !shutB md l1.toArray (fullL l (l1.length - n)) ||
    (!(Region.ready md l1.toArray (fullL l (l1.length - n))).isEmpty && decide (Region.ready md l1.toArray (fullL l (l1.length - n)) = Region.ready md (l1.take n).toArray l.toArray) &&
      (Region.ready md l1.toArray (fullL l (l1.length - n))).all fun i => decide (i < n) && decide ((l.set i true).countP id = l.countP id + 1) && shutB md l1.toArray (fullL (l.set i true) (l1.length - n)))
section
variable {l : Nat} {P : Program} {Q QT : Exit → Act → World → Prop} {md : Region.Mode} {S : World → Prop} {l1 : List Oper} {n : Nat}
end
end
end Go.Proofs.YtgeabmmicofanaaGreatDoor
