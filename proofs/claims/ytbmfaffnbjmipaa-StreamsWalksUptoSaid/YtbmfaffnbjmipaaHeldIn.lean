/- A region that draws its order, with calls, in a round of a range over a function: its operations read what the calls leave alone. -/
import Derived.Test.YtbmfaffnbjmipaaStillIn
import Derived.OrdersHeld
import Derived.Deep.RegionHeld3
namespace Go.Proofs.Ytbmfaffnbjmipaa
open Go.RowKit

/-- A region that only ends normally. -/
abbrev onlyN (Q : Exit → Act → World → Prop) : Exit → Act → World → Prop := fun e a w => match e with | .normal => Q .normal a w | _ => False
section
variable {l : Nat} {P : Program} {ops : Array Oper} {md : Region.Mode} {Q : Exit → Act → World → Prop}
theorem onlyN_lets : ¬ LetsOut (onlyN Q) := fun ⟨_, _, h⟩ => h
theorem wpIn_of_wp {o : Oper} {a : Act} {w : World} {K K' : Act → World → Prop} (hnd : ∀ c, o.op ≠ .defer c) (h : ∀ a w, K a w → K' a w) (hh : o.wp P a w K (onlyN Q)) : o.wpIn (Fence.wide.inRound l) 0 P a w K' Q := by
  refine ⟨fun _ _ => trivial, ?_⟩
  rw [Oper.semAt_plain _ _ _ hnd]
  unfold Oper.wp at hh
  generalize (execOp a.eval o).run P w = r at *
  cases r with
  | ok n w' =>
    cases n <;> simp only [Oper.upon] at hh <;> simp only [Oper.uponIn]
    case enter f args =>
      refine ⟨fun h => by simp [Fence.wide] at h, CallsIn.inRound l (callsIn_wide.2 (hh.mono fun e w'' hq => ?_))⟩
      cases e with
      | returned v => exact h _ _ hq
      | panicked c => exact hq.elim
      | outgrown => exact absurd hq onlyN_lets
    case row row args =>
      refine ⟨fun h => by simp [Fence.wide] at h, fun c cs hr => ?_⟩
      obtain ⟨v, w2, hr2, hs⟩ := hh c cs
      exact ⟨v, w2, h _ _ hr2, stepsIn_wide.2 hs⟩
    all_goals exact h _ _ hh
  | halt x w' =>
    cases x <;> simp only [Oper.upon] at hh
    all_goals exact hh.elim
theorem wpOpIn_of_wpOp (hnd : noDefer ops = true) {i : Nat} {a : Act} {w : World} {K K' : Act → World → Prop} (h : ∀ a w, K a w → K' a w) (hh : wpOp P ops (onlyN Q) i K a w) : wpOpIn (Fence.wide.inRound l) 0 P ops Q i K' a w := by
  unfold wpOp at hh
  unfold wpOpIn
  split
  · rename_i ho; simp only [ho] at hh; exact h _ _ hh
  · rename_i o ho
    simp only [ho] at hh
    split
    · rename_i hw
      simp only [hw, if_true] at hh
      rcases hh with hh | ⟨_, hh⟩
      · refine wpIn_of_wp (fun c hc => ?_) h hh
        have := List.all_eq_true.1 hnd o (Array.mem_toList_iff.2 (Array.mem_of_getElem? ho))
        rw [hc] at this
        cases this
      · exact absurd hh onlyN_lets
    · rename_i hw; simp only [hw] at hh; exact ⟨fun _ _ => trivial, h _ _ hh⟩
theorem wpAnyIn_of_held (hnd : noDefer ops = true) {S : World → Prop} : ∀ (f : Nat) (listed : Array Bool) (a : Act) (w : World), wpAnyH P md ops (onlyN Q) S f listed a w → wpAnyIn (Fence.wide.inRound l) 0 P md ops Q f listed a w
  | 0, _, _, _, h => h
  | f + 1, listed, a, w, h => ⟨h.1, fun i hi => wpOpIn_of_wpOp hnd (fun a' w' h' => wpAnyIn_of_held hnd f _ a' w' h'.2) (h.2 i hi)⟩
end
theorem wpIn_region_held {l : Nat} {P : Program} {id : Nat} {ops : Array Oper} {Q : Exit → Act → World → Prop} {a : Act} {w : World} {S : World → Prop} (hm : P.follows .mixedOrders = true) (hnd : noDefer ops = true) (hS : S w.drew)
    (h : S w.drew → wpAnyH P .any ops (onlyN Q) S ops.size (Array.replicate ops.size false) a w.drew) : (Code.region id ops true).wpIn (Fence.wide.inRound l) 0 P Q a w :=
  wpIn_region_any hm (wpAnyIn_of_held hnd _ _ _ _ (h hS))
end Go.Proofs.Ytbmfaffnbjmipaa
