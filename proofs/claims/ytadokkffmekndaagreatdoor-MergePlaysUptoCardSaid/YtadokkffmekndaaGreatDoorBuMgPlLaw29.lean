/- A region that draws its order, in a round of a range over a function: its first operations only read: walked in the order of the text. · A region that draws its order, with calls, in a round of a range over a function: its operations read what the calls leave alone. -/
import Derived.Test.YtadokkffmekndaaGreatDoorBuMgPlLaw28
import Derived.OrdersIn
import Derived.RangeFuncCalls
import Derived.OwnWalkIn
import Derived.OrdersHeld
import Derived.Deep.RegionHeld3
set_option linter.unusedSimpArgs false
set_option linter.unusedVariables false
namespace Go.Proofs.YtadokkffmekndaaGreatDoor
section
open Go.RowKit
def noDefer (ops : Array Oper) : Bool := ops.toList.all fun o => match o.op with | .defer _ => false | _ => true
section
variable {l : Nat} {P : Program} {ops : Array Oper} {md : Region.Mode} {w : World} {Q' : Exit → Act → World → Prop}
end
end
section
open Go.RowKit
abbrev onlyN (Q : Exit → Act → World → Prop) : Exit → Act → World → Prop := fun e a w => match e with | .normal => Q .normal a w | _ => False
section
variable {l : Nat} {P : Program} {ops : Array Oper} {md : Region.Mode} {Q : Exit → Act → World → Prop}
end
def bitsL : Nat → List (List Bool)
  | 0 => [[]]
  | n + 1 => (bitsL n).flatMap fun l => [false :: l, true :: l]
abbrev fullL (l : List Bool) (m : Nat) : Array Bool := (l ++ List.replicate m false).toArray
def shutB (md : Region.Mode) (ops : Array Oper) (L : Array Bool) : Bool := (List.range ops.size).all fun i => !L.getD i false || ((ops[i]?).map (·.after.all fun e => !Region.binds md e || L.getD e.on false)).getD true
def headB (md : Region.Mode) (l1 : List Oper) (n : Nat) : Bool :=
  decide (n ≤ l1.length) && ((l1.take n).all fun o => match o.guard with | none => true | some (j, _) => decide (j < n)) && shutB md l1.toArray (fullL (List.replicate n false) (l1.length - n)) &&
  Region.seqB md l1.toArray (l1.length - n) n (fullL (List.replicate n true) (l1.length - n)) &&
  (bitsL n).all fun l => l.all id || !shutB md l1.toArray (fullL l (l1.length - n)) ||
    (!(Region.ready md l1.toArray (fullL l (l1.length - n))).isEmpty && decide (Region.ready md l1.toArray (fullL l (l1.length - n)) = Region.ready md (l1.take n).toArray l.toArray) &&
      (Region.ready md l1.toArray (fullL l (l1.length - n))).all fun i => decide (i < n) && decide ((l.set i true).countP id = l.countP id + 1) && shutB md l1.toArray (fullL (l.set i true) (l1.length - n)))
section
variable {l : Nat} {P : Program} {Q QT : Exit → Act → World → Prop} {md : Region.Mode} {S : World → Prop} {l1 : List Oper} {n : Nat}
end
end
end Go.Proofs.YtadokkffmekndaaGreatDoor
