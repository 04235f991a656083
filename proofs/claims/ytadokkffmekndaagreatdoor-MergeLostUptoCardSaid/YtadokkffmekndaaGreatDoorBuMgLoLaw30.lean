/- streams: sift's iterator walked. · streams: what From, Minus and Common make. -/
import Derived.Test.YtadokkffmekndaaGreatDoorBuMgLoLaw27
import Derived.Test.YtadokkffmekndaaGreatDoorBuMgLoLaw29
set_option linter.unusedSimpArgs false
set_option linter.unusedVariables false
namespace Go.Proofs.YtadokkffmekndaaGreatDoor
open Go.RowKit
attribute [local go_sem] Oper.semAt_some
def siftL (M : List (List UInt8)) (b : Bool) (L : List (List UInt8)) : List (List UInt8) := L.filter fun x => decide (x ∈ M) == b
abbrev SiftT (bt bs bw : Nat) (vt vs : Value) (b : Bool) (Φ : Thing) : Thing := Both (CellT bt #[vt] tStr) (Both (CellT bs #[vs] tStr) (Both (CellT bw #[.bool b] tBo) Φ))
theorem SiftT.stable (bt bs bw : Nat) (vt vs : Value) (b : Bool) {Φ : Thing} (h : Stable Φ) : Stable (SiftT bt bs bw vt vs b Φ) := (CellT.stable _ _ _).both ((CellT.stable _ _ _).both ((CellT.stable _ _ _).both h))
def SifI (kl ky : Nat) (v1 : Value) (M : List (List UInt8)) (b : Bool) (yv : Value) (J : List (List UInt8) → Thing) (p : List (List UInt8)) : Thing := fun w fp =>
  ∃ u, WithT (Both (CellT kl #[u] tTxs) (Both (RowG tTx 1 v1 M.length (strs M)) (Both (CellT ky #[yv] tYd) (J (siftL M b p))))) (∃ i, LeftV u v1 M i ∧ ∀ z ∈ M.take i, ∃ q ∈ p, LtW z q) w fp
theorem SifI.stable (kl ky : Nat) (v1 : Value) (M : List (List UInt8)) (b : Bool) (yv : Value) {J : List (List UInt8) → Thing} (hJ : ∀ p, Stable (J p)) (p : List (List UInt8)) : Stable (SifI kl ky v1 M b yv J p) :=
  Stable.ex fun _ => WithT.stable ((CellT.stable _ _ _).both ((RowG.stable _ _ _ _ _).both ((CellT.stable _ _ _).both (hJ _)))) _
section
variable {W w : World} {A B C D E F : Thing}
end
section
variable {W w : World} {Φ R : Thing}
def MkStr (W : World) (Φ R : Thing) (L : List (List UInt8)) (e : Ending) (w' : World) : Prop := ∃ N u, Stable N ∧ e = .returned (.agg #[u]) ∧ IsStr W (Both N Φ) u L ∧ At W w' (Both (Both N Φ) R)
end
end Go.Proofs.YtadokkffmekndaaGreatDoor
