/- StreamsPlays: a node made. -/
import Derived.Test.YtgeabmmicofanaaGreatDoorBuSpLaw06
import Derived.Test.YtgeabmmicofanaaGreatDoorBuSpLaw09
import Derived.Test.YtgeabmmicofanaaGreatDoorBuSpLaw23
import Derived.Test.YtgeabmmicofanaaGreatDoorBuSpLaw05
set_option linter.unusedSimpArgs false
set_option linter.unusedVariables false
namespace Go.Proofs.YtgeabmmicofanaaGreatDoor
open Go.RowKit

structure Nd where
  u : Value
  wv : Value
  L : List (List UInt8)
  p : Nat
def Nd.zero : Nd := ⟨.nilFunc, .slice none 0 0, [], 1⟩
instance : Inhabited Nd := ⟨Nd.zero⟩
end Go.Proofs.YtgeabmmicofanaaGreatDoor
