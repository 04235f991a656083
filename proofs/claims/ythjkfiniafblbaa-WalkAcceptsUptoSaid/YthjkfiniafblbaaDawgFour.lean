/- The automaton of four words. -/
import Derived.Test.YthjkfiniafblbaaDawgP
namespace Go.Proofs.Ythjkfiniafblbaa

def cat : List UInt8 := [99, 97, 116]
def cats : List UInt8 := [99, 97, 116, 115]
def dog : List UInt8 := [100, 111, 103]
def dogs : List UInt8 := [100, 111, 103, 115]
/-- The automaton of cat, cats, dog, dogs. -/
def four : List Sta := [⟨false, [(99, 1), (100, 5)]⟩, ⟨false, [(97, 2)]⟩, ⟨false, [(116, 3)]⟩, ⟨true, [(115, 4)]⟩, ⟨true, []⟩, ⟨false, [(111, 6)]⟩, ⟨false, [(103, 3)]⟩]
theorem build_four : buildP [cat, cats, dog, dogs] = some four := by decide
theorem four_shape : shapeB four = true := by decide
end Go.Proofs.Ythjkfiniafblbaa
