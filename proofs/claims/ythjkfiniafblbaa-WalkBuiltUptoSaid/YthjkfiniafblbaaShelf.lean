/- strings.Builder's String: the shelf's contract at this seat's numbers. -/
import Derived.Shelf.Strings.Builder1
import Derived.Test.YthjkfiniafblbaaProg
namespace Go.Proofs.Ythjkfiniafblbaa
open Go.Shelf Go.RowKit

def ren169 : Go.Shelf.Ren := ⟨fun | 169 => 61 | n => n, fun | 70 => 122 | 9 => 9 | 0 => 0 | 72 => 124 | 37 => 83 | 127 => 147 | 3 => 3 | 5 => 5 | n => n, fun | n => n⟩
theorem lays169 : Go.Proofs.Lays.n169 Try.prog ren169 := {
  mixed := by kernel_rfl
  f169 := Try.func61.trans (congrArg some (by kernel_rfl))
  t0 := Try.underlying0
  a0 := Try.isAgg0
  z0 := Try.sizeOf0
  v0 := Try.zeroValue0
  t3 := Try.underlying3
  a3 := Try.isAgg3
  z3 := Try.sizeOf3
  v3 := Try.zeroValue3
  t9 := Try.underlying9
  a9 := Try.isAgg9
  z9 := Try.sizeOf9
  v9 := Try.zeroValue9
  t37 := Try.underlying83
  a37 := Try.isAgg83
  z37 := Try.sizeOf83
  v37 := Try.zeroValue83
  t70 := Try.underlying122
  a70 := Try.isAgg122
  z70 := Try.sizeOf122
  v70 := Try.zeroValue122
  t72 := Try.underlying124
  a72 := Try.isAgg124
  z72 := Try.sizeOf124
  v72 := Try.zeroValue124
  t127 := Try.underlying147
  a127 := Try.isAgg147
  z127 := Try.sizeOf147
  v127 := Try.zeroValue147 }
theorem extra169 : Builder.Extra Try.prog ren169 := {
  sizeBuilder := by kernel_rfl
  liesBuilder := by kernel_rfl
  t5 := Try.underlying5
  a5 := Try.isAgg5
  z5 := Try.sizeOf5
  v5 := Try.zeroValue5
  infoByte := by kernel_rfl
  cellsByte := by kernel_rfl
  sizeByte := by kernel_rfl
  neB5 := by decide }
theorem Builder_String_any (B b : Nat) (l : List UInt8) (w : World) (h : Lib.IsBuilder 124 5 B b (Lib.byteCells l) w) (hBw : B ≤ w.heap.size) :
    Calls Try.prog 61 #[.pointer (some ⟨b, 0, none⟩)] w fun e w' => e = .returned (.string ⟨l.toArray⟩) ∧ Below B w w' := Any.Builder_String_any lays169 extra169 B b l w h hBw

end Go.Proofs.Ythjkfiniafblbaa
