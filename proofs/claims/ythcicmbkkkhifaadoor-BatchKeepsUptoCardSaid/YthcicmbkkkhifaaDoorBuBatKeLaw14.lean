/- slices.Sort of ints: the shelf's contract at this seat's numbers. -/
import Derived.Test.YthcicmbkkkhifaaDoorBuBatKeLaw01
import Derived.Shelf.Sort.Plain
import Derived.Shelf.Slices.In.SortNone
import Derived.Sort.OwnSortedInts
import Derived.Test.YthcicmbkkkhifaaDoorProg
import Derived.ProofKit
set_option linter.unusedSimpArgs false
set_option linter.unusedVariables false
namespace Go.Proofs.YthcicmbkkkhifaaDoor
open Go.Shelf Go.Sort Go.RowKit

def ren189 : Go.Shelf.Ren := ⟨fun | 125 => 41 | 128 => 58 | 129 => 59 | 189 => 30 | 215 => 80 | 216 => 55 | 257 => 40 | 294 => 49 | 295 => 50 | 296 => 51 | 297 => 52 | 298 => 53 | 299 => 54 | 300 => 56 | 301 => 57 | 328 => 75 | 329 => 76 | 330 => 77 | 331 => 78 | 332 => 79 | 343 => 87 | n => n, fun | 0 => 0 | 3 => 3 | 4 => 4 | 5 => 5 | 9 => 9 | 28 => 35 | 46 => 81 | 51 => 98 | 53 => 59 | 131 => 95 | 182 => 89 | 183 => 90 | 218 => 113 | 222 => 117 | 228 => 125 | 229 => 126 | n => n, fun n => n⟩
abbrev intsV (l : List Int) : List Value := l.map (.int .i64)
end Go.Proofs.YthcicmbkkkhifaaDoor
