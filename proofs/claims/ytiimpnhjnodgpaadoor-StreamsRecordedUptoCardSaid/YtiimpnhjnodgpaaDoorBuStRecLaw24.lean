/- slices.Sort of ints: the shelf's contract at this seat's numbers. -/
import Derived.Test.YtiimpnhjnodgpaaDoorBuStRecLaw01
import Derived.Shelf.Sort.Plain
import Derived.Shelf.Slices.In.SortNone
import Derived.Sort.OwnSortedInts
import Derived.Test.YtiimpnhjnodgpaaDoorProg
import Derived.ProofKit
namespace Go.Proofs.YtiimpnhjnodgpaaDoor
open Go.Shelf Go.Sort Go.RowKit

def ren189 : Go.Shelf.Ren := ⟨fun | 125 => 79 | 128 => 91 | 129 => 92 | 189 => 68 | 215 => 98 | 216 => 88 | 257 => 78 | 294 => 82 | 295 => 83 | 296 => 84 | 297 => 85 | 298 => 86 | 299 => 87 | 300 => 89 | 301 => 90 | 328 => 93 | 329 => 94 | 330 => 95 | 331 => 96 | 332 => 97 | 343 => 99 | n => n, fun | 0 => 0 | 3 => 3 | 4 => 4 | 5 => 5 | 9 => 9 | 28 => 57 | 46 => 132 | 51 => 168 | 53 => 96 | 131 => 165 | 182 => 159 | 183 => 160 | 218 => 170 | 222 => 174 | 228 => 177 | 229 => 115 | n => n, fun n => n⟩
abbrev intsV (l : List Int) : List Value := l.map (.int .i64)
end Go.Proofs.YtiimpnhjnodgpaaDoor
