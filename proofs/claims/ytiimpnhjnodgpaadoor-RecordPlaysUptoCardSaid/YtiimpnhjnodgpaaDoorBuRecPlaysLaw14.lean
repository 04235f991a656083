/- slices.Sort of ints: the shelf's contract at this seat's numbers. -/
import Derived.Test.YtiimpnhjnodgpaaDoorBuRecPlaysLaw01
import Derived.Shelf.Sort.Plain
import Derived.Shelf.Slices.In.SortNone
import Derived.Sort.OwnSortedInts
import Derived.Test.YtiimpnhjnodgpaaDoorProg
import Derived.ProofKit
set_option linter.unusedSimpArgs false
set_option linter.unusedVariables false
namespace Go.Proofs.YtiimpnhjnodgpaaDoor
open Go.Shelf Go.Sort Go.RowKit

def ren189 : Go.Shelf.Ren := ⟨fun | 125 => 79 | 128 => 91 | 129 => 92 | 189 => 68 | 215 => 98 | 216 => 88 | 257 => 78 | 294 => 82 | 295 => 83 | 296 => 84 | 297 => 85 | 298 => 86 | 299 => 87 | 300 => 89 | 301 => 90 | 328 => 93 | 329 => 94 | 330 => 95 | 331 => 96 | 332 => 97 | 343 => 99 | n => n, fun | 0 => 0 | 3 => 3 | 4 => 4 | 5 => 5 | 9 => 9 | 28 => 57 | 46 => 132 | 51 => 168 | 53 => 96 | 131 => 165 | 182 => 159 | 183 => 160 | 218 => 170 | 222 => 174 | 228 => 177 | 229 => 115 | n => n, fun n => n⟩
theorem lays189 : Go.Proofs.Lays.n189 Tryd.prog ren189 := {
  mixed := by kernel_rfl
  f125 := Tryd.func79.trans (congrArg some (by kernel_rfl))
  f128 := Tryd.func91.trans (congrArg some (by kernel_rfl))
  f129 := Tryd.func92.trans (congrArg some (by kernel_rfl))
  f189 := Tryd.func68.trans (congrArg some (by kernel_rfl))
  f215 := Tryd.func98.trans (congrArg some (by kernel_rfl))
  f216 := Tryd.func88.trans (congrArg some (by kernel_rfl))
  f257 := Tryd.func78.trans (congrArg some (by kernel_rfl))
  f294 := Tryd.func82.trans (congrArg some (by kernel_rfl))
  f295 := Tryd.func83.trans (congrArg some (by kernel_rfl))
  f296 := Tryd.func84.trans (congrArg some (by kernel_rfl))
  f297 := Tryd.func85.trans (congrArg some (by kernel_rfl))
  f298 := Tryd.func86.trans (congrArg some (by kernel_rfl))
  f299 := Tryd.func87.trans (congrArg some (by kernel_rfl))
  f300 := Tryd.func89.trans (congrArg some (by kernel_rfl))
  f301 := Tryd.func90.trans (congrArg some (by kernel_rfl))
  f328 := Tryd.func93.trans (congrArg some (by kernel_rfl))
  f329 := Tryd.func94.trans (congrArg some (by kernel_rfl))
  f330 := Tryd.func95.trans (congrArg some (by kernel_rfl))
  f331 := Tryd.func96.trans (congrArg some (by kernel_rfl))
  f332 := Tryd.func97.trans (congrArg some (by kernel_rfl))
  f343 := Tryd.func99.trans (congrArg some (by kernel_rfl))
  t0 := Tryd.underlying0
  a0 := Tryd.isAgg0
  z0 := Tryd.sizeOf0
  v0 := Tryd.zeroValue0
  t3 := Tryd.underlying3
  a3 := Tryd.isAgg3
  z3 := Tryd.sizeOf3
  v3 := Tryd.zeroValue3
  t4 := Tryd.underlying4
  a4 := Tryd.isAgg4
  z4 := Tryd.sizeOf4
  v4 := Tryd.zeroValue4
  t5 := Tryd.underlying5
  a5 := Tryd.isAgg5
  z5 := Tryd.sizeOf5
  v5 := Tryd.zeroValue5
  t9 := Tryd.underlying9
  a9 := Tryd.isAgg9
  z9 := Tryd.sizeOf9
  v9 := Tryd.zeroValue9
  t28 := Tryd.underlying57
  a28 := Tryd.isAgg57
  z28 := Tryd.sizeOf57
  v28 := Tryd.zeroValue57
  t46 := Tryd.underlying132
  a46 := Tryd.isAgg132
  z46 := Tryd.sizeOf132
  v46 := Tryd.zeroValue132
  t51 := Tryd.underlying168
  a51 := Tryd.isAgg168
  z51 := Tryd.sizeOf168
  v51 := Tryd.zeroValue168
  t53 := Tryd.underlying96
  a53 := Tryd.isAgg96
  z53 := Tryd.sizeOf96
  v53 := Tryd.zeroValue96
  t131 := Tryd.underlying165
  a131 := Tryd.isAgg165
  z131 := Tryd.sizeOf165
  v131 := Tryd.zeroValue165
  t182 := Tryd.underlying159
  a182 := Tryd.isAgg159
  z182 := Tryd.sizeOf159
  v182 := Tryd.zeroValue159
  t183 := Tryd.underlying160
  a183 := Tryd.isAgg160
  z183 := Tryd.sizeOf160
  v183 := Tryd.zeroValue160
  t218 := Tryd.underlying170
  a218 := Tryd.isAgg170
  z218 := Tryd.sizeOf170
  v218 := Tryd.zeroValue170
  t222 := Tryd.underlying174
  a222 := Tryd.isAgg174
  z222 := Tryd.sizeOf174
  v222 := Tryd.zeroValue174
  t228 := Tryd.underlying177
  a228 := Tryd.isAgg177
  z228 := Tryd.sizeOf177
  v228 := Tryd.zeroValue177
  t229 := Tryd.underlying115
  a229 := Tryd.isAgg115
  z229 := Tryd.sizeOf115
  v229 := Tryd.zeroValue115 }
theorem Sort_ints (blk off cap : Nat) (zs : List Int) (w : World) (hH : Holds (Value.int .i64) w blk off zs.toArray) (hblk : blk < w.heap.size) (hsz : zs.length < 4611686018427387904) :
    Calls Tryd.prog 68 #[.slice (some ⟨blk, off, none⟩) zs.length cap] w fun e w' =>
      e = .returned (.tuple #[]) ∧ ∃ n os, w' = grow (putRow (Value.int .i64) (Sort.ahead w n) blk off (zs.mergeSort fun x y => decide (x ≤ y)).toArray) os :=
  Any.slices_Sort_int lays189 blk off cap zs w hH hblk hsz
theorem Sort_none (p : Option Addr) (cap : Nat) (w : World) :
    Calls Tryd.prog 68 #[.slice p 0 cap] w fun e w' => e = .returned (.tuple #[]) ∧ w' = w :=
  Any.slices_Sort_int_none lays189 p cap w

abbrev intsV (l : List Int) : List Value := l.map (.int .i64)
/-- A slice of the call's own, sorted. -/
theorem Sort_own {w : World} {base : Nat} {v : Value} {zs : List Int} (h : w.ownsRow base 3 1 v zs.length (intsV zs)) (hsz : zs.length < 4611686018427387904) :
    Calls Tryd.prog 68 #[v] w fun e w' => e = .returned (.tuple #[]) ∧ w'.ownsRow base 3 1 v zs.length (intsV (zs.mergeSort fun x y => decide (x ≤ y))) ∧ w.grownBy w' v.ownBlock := by
  rcases h.2 with ⟨rfl, h0⟩ | ⟨g, cap, cur, rfl, hB, hg, hn, hc, hs, ht⟩
  · have hz : zs = [] := List.eq_nil_of_length_eq_zero h0
    subst hz
    refine (Sort_none none 0 w).mono ?_
    rintro e w' ⟨rfl, rfl⟩
    exact ⟨rfl, by simpa using h, World.grownBy.refl _ _⟩
  · have hH : Holds (Value.int .i64) w g 0 zs.toArray := holds_of_blockI hg (by simpa using ht)
    refine (Sort_ints g 0 cap zs w hH (Array.getElem?_eq_some_iff.1 hg).1 hsz).mono ?_
    rintro e w' ⟨rfl, n, os, rfl⟩
    refine ⟨rfl, ?_, grownBy_sortedI _⟩
    exact ownsRow_sortedI (by simp) hB hg hn hc hs
end Go.Proofs.YtiimpnhjnodgpaaDoor
