/- slices.Sort of ints: the shelf's contract at this seat's numbers. -/
import Derived.Test.YthcicmbkkkhifaaGreatDoorBuBatPlLaw01
import Derived.Shelf.Sort.Plain
import Derived.Shelf.Slices.In.SortNone
import Derived.Sort.OwnSortedInts
import Derived.Test.YthcicmbkkkhifaaGreatDoorProg
import Derived.ProofKit
set_option linter.unusedSimpArgs false
set_option linter.unusedVariables false
namespace Go.Proofs.YthcicmbkkkhifaaGreatDoor
open Go.Shelf Go.Sort Go.RowKit

def ren189 : Go.Shelf.Ren := ⟨fun | 125 => 51 | 128 => 74 | 129 => 75 | 189 => 31 | 215 => 100 | 216 => 71 | 257 => 50 | 294 => 65 | 295 => 66 | 296 => 67 | 297 => 68 | 298 => 69 | 299 => 70 | 300 => 72 | 301 => 73 | 328 => 95 | 329 => 96 | 330 => 97 | 331 => 98 | 332 => 99 | 343 => 110 | n => n, fun | 0 => 0 | 3 => 3 | 4 => 4 | 5 => 5 | 9 => 9 | 28 => 46 | 46 => 101 | 51 => 128 | 53 => 130 | 131 => 125 | 182 => 119 | 183 => 120 | 218 => 152 | 222 => 156 | 228 => 166 | 229 => 96 | n => n, fun n => n⟩
theorem lays189 : Go.Proofs.Lays.n189 Tryz.prog ren189 := {
  mixed := by kernel_rfl
  f125 := Tryz.func51.trans (congrArg some (by kernel_rfl))
  f128 := Tryz.func74.trans (congrArg some (by kernel_rfl))
  f129 := Tryz.func75.trans (congrArg some (by kernel_rfl))
  f189 := Tryz.func31.trans (congrArg some (by kernel_rfl))
  f215 := Tryz.func100.trans (congrArg some (by kernel_rfl))
  f216 := Tryz.func71.trans (congrArg some (by kernel_rfl))
  f257 := Tryz.func50.trans (congrArg some (by kernel_rfl))
  f294 := Tryz.func65.trans (congrArg some (by kernel_rfl))
  f295 := Tryz.func66.trans (congrArg some (by kernel_rfl))
  f296 := Tryz.func67.trans (congrArg some (by kernel_rfl))
  f297 := Tryz.func68.trans (congrArg some (by kernel_rfl))
  f298 := Tryz.func69.trans (congrArg some (by kernel_rfl))
  f299 := Tryz.func70.trans (congrArg some (by kernel_rfl))
  f300 := Tryz.func72.trans (congrArg some (by kernel_rfl))
  f301 := Tryz.func73.trans (congrArg some (by kernel_rfl))
  f328 := Tryz.func95.trans (congrArg some (by kernel_rfl))
  f329 := Tryz.func96.trans (congrArg some (by kernel_rfl))
  f330 := Tryz.func97.trans (congrArg some (by kernel_rfl))
  f331 := Tryz.func98.trans (congrArg some (by kernel_rfl))
  f332 := Tryz.func99.trans (congrArg some (by kernel_rfl))
  f343 := Tryz.func110.trans (congrArg some (by kernel_rfl))
  t0 := Tryz.underlying0
  a0 := Tryz.isAgg0
  z0 := Tryz.sizeOf0
  v0 := Tryz.zeroValue0
  t3 := Tryz.underlying3
  a3 := Tryz.isAgg3
  z3 := Tryz.sizeOf3
  v3 := Tryz.zeroValue3
  t4 := Tryz.underlying4
  a4 := Tryz.isAgg4
  z4 := Tryz.sizeOf4
  v4 := Tryz.zeroValue4
  t5 := Tryz.underlying5
  a5 := Tryz.isAgg5
  z5 := Tryz.sizeOf5
  v5 := Tryz.zeroValue5
  t9 := Tryz.underlying9
  a9 := Tryz.isAgg9
  z9 := Tryz.sizeOf9
  v9 := Tryz.zeroValue9
  t28 := Tryz.underlying46
  a28 := Tryz.isAgg46
  z28 := Tryz.sizeOf46
  v28 := Tryz.zeroValue46
  t46 := Tryz.underlying101
  a46 := Tryz.isAgg101
  z46 := Tryz.sizeOf101
  v46 := Tryz.zeroValue101
  t51 := Tryz.underlying128
  a51 := Tryz.isAgg128
  z51 := Tryz.sizeOf128
  v51 := Tryz.zeroValue128
  t53 := Tryz.underlying130
  a53 := Tryz.isAgg130
  z53 := Tryz.sizeOf130
  v53 := Tryz.zeroValue130
  t131 := Tryz.underlying125
  a131 := Tryz.isAgg125
  z131 := Tryz.sizeOf125
  v131 := Tryz.zeroValue125
  t182 := Tryz.underlying119
  a182 := Tryz.isAgg119
  z182 := Tryz.sizeOf119
  v182 := Tryz.zeroValue119
  t183 := Tryz.underlying120
  a183 := Tryz.isAgg120
  z183 := Tryz.sizeOf120
  v183 := Tryz.zeroValue120
  t218 := Tryz.underlying152
  a218 := Tryz.isAgg152
  z218 := Tryz.sizeOf152
  v218 := Tryz.zeroValue152
  t222 := Tryz.underlying156
  a222 := Tryz.isAgg156
  z222 := Tryz.sizeOf156
  v222 := Tryz.zeroValue156
  t228 := Tryz.underlying166
  a228 := Tryz.isAgg166
  z228 := Tryz.sizeOf166
  v228 := Tryz.zeroValue166
  t229 := Tryz.underlying96
  a229 := Tryz.isAgg96
  z229 := Tryz.sizeOf96
  v229 := Tryz.zeroValue96 }
theorem Sort_ints (blk off cap : Nat) (zs : List Int) (w : World) (hH : Holds (Value.int .i64) w blk off zs.toArray) (hblk : blk < w.heap.size) (hsz : zs.length < 4611686018427387904) :
    Calls Tryz.prog 31 #[.slice (some ⟨blk, off, none⟩) zs.length cap] w fun e w' =>
      e = .returned (.tuple #[]) ∧ ∃ n os, w' = grow (putRow (Value.int .i64) (Sort.ahead w n) blk off (zs.mergeSort fun x y => decide (x ≤ y)).toArray) os :=
  Any.slices_Sort_int lays189 blk off cap zs w hH hblk hsz
theorem Sort_none (p : Option Addr) (cap : Nat) (w : World) :
    Calls Tryz.prog 31 #[.slice p 0 cap] w fun e w' => e = .returned (.tuple #[]) ∧ w' = w :=
  Any.slices_Sort_int_none lays189 p cap w

abbrev intsV (l : List Int) : List Value := l.map (.int .i64)
/-- A slice of the call's own, sorted. -/
theorem Sort_own {w : World} {base : Nat} {v : Value} {zs : List Int} (h : w.ownsRow base 3 1 v zs.length (intsV zs)) (hsz : zs.length < 4611686018427387904) :
    Calls Tryz.prog 31 #[v] w fun e w' => e = .returned (.tuple #[]) ∧ w'.ownsRow base 3 1 v zs.length (intsV (zs.mergeSort fun x y => decide (x ≤ y))) ∧ w.grownBy w' v.ownBlock := by
  rcases h.2 with ⟨rfl, h0⟩ | ⟨g, cap, cur, rfl, hB, hg, hn, hc, hs, ht⟩
  · have hz : zs = [] := List.eq_nil_of_length_eq_zero h0
    subst hz
    refine (Sort_none none 0 w).mono ?_
    rintro e w' ⟨rfl, rfl⟩
    exact ⟨rfl, by simpa using h, World.grownBy.refl _ _⟩
  · have hH : Holds (Value.int .i64) w g 0 zs.toArray := holds_of_blockI hg (by simpa using ht)
    refine (Sort_ints g 0 cap zs w hH (Array.getElem?_eq_some_iff.1 hg).1 hsz).mono ?_
    rintro e w' ⟨rfl, n, os, rfl⟩
    refine ⟨rfl, ?_, grownBy_sortedI _⟩
    exact ownsRow_sortedI (by simp) hB hg hn hc hs
end Go.Proofs.YthcicmbkkkhifaaGreatDoor
