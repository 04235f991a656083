/- slices.Sort of ints: the shelf's contract at this seat's numbers. -/
import Derived.Test.YthcicmbkkkhifaaDoorBuBatSoLaw01
import Derived.Shelf.Sort.Plain
import Derived.Shelf.Slices.In.SortNone
import Derived.Sort.OwnSortedInts
import Derived.Test.YthcicmbkkkhifaaDoorProg
import Derived.ProofKit
set_option linter.unusedSimpArgs false
set_option linter.unusedVariables false
namespace Go.Proofs.YthcicmbkkkhifaaDoor
open Go.Shelf Go.Sort Go.RowKit

def ren189 : Go.Shelf.Ren := ⟨fun | 125 => 41 | 128 => 58 | 129 => 59 | 189 => 30 | 215 => 80 | 216 => 55 | 257 => 40 | 294 => 49 | 295 => 50 | 296 => 51 | 297 => 52 | 298 => 53 | 299 => 54 | 300 => 56 | 301 => 57 | 328 => 75 | 329 => 76 | 330 => 77 | 331 => 78 | 332 => 79 | 343 => 87 | n => n, fun | 0 => 0 | 3 => 3 | 4 => 4 | 5 => 5 | 9 => 9 | 28 => 35 | 46 => 81 | 51 => 98 | 53 => 59 | 131 => 95 | 182 => 89 | 183 => 90 | 218 => 113 | 222 => 117 | 228 => 125 | 229 => 126 | n => n, fun n => n⟩
theorem lays189 : Go.Proofs.Lays.n189 Tryd.prog ren189 := {
  mixed := by kernel_rfl
  f125 := Tryd.func41.trans (congrArg some (by kernel_rfl))
  f128 := Tryd.func58.trans (congrArg some (by kernel_rfl))
  f129 := Tryd.func59.trans (congrArg some (by kernel_rfl))
  f189 := Tryd.func30.trans (congrArg some (by kernel_rfl))
  f215 := Tryd.func80.trans (congrArg some (by kernel_rfl))
  f216 := Tryd.func55.trans (congrArg some (by kernel_rfl))
  f257 := Tryd.func40.trans (congrArg some (by kernel_rfl))
  f294 := Tryd.func49.trans (congrArg some (by kernel_rfl))
  f295 := Tryd.func50.trans (congrArg some (by kernel_rfl))
  f296 := Tryd.func51.trans (congrArg some (by kernel_rfl))
  f297 := Tryd.func52.trans (congrArg some (by kernel_rfl))
  f298 := Tryd.func53.trans (congrArg some (by kernel_rfl))
  f299 := Tryd.func54.trans (congrArg some (by kernel_rfl))
  f300 := Tryd.func56.trans (congrArg some (by kernel_rfl))
  f301 := Tryd.func57.trans (congrArg some (by kernel_rfl))
  f328 := Tryd.func75.trans (congrArg some (by kernel_rfl))
  f329 := Tryd.func76.trans (congrArg some (by kernel_rfl))
  f330 := Tryd.func77.trans (congrArg some (by kernel_rfl))
  f331 := Tryd.func78.trans (congrArg some (by kernel_rfl))
  f332 := Tryd.func79.trans (congrArg some (by kernel_rfl))
  f343 := Tryd.func87.trans (congrArg some (by kernel_rfl))
  t0 := Tryd.underlying0
  a0 := Tryd.isAgg0
  z0 := Tryd.sizeOf0
  v0 := Tryd.zeroValue0
  t3 := Tryd.underlying3
  a3 := Tryd.isAgg3
  z3 := Tryd.sizeOf3
  v3 := Tryd.zeroValue3
  t4 := Tryd.underlying4
  a4 := Tryd.isAgg4
  z4 := Tryd.sizeOf4
  v4 := Tryd.zeroValue4
  t5 := Tryd.underlying5
  a5 := Tryd.isAgg5
  z5 := Tryd.sizeOf5
  v5 := Tryd.zeroValue5
  t9 := Tryd.underlying9
  a9 := Tryd.isAgg9
  z9 := Tryd.sizeOf9
  v9 := Tryd.zeroValue9
  t28 := Tryd.underlying35
  a28 := Tryd.isAgg35
  z28 := Tryd.sizeOf35
  v28 := Tryd.zeroValue35
  t46 := Tryd.underlying81
  a46 := Tryd.isAgg81
  z46 := Tryd.sizeOf81
  v46 := Tryd.zeroValue81
  t51 := Tryd.underlying98
  a51 := Tryd.isAgg98
  z51 := Tryd.sizeOf98
  v51 := Tryd.zeroValue98
  t53 := Tryd.underlying59
  a53 := Tryd.isAgg59
  z53 := Tryd.sizeOf59
  v53 := Tryd.zeroValue59
  t131 := Tryd.underlying95
  a131 := Tryd.isAgg95
  z131 := Tryd.sizeOf95
  v131 := Tryd.zeroValue95
  t182 := Tryd.underlying89
  a182 := Tryd.isAgg89
  z182 := Tryd.sizeOf89
  v182 := Tryd.zeroValue89
  t183 := Tryd.underlying90
  a183 := Tryd.isAgg90
  z183 := Tryd.sizeOf90
  v183 := Tryd.zeroValue90
  t218 := Tryd.underlying113
  a218 := Tryd.isAgg113
  z218 := Tryd.sizeOf113
  v218 := Tryd.zeroValue113
  t222 := Tryd.underlying117
  a222 := Tryd.isAgg117
  z222 := Tryd.sizeOf117
  v222 := Tryd.zeroValue117
  t228 := Tryd.underlying125
  a228 := Tryd.isAgg125
  z228 := Tryd.sizeOf125
  v228 := Tryd.zeroValue125
  t229 := Tryd.underlying126
  a229 := Tryd.isAgg126
  z229 := Tryd.sizeOf126
  v229 := Tryd.zeroValue126 }
theorem Sort_ints (blk off cap : Nat) (zs : List Int) (w : World) (hH : Holds (Value.int .i64) w blk off zs.toArray) (hblk : blk < w.heap.size) (hsz : zs.length < 4611686018427387904) :
    Calls Tryd.prog 30 #[.slice (some ⟨blk, off, none⟩) zs.length cap] w fun e w' =>
      e = .returned (.tuple #[]) ∧ ∃ n os, w' = grow (putRow (Value.int .i64) (Sort.ahead w n) blk off (zs.mergeSort fun x y => decide (x ≤ y)).toArray) os :=
  Any.slices_Sort_int lays189 blk off cap zs w hH hblk hsz
theorem Sort_none (p : Option Addr) (cap : Nat) (w : World) :
    Calls Tryd.prog 30 #[.slice p 0 cap] w fun e w' => e = .returned (.tuple #[]) ∧ w' = w :=
  Any.slices_Sort_int_none lays189 p cap w

abbrev intsV (l : List Int) : List Value := l.map (.int .i64)
/-- A slice of the call's own, sorted. -/
theorem Sort_own {w : World} {base : Nat} {v : Value} {zs : List Int} (h : w.ownsRow base 3 1 v zs.length (intsV zs)) (hsz : zs.length < 4611686018427387904) :
    Calls Tryd.prog 30 #[v] w fun e w' => e = .returned (.tuple #[]) ∧ w'.ownsRow base 3 1 v zs.length (intsV (zs.mergeSort fun x y => decide (x ≤ y))) ∧ w.grownBy w' v.ownBlock := by
  rcases h.2 with ⟨rfl, h0⟩ | ⟨g, cap, cur, rfl, hB, hg, hn, hc, hs, ht⟩
  · have hz : zs = [] := List.eq_nil_of_length_eq_zero h0
    subst hz
    refine (Sort_none none 0 w).mono ?_
    rintro e w' ⟨rfl, rfl⟩
    exact ⟨rfl, by simpa using h, World.grownBy.refl _ _⟩
  · have hH : Holds (Value.int .i64) w g 0 zs.toArray := holds_of_blockI hg (by simpa using ht)
    refine (Sort_ints g 0 cap zs w hH (Array.getElem?_eq_some_iff.1 hg).1 hsz).mono ?_
    rintro e w' ⟨rfl, n, os, rfl⟩
    refine ⟨rfl, ?_, grownBy_sortedI _⟩
    exact ownsRow_sortedI (by simp) hB hg hn hc hs
end Go.Proofs.YthcicmbkkkhifaaDoor
