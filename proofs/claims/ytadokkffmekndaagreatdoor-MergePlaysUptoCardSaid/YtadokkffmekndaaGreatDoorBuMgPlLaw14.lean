/- slices.Sort of ints: the shelf's contract at this seat's numbers. -/
import Derived.Test.YtadokkffmekndaaGreatDoorBuMgPlLaw01
import Derived.Shelf.Sort.Plain
import Derived.Shelf.Slices.In.SortNone
import Derived.Sort.OwnSortedInts
import Derived.Test.YtadokkffmekndaaGreatDoorProg
import Derived.ProofKit
set_option linter.unusedSimpArgs false
set_option linter.unusedVariables false
namespace Go.Proofs.YtadokkffmekndaaGreatDoor
open Go.Shelf Go.Sort Go.RowKit
def ren189 : Go.Shelf.Ren := ⟨fun | 125 => 59 | 128 => 93 | 129 => 94 | 189 => 37 | 215 => 123 | 216 => 90 | 257 => 58 | 294 => 84 | 295 => 85 | 296 => 86 | 297 => 87 | 298 => 88 | 299 => 89 | 300 => 91 | 301 => 92 | 328 => 118 | 329 => 119 | 330 => 120 | 331 => 121 | 332 => 122 | 343 => 150 | n => n, fun | 0 => 0 | 3 => 3 | 4 => 4 | 5 => 5 | 9 => 9 | 28 => 23 | 46 => 114 | 51 => 149 | 53 => 119 | 131 => 146 | 182 => 140 | 183 => 141 | 218 => 180 | 222 => 184 | 228 => 215 | 229 => 55 | n => n, fun n => n⟩
theorem lays189 : Go.Proofs.Lays.n189 Tryz.prog ren189 := {
  mixed := by kernel_rfl
  f125 := Tryz.func59.trans (congrArg some (by kernel_rfl))
  f128 := Tryz.func93.trans (congrArg some (by kernel_rfl))
  f129 := Tryz.func94.trans (congrArg some (by kernel_rfl))
  f189 := Tryz.func37.trans (congrArg some (by kernel_rfl))
  f215 := Tryz.func123.trans (congrArg some (by kernel_rfl))
  f216 := Tryz.func90.trans (congrArg some (by kernel_rfl))
  f257 := Tryz.func58.trans (congrArg some (by kernel_rfl))
  f294 := Tryz.func84.trans (congrArg some (by kernel_rfl))
  f295 := Tryz.func85.trans (congrArg some (by kernel_rfl))
  f296 := Tryz.func86.trans (congrArg some (by kernel_rfl))
  f297 := Tryz.func87.trans (congrArg some (by kernel_rfl))
  f298 := Tryz.func88.trans (congrArg some (by kernel_rfl))
  f299 := Tryz.func89.trans (congrArg some (by kernel_rfl))
  f300 := Tryz.func91.trans (congrArg some (by kernel_rfl))
  f301 := Tryz.func92.trans (congrArg some (by kernel_rfl))
  f328 := Tryz.func118.trans (congrArg some (by kernel_rfl))
  f329 := Tryz.func119.trans (congrArg some (by kernel_rfl))
  f330 := Tryz.func120.trans (congrArg some (by kernel_rfl))
  f331 := Tryz.func121.trans (congrArg some (by kernel_rfl))
  f332 := Tryz.func122.trans (congrArg some (by kernel_rfl))
  f343 := Tryz.func150.trans (congrArg some (by kernel_rfl))
  t0 := Tryz.underlying0
  a0 := Tryz.isAgg0
  z0 := Tryz.sizeOf0
  v0 := Tryz.zeroValue0
  t3 := Tryz.underlying3
  a3 := Tryz.isAgg3
  z3 := Tryz.sizeOf3
  v3 := Tryz.zeroValue3
  t4 := Tryz.underlying4
  a4 := Tryz.isAgg4
  z4 := Tryz.sizeOf4
  v4 := Tryz.zeroValue4
  t5 := Tryz.underlying5
  a5 := Tryz.isAgg5
  z5 := Tryz.sizeOf5
  v5 := Tryz.zeroValue5
  t9 := Tryz.underlying9
  a9 := Tryz.isAgg9
  z9 := Tryz.sizeOf9
  v9 := Tryz.zeroValue9
  t28 := Tryz.underlying23
  a28 := Tryz.isAgg23
  z28 := Tryz.sizeOf23
  v28 := Tryz.zeroValue23
  t46 := Tryz.underlying114
  a46 := Tryz.isAgg114
  z46 := Tryz.sizeOf114
  v46 := Tryz.zeroValue114
  t51 := Tryz.underlying149
  a51 := Tryz.isAgg149
  z51 := Tryz.sizeOf149
  v51 := Tryz.zeroValue149
  t53 := Tryz.underlying119
  a53 := Tryz.isAgg119
  z53 := Tryz.sizeOf119
  v53 := Tryz.zeroValue119
  t131 := Tryz.underlying146
  a131 := Tryz.isAgg146
  z131 := Tryz.sizeOf146
  v131 := Tryz.zeroValue146
  t182 := Tryz.underlying140
  a182 := Tryz.isAgg140
  z182 := Tryz.sizeOf140
  v182 := Tryz.zeroValue140
  t183 := Tryz.underlying141
  a183 := Tryz.isAgg141
  z183 := Tryz.sizeOf141
  v183 := Tryz.zeroValue141
  t218 := Tryz.underlying180
  a218 := Tryz.isAgg180
  z218 := Tryz.sizeOf180
  v218 := Tryz.zeroValue180
  t222 := Tryz.underlying184
  a222 := Tryz.isAgg184
  z222 := Tryz.sizeOf184
  v222 := Tryz.zeroValue184
  t228 := Tryz.underlying215
  a228 := Tryz.isAgg215
  z228 := Tryz.sizeOf215
  v228 := Tryz.zeroValue215
  t229 := Tryz.underlying55
  a229 := Tryz.isAgg55
  z229 := Tryz.sizeOf55
  v229 := Tryz.zeroValue55 }
theorem Sort_ints (blk off cap : Nat) (zs : List Int) (w : World) (hH : Holds (Value.int .i64) w blk off zs.toArray) (hblk : blk < w.heap.size) (hsz : zs.length < 4611686018427387904) :
    Calls Tryz.prog 37 #[.slice (some ⟨blk, off, none⟩) zs.length cap] w fun e w' =>
      e = .returned (.tuple #[]) ∧ ∃ n os, w' = grow (putRow (Value.int .i64) (Sort.ahead w n) blk off (zs.mergeSort fun x y => decide (x ≤ y)).toArray) os :=
  Any.slices_Sort_int lays189 blk off cap zs w hH hblk hsz
theorem Sort_none (p : Option Addr) (cap : Nat) (w : World) :
    Calls Tryz.prog 37 #[.slice p 0 cap] w fun e w' => e = .returned (.tuple #[]) ∧ w' = w :=
  Any.slices_Sort_int_none lays189 p cap w
abbrev intsV (l : List Int) : List Value := l.map (.int .i64)
theorem Sort_own {w : World} {base : Nat} {v : Value} {zs : List Int} (h : w.ownsRow base 3 1 v zs.length (intsV zs)) (hsz : zs.length < 4611686018427387904) :
    Calls Tryz.prog 37 #[v] w fun e w' => e = .returned (.tuple #[]) ∧ w'.ownsRow base 3 1 v zs.length (intsV (zs.mergeSort fun x y => decide (x ≤ y))) ∧ w.grownBy w' v.ownBlock := by
  rcases h.2 with ⟨rfl, h0⟩ | ⟨g, cap, cur, rfl, hB, hg, hn, hc, hs, ht⟩
  · have hz : zs = [] := List.eq_nil_of_length_eq_zero h0
    subst hz
    refine (Sort_none none 0 w).mono ?_
    rintro e w' ⟨rfl, rfl⟩
    exact ⟨rfl, by simpa using h, World.grownBy.refl _ _⟩
  · have hH : Holds (Value.int .i64) w g 0 zs.toArray := holds_of_blockI hg (by simpa using ht)
    refine (Sort_ints g 0 cap zs w hH (Array.getElem?_eq_some_iff.1 hg).1 hsz).mono ?_
    rintro e w' ⟨rfl, n, os, rfl⟩
    refine ⟨rfl, ?_, grownBy_sortedI _⟩
    exact ownsRow_sortedI (by simp) hB hg hn hc hs
end Go.Proofs.YtadokkffmekndaaGreatDoor
