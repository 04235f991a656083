/- slices.Sort, slices.Compact, slices.Clone of texts: the shelf's contracts at this seat's numbers (written in part by port/shelfren.py). -/
import Derived.Test.YthcicmbkkkhifaaGreatDoorBuBatPlLaw04
import Derived.Shelf.Sort.Plain
import Derived.Shelf.Slices.In.SortNone
import Derived.Shelf.Slices.CompactS
import Derived.Shelf.Slices.Clone
import Derived.Sort.OwnSorted
import Derived.Test.YthcicmbkkkhifaaGreatDoorProg
import Derived.ProofKit
set_option linter.unusedSimpArgs false
set_option linter.unusedVariables false
namespace Go.Proofs.YthcicmbkkkhifaaGreatDoor
open Go.Shelf Go.Sort Go.RowKit

def ren190 : Go.Shelf.Ren := ⟨fun | 125 => 51 | 128 => 74 | 129 => 75 | 190 => 40 | 258 => 54 | 302 => 76 | 303 => 77 | 304 => 78 | 305 => 79 | 306 => 80 | 307 => 81 | 308 => 82 | 309 => 83 | 310 => 84 | 329 => 96 | 330 => 97 | 333 => 101 | 334 => 102 | 335 => 103 | 336 => 104 | 344 => 111 | n => n, fun | 0 => 0 | 3 => 3 | 4 => 4 | 5 => 5 | 9 => 9 | 31 => 22 | 46 => 101 | 51 => 128 | 53 => 130 | 131 => 125 | 182 => 119 | 183 => 120 | 218 => 152 | 222 => 156 | 228 => 166 | 229 => 96 | n => n, fun n => n⟩
theorem lays190 : Go.Proofs.Lays.n190 Tryz.prog ren190 := {
  mixed := by kernel_rfl
  f125 := Tryz.func51.trans (congrArg some (by kernel_rfl))
  f128 := Tryz.func74.trans (congrArg some (by kernel_rfl))
  f129 := Tryz.func75.trans (congrArg some (by kernel_rfl))
  f190 := Tryz.func40.trans (congrArg some (by kernel_rfl))
  f258 := Tryz.func54.trans (congrArg some (by kernel_rfl))
  f302 := Tryz.func76.trans (congrArg some (by kernel_rfl))
  f303 := Tryz.func77.trans (congrArg some (by kernel_rfl))
  f304 := Tryz.func78.trans (congrArg some (by kernel_rfl))
  f305 := Tryz.func79.trans (congrArg some (by kernel_rfl))
  f306 := Tryz.func80.trans (congrArg some (by kernel_rfl))
  f307 := Tryz.func81.trans (congrArg some (by kernel_rfl))
  f308 := Tryz.func82.trans (congrArg some (by kernel_rfl))
  f309 := Tryz.func83.trans (congrArg some (by kernel_rfl))
  f310 := Tryz.func84.trans (congrArg some (by kernel_rfl))
  f329 := Tryz.func96.trans (congrArg some (by kernel_rfl))
  f330 := Tryz.func97.trans (congrArg some (by kernel_rfl))
  f333 := Tryz.func101.trans (congrArg some (by kernel_rfl))
  f334 := Tryz.func102.trans (congrArg some (by kernel_rfl))
  f335 := Tryz.func103.trans (congrArg some (by kernel_rfl))
  f336 := Tryz.func104.trans (congrArg some (by kernel_rfl))
  f344 := Tryz.func111.trans (congrArg some (by kernel_rfl))
  t0 := Tryz.underlying0
  a0 := Tryz.isAgg0
  z0 := Tryz.sizeOf0
  v0 := Tryz.zeroValue0
  t3 := Tryz.underlying3
  a3 := Tryz.isAgg3
  z3 := Tryz.sizeOf3
  v3 := Tryz.zeroValue3
  t4 := Tryz.underlying4
  a4 := Tryz.isAgg4
  z4 := Tryz.sizeOf4
  v4 := Tryz.zeroValue4
  t5 := Tryz.underlying5
  a5 := Tryz.isAgg5
  z5 := Tryz.sizeOf5
  v5 := Tryz.zeroValue5
  t9 := Tryz.underlying9
  a9 := Tryz.isAgg9
  z9 := Tryz.sizeOf9
  v9 := Tryz.zeroValue9
  t31 := Tryz.underlying22
  a31 := Tryz.isAgg22
  z31 := Tryz.sizeOf22
  v31 := Tryz.zeroValue22
  t46 := Tryz.underlying101
  a46 := Tryz.isAgg101
  z46 := Tryz.sizeOf101
  v46 := Tryz.zeroValue101
  t51 := Tryz.underlying128
  a51 := Tryz.isAgg128
  z51 := Tryz.sizeOf128
  v51 := Tryz.zeroValue128
  t53 := Tryz.underlying130
  a53 := Tryz.isAgg130
  z53 := Tryz.sizeOf130
  v53 := Tryz.zeroValue130
  t131 := Tryz.underlying125
  a131 := Tryz.isAgg125
  z131 := Tryz.sizeOf125
  v131 := Tryz.zeroValue125
  t182 := Tryz.underlying119
  a182 := Tryz.isAgg119
  z182 := Tryz.sizeOf119
  v182 := Tryz.zeroValue119
  t183 := Tryz.underlying120
  a183 := Tryz.isAgg120
  z183 := Tryz.sizeOf120
  v183 := Tryz.zeroValue120
  t218 := Tryz.underlying152
  a218 := Tryz.isAgg152
  z218 := Tryz.sizeOf152
  v218 := Tryz.zeroValue152
  t222 := Tryz.underlying156
  a222 := Tryz.isAgg156
  z222 := Tryz.sizeOf156
  v222 := Tryz.zeroValue156
  t228 := Tryz.underlying166
  a228 := Tryz.isAgg166
  z228 := Tryz.sizeOf166
  v228 := Tryz.zeroValue166
  t229 := Tryz.underlying96
  a229 := Tryz.isAgg96
  z229 := Tryz.sizeOf96
  v229 := Tryz.zeroValue96 }
def ren194 : Go.Shelf.Ren := ⟨fun | 194 => 45 | n => n, fun | 0 => 0 | 3 => 3 | 4 => 4 | 9 => 9 | 31 => 22 | n => n, fun n => n⟩
theorem lays194 : Go.Proofs.Lays.n194 Tryz.prog ren194 := {
  mixed := by kernel_rfl
  f194 := Tryz.func45.trans (congrArg some (by kernel_rfl))
  t0 := Tryz.underlying0
  a0 := Tryz.isAgg0
  z0 := Tryz.sizeOf0
  v0 := Tryz.zeroValue0
  t3 := Tryz.underlying3
  a3 := Tryz.isAgg3
  z3 := Tryz.sizeOf3
  v3 := Tryz.zeroValue3
  t4 := Tryz.underlying4
  a4 := Tryz.isAgg4
  z4 := Tryz.sizeOf4
  v4 := Tryz.zeroValue4
  t9 := Tryz.underlying9
  a9 := Tryz.isAgg9
  z9 := Tryz.sizeOf9
  v9 := Tryz.zeroValue9
  t31 := Tryz.underlying22
  a31 := Tryz.isAgg22
  z31 := Tryz.sizeOf22
  v31 := Tryz.zeroValue22 }
section
variable {W w : World} {R : Thing} {v : Value} {L : List (List UInt8)}
theorem Sort_at (h : At W w (Both (RowG 9 1 v L.length (strs L)) R)) (hR : Stable R) (hn : L.length ≤ 8796093022208) :
    Calls Tryz.prog 40 #[v] w fun e w' => e = .returned (.tuple #[]) ∧ At W w' (Both (RowG 9 1 v L.length (strs (L.mergeSort fun x y => decide (x ≤ y)))) R) :=
  h.calls hR fun fp hp h2 => by
    obtain ⟨hp, rfl⟩ := hp
    rcases hp.2 with ⟨rfl, h0⟩ | ⟨g, cap, cur, rfl, hB, hg, hn1, hc, hs, ht⟩
    · have hz : L = [] := List.eq_nil_of_length_eq_zero h0
      subst hz
      refine (Any.slices_Sort_string_none lays190 none 0 w).mono ?_
      rintro e w' ⟨rfl, rfl⟩
      exact ⟨rfl, _, ⟨by simpa using hp, rfl⟩, Upd.refl _ _, fun k hk => .inl hk⟩
    · have hH : Holds encStr w g 0 L.toArray := holds_of_block hg (by simpa using ht)
      refine (Any.slices_Sort_string lays190 g 0 cap L w hH (Array.getElem?_eq_some_iff.1 hg).1 (by omega)).mono ?_
      rintro e w' ⟨rfl, n, os, rfl⟩
      refine ⟨rfl, _, ⟨ownsRow_sorted (by simp) hB hg hn1 hc hs, rfl⟩, (Upd.refl _ _).grown (grownBy_sorted _) (fun k hk => .inl (by cases hk; simp [rowOf, Value.ownBlock])), fun k hk => .inl hk⟩
end
end Go.Proofs.YthcicmbkkkhifaaGreatDoor
