/- slices.Sort, slices.Compact, slices.Clone of texts: the shelf's contracts at this seat's numbers (written in part by port/shelfren.py). -/
import Derived.Test.YthcicmbkkkhifaaDoorBuBatKeLaw04
import Derived.Shelf.Sort.Plain
import Derived.Shelf.Slices.In.SortNone
import Derived.Shelf.Slices.CompactS
import Derived.Shelf.Slices.Clone
import Derived.Sort.OwnSorted
import Derived.Test.YthcicmbkkkhifaaDoorProg
import Derived.ProofKit
set_option linter.unusedSimpArgs false
set_option linter.unusedVariables false
namespace Go.Proofs.YthcicmbkkkhifaaDoor
open Go.Shelf Go.Sort Go.RowKit

def ren190 : Go.Shelf.Ren := ⟨fun | 125 => 41 | 128 => 58 | 129 => 59 | 190 => 31 | 258 => 42 | 302 => 60 | 303 => 61 | 304 => 62 | 305 => 63 | 306 => 64 | 307 => 65 | 308 => 66 | 309 => 67 | 310 => 68 | 329 => 76 | 330 => 77 | 333 => 81 | 334 => 82 | 335 => 83 | 336 => 84 | 344 => 88 | n => n, fun | 0 => 0 | 3 => 3 | 4 => 4 | 5 => 5 | 9 => 9 | 31 => 22 | 46 => 81 | 51 => 98 | 53 => 59 | 131 => 95 | 182 => 89 | 183 => 90 | 218 => 113 | 222 => 117 | 228 => 125 | 229 => 126 | n => n, fun n => n⟩
theorem lays190 : Go.Proofs.Lays.n190 Tryd.prog ren190 := {
  mixed := by kernel_rfl
  f125 := Tryd.func41.trans (congrArg some (by kernel_rfl))
  f128 := Tryd.func58.trans (congrArg some (by kernel_rfl))
  f129 := Tryd.func59.trans (congrArg some (by kernel_rfl))
  f190 := Tryd.func31.trans (congrArg some (by kernel_rfl))
  f258 := Tryd.func42.trans (congrArg some (by kernel_rfl))
  f302 := Tryd.func60.trans (congrArg some (by kernel_rfl))
  f303 := Tryd.func61.trans (congrArg some (by kernel_rfl))
  f304 := Tryd.func62.trans (congrArg some (by kernel_rfl))
  f305 := Tryd.func63.trans (congrArg some (by kernel_rfl))
  f306 := Tryd.func64.trans (congrArg some (by kernel_rfl))
  f307 := Tryd.func65.trans (congrArg some (by kernel_rfl))
  f308 := Tryd.func66.trans (congrArg some (by kernel_rfl))
  f309 := Tryd.func67.trans (congrArg some (by kernel_rfl))
  f310 := Tryd.func68.trans (congrArg some (by kernel_rfl))
  f329 := Tryd.func76.trans (congrArg some (by kernel_rfl))
  f330 := Tryd.func77.trans (congrArg some (by kernel_rfl))
  f333 := Tryd.func81.trans (congrArg some (by kernel_rfl))
  f334 := Tryd.func82.trans (congrArg some (by kernel_rfl))
  f335 := Tryd.func83.trans (congrArg some (by kernel_rfl))
  f336 := Tryd.func84.trans (congrArg some (by kernel_rfl))
  f344 := Tryd.func88.trans (congrArg some (by kernel_rfl))
  t0 := Tryd.underlying0
  a0 := Tryd.isAgg0
  z0 := Tryd.sizeOf0
  v0 := Tryd.zeroValue0
  t3 := Tryd.underlying3
  a3 := Tryd.isAgg3
  z3 := Tryd.sizeOf3
  v3 := Tryd.zeroValue3
  t4 := Tryd.underlying4
  a4 := Tryd.isAgg4
  z4 := Tryd.sizeOf4
  v4 := Tryd.zeroValue4
  t5 := Tryd.underlying5
  a5 := Tryd.isAgg5
  z5 := Tryd.sizeOf5
  v5 := Tryd.zeroValue5
  t9 := Tryd.underlying9
  a9 := Tryd.isAgg9
  z9 := Tryd.sizeOf9
  v9 := Tryd.zeroValue9
  t31 := Tryd.underlying22
  a31 := Tryd.isAgg22
  z31 := Tryd.sizeOf22
  v31 := Tryd.zeroValue22
  t46 := Tryd.underlying81
  a46 := Tryd.isAgg81
  z46 := Tryd.sizeOf81
  v46 := Tryd.zeroValue81
  t51 := Tryd.underlying98
  a51 := Tryd.isAgg98
  z51 := Tryd.sizeOf98
  v51 := Tryd.zeroValue98
  t53 := Tryd.underlying59
  a53 := Tryd.isAgg59
  z53 := Tryd.sizeOf59
  v53 := Tryd.zeroValue59
  t131 := Tryd.underlying95
  a131 := Tryd.isAgg95
  z131 := Tryd.sizeOf95
  v131 := Tryd.zeroValue95
  t182 := Tryd.underlying89
  a182 := Tryd.isAgg89
  z182 := Tryd.sizeOf89
  v182 := Tryd.zeroValue89
  t183 := Tryd.underlying90
  a183 := Tryd.isAgg90
  z183 := Tryd.sizeOf90
  v183 := Tryd.zeroValue90
  t218 := Tryd.underlying113
  a218 := Tryd.isAgg113
  z218 := Tryd.sizeOf113
  v218 := Tryd.zeroValue113
  t222 := Tryd.underlying117
  a222 := Tryd.isAgg117
  z222 := Tryd.sizeOf117
  v222 := Tryd.zeroValue117
  t228 := Tryd.underlying125
  a228 := Tryd.isAgg125
  z228 := Tryd.sizeOf125
  v228 := Tryd.zeroValue125
  t229 := Tryd.underlying126
  a229 := Tryd.isAgg126
  z229 := Tryd.sizeOf126
  v229 := Tryd.zeroValue126 }
def ren194 : Go.Shelf.Ren := ⟨fun | 194 => 37 | n => n, fun | 0 => 0 | 3 => 3 | 4 => 4 | 9 => 9 | 31 => 22 | n => n, fun n => n⟩
theorem lays194 : Go.Proofs.Lays.n194 Tryd.prog ren194 := {
  mixed := by kernel_rfl
  f194 := Tryd.func37.trans (congrArg some (by kernel_rfl))
  t0 := Tryd.underlying0
  a0 := Tryd.isAgg0
  z0 := Tryd.sizeOf0
  v0 := Tryd.zeroValue0
  t3 := Tryd.underlying3
  a3 := Tryd.isAgg3
  z3 := Tryd.sizeOf3
  v3 := Tryd.zeroValue3
  t4 := Tryd.underlying4
  a4 := Tryd.isAgg4
  z4 := Tryd.sizeOf4
  v4 := Tryd.zeroValue4
  t9 := Tryd.underlying9
  a9 := Tryd.isAgg9
  z9 := Tryd.sizeOf9
  v9 := Tryd.zeroValue9
  t31 := Tryd.underlying22
  a31 := Tryd.isAgg22
  z31 := Tryd.sizeOf22
  v31 := Tryd.zeroValue22 }
section
variable {W w : World} {R : Thing} {v : Value} {L : List (List UInt8)}
theorem Sort_at (h : At W w (Both (RowG 9 1 v L.length (strs L)) R)) (hR : Stable R) (hn : L.length ≤ 8796093022208) :
    Calls Tryd.prog 31 #[v] w fun e w' => e = .returned (.tuple #[]) ∧ At W w' (Both (RowG 9 1 v L.length (strs (L.mergeSort fun x y => decide (x ≤ y)))) R) :=
  h.calls hR fun fp hp h2 => by
    obtain ⟨hp, rfl⟩ := hp
    rcases hp.2 with ⟨rfl, h0⟩ | ⟨g, cap, cur, rfl, hB, hg, hn1, hc, hs, ht⟩
    · have hz : L = [] := List.eq_nil_of_length_eq_zero h0
      subst hz
      refine (Any.slices_Sort_string_none lays190 none 0 w).mono ?_
      rintro e w' ⟨rfl, rfl⟩
      exact ⟨rfl, _, ⟨by simpa using hp, rfl⟩, Upd.refl _ _, fun k hk => .inl hk⟩
    · have hH : Holds encStr w g 0 L.toArray := holds_of_block hg (by simpa using ht)
      refine (Any.slices_Sort_string lays190 g 0 cap L w hH (Array.getElem?_eq_some_iff.1 hg).1 (by omega)).mono ?_
      rintro e w' ⟨rfl, n, os, rfl⟩
      refine ⟨rfl, _, ⟨ownsRow_sorted (by simp) hB hg hn1 hc hs, rfl⟩, (Upd.refl _ _).grown (grownBy_sorted _) (fun k hk => .inl (by cases hk; simp [rowOf, Value.ownBlock])), fun k hk => .inl hk⟩
end
end Go.Proofs.YthcicmbkkkhifaaDoor
