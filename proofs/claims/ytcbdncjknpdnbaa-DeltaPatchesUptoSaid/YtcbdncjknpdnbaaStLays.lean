/- slices.Sort, slices.Compact, slices.Clone of texts: the shelf's contracts at this seat's numbers (written in part by port/shelfren.py). -/
import Derived.Shelf.Sort.Plain
import Derived.Shelf.Slices.In.SortNone
import Derived.Shelf.Slices.CompactS
import Derived.Shelf.Slices.Clone
import Derived.Sort.OwnSorted
import Derived.Test.YtcbdncjknpdnbaaAppendAt
import Derived.Test.YtcbdncjknpdnbaaProg
import Derived.ProofKit
namespace Go.Proofs.Ytcbdncjknpdnbaa
open Go.Shelf Go.Sort Go.RowKit

def ren190 : Go.Shelf.Ren := ⟨fun | 125 => 60 | 128 => 82 | 129 => 83 | 190 => 38 | 258 => 59 | 302 => 73 | 303 => 74 | 304 => 75 | 305 => 76 | 306 => 77 | 307 => 78 | 308 => 79 | 309 => 80 | 310 => 81 | 329 => 92 | 330 => 93 | 333 => 91 | 334 => 94 | 335 => 95 | 336 => 96 | 344 => 99 | n => n, fun | 0 => 0 | 3 => 3 | 4 => 4 | 5 => 5 | 9 => 9 | 31 => 66 | 46 => 128 | 51 => 169 | 53 => 144 | 131 => 122 | 182 => 161 | 183 => 162 | 218 => 183 | 222 => 187 | 228 => 193 | 229 => 194 | n => n, fun n => n⟩
theorem lays190 : Go.Proofs.Lays.n190 Try.prog ren190 := {
  mixed := by kernel_rfl
  f125 := Try.func60.trans (congrArg some (by kernel_rfl))
  f128 := Try.func82.trans (congrArg some (by kernel_rfl))
  f129 := Try.func83.trans (congrArg some (by kernel_rfl))
  f190 := Try.func38.trans (congrArg some (by kernel_rfl))
  f258 := Try.func59.trans (congrArg some (by kernel_rfl))
  f302 := Try.func73.trans (congrArg some (by kernel_rfl))
  f303 := Try.func74.trans (congrArg some (by kernel_rfl))
  f304 := Try.func75.trans (congrArg some (by kernel_rfl))
  f305 := Try.func76.trans (congrArg some (by kernel_rfl))
  f306 := Try.func77.trans (congrArg some (by kernel_rfl))
  f307 := Try.func78.trans (congrArg some (by kernel_rfl))
  f308 := Try.func79.trans (congrArg some (by kernel_rfl))
  f309 := Try.func80.trans (congrArg some (by kernel_rfl))
  f310 := Try.func81.trans (congrArg some (by kernel_rfl))
  f329 := Try.func92.trans (congrArg some (by kernel_rfl))
  f330 := Try.func93.trans (congrArg some (by kernel_rfl))
  f333 := Try.func91.trans (congrArg some (by kernel_rfl))
  f334 := Try.func94.trans (congrArg some (by kernel_rfl))
  f335 := Try.func95.trans (congrArg some (by kernel_rfl))
  f336 := Try.func96.trans (congrArg some (by kernel_rfl))
  f344 := Try.func99.trans (congrArg some (by kernel_rfl))
  t0 := Try.underlying0
  a0 := Try.isAgg0
  z0 := Try.sizeOf0
  v0 := Try.zeroValue0
  t3 := Try.underlying3
  a3 := Try.isAgg3
  z3 := Try.sizeOf3
  v3 := Try.zeroValue3
  t4 := Try.underlying4
  a4 := Try.isAgg4
  z4 := Try.sizeOf4
  v4 := Try.zeroValue4
  t5 := Try.underlying5
  a5 := Try.isAgg5
  z5 := Try.sizeOf5
  v5 := Try.zeroValue5
  t9 := Try.underlying9
  a9 := Try.isAgg9
  z9 := Try.sizeOf9
  v9 := Try.zeroValue9
  t31 := Try.underlying66
  a31 := Try.isAgg66
  z31 := Try.sizeOf66
  v31 := Try.zeroValue66
  t46 := Try.underlying128
  a46 := Try.isAgg128
  z46 := Try.sizeOf128
  v46 := Try.zeroValue128
  t51 := Try.underlying169
  a51 := Try.isAgg169
  z51 := Try.sizeOf169
  v51 := Try.zeroValue169
  t53 := Try.underlying144
  a53 := Try.isAgg144
  z53 := Try.sizeOf144
  v53 := Try.zeroValue144
  t131 := Try.underlying122
  a131 := Try.isAgg122
  z131 := Try.sizeOf122
  v131 := Try.zeroValue122
  t182 := Try.underlying161
  a182 := Try.isAgg161
  z182 := Try.sizeOf161
  v182 := Try.zeroValue161
  t183 := Try.underlying162
  a183 := Try.isAgg162
  z183 := Try.sizeOf162
  v183 := Try.zeroValue162
  t218 := Try.underlying183
  a218 := Try.isAgg183
  z218 := Try.sizeOf183
  v218 := Try.zeroValue183
  t222 := Try.underlying187
  a222 := Try.isAgg187
  z222 := Try.sizeOf187
  v222 := Try.zeroValue187
  t228 := Try.underlying193
  a228 := Try.isAgg193
  z228 := Try.sizeOf193
  v228 := Try.zeroValue193
  t229 := Try.underlying194
  a229 := Try.isAgg194
  z229 := Try.sizeOf194
  v229 := Try.zeroValue194 }
section
variable {W w : World} {R : Thing} {v : Value} {L : List (List UInt8)}
theorem Sort_at (h : At W w (Both (RowG 9 1 v L.length (strs L)) R)) (hR : Stable R) (hn : L.length ≤ 8796093022208) :
    Calls Try.prog 38 #[v] w fun e w' => e = .returned (.tuple #[]) ∧ At W w' (Both (RowG 9 1 v L.length (strs (L.mergeSort fun x y => decide (x ≤ y)))) R) :=
  h.calls hR fun fp hp h2 => by
    obtain ⟨hp, rfl⟩ := hp
    rcases hp.2 with ⟨rfl, h0⟩ | ⟨g, cap, cur, rfl, hB, hg, hn1, hc, hs, ht⟩
    · have hz : L = [] := List.eq_nil_of_length_eq_zero h0
      subst hz
      refine (Any.slices_Sort_string_none lays190 none 0 w).mono ?_
      rintro e w' ⟨rfl, rfl⟩
      exact ⟨rfl, _, ⟨by simpa using hp, rfl⟩, Upd.refl _ _, fun k hk => .inl hk⟩
    · have hH : Holds encStr w g 0 L.toArray := holds_of_block hg (by simpa using ht)
      refine (Any.slices_Sort_string lays190 g 0 cap L w hH (Array.getElem?_eq_some_iff.1 hg).1 (by omega)).mono ?_
      rintro e w' ⟨rfl, n, os, rfl⟩
      refine ⟨rfl, _, ⟨ownsRow_sorted (by simp) hB hg hn1 hc hs, rfl⟩, (Upd.refl _ _).grown (grownBy_sorted _) (fun k hk => .inl (by cases hk; simp [rowOf, Value.ownBlock])), fun k hk => .inl hk⟩
end
end Go.Proofs.Ytcbdncjknpdnbaa
