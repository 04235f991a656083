/- slices.Sort, slices.Compact, slices.Clone of texts: the shelf's contracts at this seat's numbers (written in part by port/shelfren.py). -/
import Derived.Test.YtgeabmmicofanaaGreatDoorBuSpLaw03
import Derived.Shelf.Sort.Plain
import Derived.Shelf.Slices.In.SortNone
import Derived.Shelf.Slices.CompactS
import Derived.Shelf.Slices.Clone
import Derived.Sort.OwnSorted
import Derived.Test.YtgeabmmicofanaaGreatDoorProg
import Derived.ProofKit
set_option linter.unusedSimpArgs false
set_option linter.unusedVariables false
namespace Go.Proofs.YtgeabmmicofanaaGreatDoor
open Go.Shelf Go.Sort Go.RowKit

def ren190 : Go.Shelf.Ren := ⟨fun | 125 => 58 | 128 => 86 | 129 => 87 | 190 => 30 | 258 => 57 | 302 => 77 | 303 => 78 | 304 => 79 | 305 => 80 | 306 => 81 | 307 => 82 | 308 => 83 | 309 => 84 | 310 => 85 | 329 => 93 | 330 => 94 | 333 => 92 | 334 => 95 | 335 => 96 | 336 => 97 | 344 => 100 | n => n, fun | 0 => 0 | 3 => 3 | 4 => 4 | 5 => 5 | 9 => 9 | 31 => 32 | 46 => 106 | 51 => 143 | 53 => 117 | 131 => 140 | 182 => 134 | 183 => 135 | 218 => 149 | 222 => 153 | 228 => 158 | 229 => 159 | n => n, fun n => n⟩
theorem lays190 : Go.Proofs.Lays.n190 Tryz.prog ren190 := {
  mixed := by kernel_rfl
  f125 := Tryz.func58.trans (congrArg some (by kernel_rfl))
  f128 := Tryz.func86.trans (congrArg some (by kernel_rfl))
  f129 := Tryz.func87.trans (congrArg some (by kernel_rfl))
  f190 := Tryz.func30.trans (congrArg some (by kernel_rfl))
  f258 := Tryz.func57.trans (congrArg some (by kernel_rfl))
  f302 := Tryz.func77.trans (congrArg some (by kernel_rfl))
  f303 := Tryz.func78.trans (congrArg some (by kernel_rfl))
  f304 := Tryz.func79.trans (congrArg some (by kernel_rfl))
  f305 := Tryz.func80.trans (congrArg some (by kernel_rfl))
  f306 := Tryz.func81.trans (congrArg some (by kernel_rfl))
  f307 := Tryz.func82.trans (congrArg some (by kernel_rfl))
  f308 := Tryz.func83.trans (congrArg some (by kernel_rfl))
  f309 := Tryz.func84.trans (congrArg some (by kernel_rfl))
  f310 := Tryz.func85.trans (congrArg some (by kernel_rfl))
  f329 := Tryz.func93.trans (congrArg some (by kernel_rfl))
  f330 := Tryz.func94.trans (congrArg some (by kernel_rfl))
  f333 := Tryz.func92.trans (congrArg some (by kernel_rfl))
  f334 := Tryz.func95.trans (congrArg some (by kernel_rfl))
  f335 := Tryz.func96.trans (congrArg some (by kernel_rfl))
  f336 := Tryz.func97.trans (congrArg some (by kernel_rfl))
  f344 := Tryz.func100.trans (congrArg some (by kernel_rfl))
  t0 := Tryz.underlying0
  a0 := Tryz.isAgg0
  z0 := Tryz.sizeOf0
  v0 := Tryz.zeroValue0
  t3 := Tryz.underlying3
  a3 := Tryz.isAgg3
  z3 := Tryz.sizeOf3
  v3 := Tryz.zeroValue3
  t4 := Tryz.underlying4
  a4 := Tryz.isAgg4
  z4 := Tryz.sizeOf4
  v4 := Tryz.zeroValue4
  t5 := Tryz.underlying5
  a5 := Tryz.isAgg5
  z5 := Tryz.sizeOf5
  v5 := Tryz.zeroValue5
  t9 := Tryz.underlying9
  a9 := Tryz.isAgg9
  z9 := Tryz.sizeOf9
  v9 := Tryz.zeroValue9
  t31 := Tryz.underlying32
  a31 := Tryz.isAgg32
  z31 := Tryz.sizeOf32
  v31 := Tryz.zeroValue32
  t46 := Tryz.underlying106
  a46 := Tryz.isAgg106
  z46 := Tryz.sizeOf106
  v46 := Tryz.zeroValue106
  t51 := Tryz.underlying143
  a51 := Tryz.isAgg143
  z51 := Tryz.sizeOf143
  v51 := Tryz.zeroValue143
  t53 := Tryz.underlying117
  a53 := Tryz.isAgg117
  z53 := Tryz.sizeOf117
  v53 := Tryz.zeroValue117
  t131 := Tryz.underlying140
  a131 := Tryz.isAgg140
  z131 := Tryz.sizeOf140
  v131 := Tryz.zeroValue140
  t182 := Tryz.underlying134
  a182 := Tryz.isAgg134
  z182 := Tryz.sizeOf134
  v182 := Tryz.zeroValue134
  t183 := Tryz.underlying135
  a183 := Tryz.isAgg135
  z183 := Tryz.sizeOf135
  v183 := Tryz.zeroValue135
  t218 := Tryz.underlying149
  a218 := Tryz.isAgg149
  z218 := Tryz.sizeOf149
  v218 := Tryz.zeroValue149
  t222 := Tryz.underlying153
  a222 := Tryz.isAgg153
  z222 := Tryz.sizeOf153
  v222 := Tryz.zeroValue153
  t228 := Tryz.underlying158
  a228 := Tryz.isAgg158
  z228 := Tryz.sizeOf158
  v228 := Tryz.zeroValue158
  t229 := Tryz.underlying159
  a229 := Tryz.isAgg159
  z229 := Tryz.sizeOf159
  v229 := Tryz.zeroValue159 }
def ren194 : Go.Shelf.Ren := ⟨fun | 194 => 32 | n => n, fun | 0 => 0 | 3 => 3 | 4 => 4 | 9 => 9 | 31 => 32 | n => n, fun n => n⟩
theorem lays194 : Go.Proofs.Lays.n194 Tryz.prog ren194 := {
  mixed := by kernel_rfl
  f194 := Tryz.func32.trans (congrArg some (by kernel_rfl))
  t0 := Tryz.underlying0
  a0 := Tryz.isAgg0
  z0 := Tryz.sizeOf0
  v0 := Tryz.zeroValue0
  t3 := Tryz.underlying3
  a3 := Tryz.isAgg3
  z3 := Tryz.sizeOf3
  v3 := Tryz.zeroValue3
  t4 := Tryz.underlying4
  a4 := Tryz.isAgg4
  z4 := Tryz.sizeOf4
  v4 := Tryz.zeroValue4
  t9 := Tryz.underlying9
  a9 := Tryz.isAgg9
  z9 := Tryz.sizeOf9
  v9 := Tryz.zeroValue9
  t31 := Tryz.underlying32
  a31 := Tryz.isAgg32
  z31 := Tryz.sizeOf32
  v31 := Tryz.zeroValue32 }
def ren16b : Go.Shelf.Ren := ⟨fun | 16 => 29 | n => n, fun | 4 => 4 | 9 => 9 | 24 => 32 | n => n, fun n => n⟩
theorem lays16b : Go.Proofs.Lays2.n16 Tryz.prog ren16b := {
  mixed := by kernel_rfl
  f16 := Tryz.func29.trans (congrArg some (by kernel_rfl))
  t4 := Tryz.underlying4
  a4 := Tryz.isAgg4
  z4 := Tryz.sizeOf4
  v4 := Tryz.zeroValue4
  t9 := Tryz.underlying9
  a9 := Tryz.isAgg9
  z9 := Tryz.sizeOf9
  v9 := Tryz.zeroValue9
  t24 := Tryz.underlying32
  a24 := Tryz.isAgg32
  z24 := Tryz.sizeOf32
  v24 := Tryz.zeroValue32
  i9 := by kernel_rfl }

theorem Clone_strs {w : World} {v : Value} {L : List (List UInt8)} (h : RdRow w v L.length 1 (strs L)) (hn : L.length ≤ 8796093022208) :
    Calls Tryz.prog 29 #[v] w fun e w' => ∃ v', e = .returned v' ∧ w'.ownsRow w.heap.size 9 1 v' L.length (strs L) ∧ Below w.heap.size w w' := by
  obtain ⟨h1, a, cap, rfl, h3, h4, h5⟩ := h
  cases a with
  | none =>
    have hL : L = [] := by
      cases L with
      | nil => rfl
      | cons x L => obtain ⟨b, off, h6, _⟩ := h5 0 (.string ⟨x.toArray⟩) (by simp [strs]); cases h6
    subst hL
    refine (Any.slices_Clone_string_nil lays16b 0 cap w).mono ?_
    rintro e w' ⟨rfl, rfl⟩
    exact ⟨_, rfl, World.ownsRow_nil _ _ _ _, Below.refl _ _⟩
  | some ad =>
    cases hL : L with
    | nil =>
      refine (Any.slices_Clone_string_zero lays16b ad cap w).mono ?_
      rintro e w' ⟨v', rfl, ho, _, hb⟩
      exact ⟨v', rfl, ho, hb⟩
    | cons x L' =>
      rw [← hL]
      obtain ⟨b, off, h6, _⟩ := h5 0 (.string ⟨x.toArray⟩) (by simp [strs, hL])
      cases h6
      refine (Any.slices_Clone_string lays16b b off L.length cap (L.map fun l => (⟨l.toArray⟩ : ByteArray)) w (by simp) (by omega) ?_).mono ?_
      · intro j hj
        rw [List.length_map] at hj
        obtain ⟨b', off', h7, h8⟩ := h5 j (.string ⟨L[j].toArray⟩) (by simp [strs, hj])
        cases h7
        rw [h8]
        simp [hj]
      · rintro e w' ⟨v', rfl, ho, _, hb⟩
        refine ⟨v', rfl, ?_, hb⟩
        have : ((L.map fun l => (⟨l.toArray⟩ : ByteArray)).take L.length).map Value.string = strs L := by
          rw [List.take_of_length_le (by simp)]
          simp [strs]
        rw [this] at ho
        exact ho
section
variable {W w : World} {R : Thing} {v : Value} {L : List (List UInt8)}
theorem Sort_at (h : At W w (Both (RowG 9 1 v L.length (strs L)) R)) (hR : Stable R) (hn : L.length ≤ 8796093022208) :
    Calls Tryz.prog 30 #[v] w fun e w' => e = .returned (.tuple #[]) ∧ At W w' (Both (RowG 9 1 v L.length (strs (L.mergeSort fun x y => decide (x ≤ y)))) R) :=
  h.calls hR fun fp hp h2 => by
    obtain ⟨hp, rfl⟩ := hp
    rcases hp.2 with ⟨rfl, h0⟩ | ⟨g, cap, cur, rfl, hB, hg, hn1, hc, hs, ht⟩
    · have hz : L = [] := List.eq_nil_of_length_eq_zero h0
      subst hz
      refine (Any.slices_Sort_string_none lays190 none 0 w).mono ?_
      rintro e w' ⟨rfl, rfl⟩
      exact ⟨rfl, _, ⟨by simpa using hp, rfl⟩, Upd.refl _ _, fun k hk => .inl hk⟩
    · have hH : Holds encStr w g 0 L.toArray := holds_of_block hg (by simpa using ht)
      refine (Any.slices_Sort_string lays190 g 0 cap L w hH (Array.getElem?_eq_some_iff.1 hg).1 (by omega)).mono ?_
      rintro e w' ⟨rfl, n, os, rfl⟩
      refine ⟨rfl, _, ⟨ownsRow_sorted (by simp) hB hg hn1 hc hs, rfl⟩, (Upd.refl _ _).grown (grownBy_sorted _) (fun k hk => .inl (by cases hk; simp [rowOf, Value.ownBlock])), fun k hk => .inl hk⟩
theorem Compact_at (h : At W w (Both (RowG 9 1 v L.length (strs L)) R)) (hR : Stable R) (hn : L.length ≤ 8796093022208) :
    Calls Tryz.prog 32 #[v] w fun e w' => ∃ v', e = .returned v' ∧ At W w' (Both (RowG 9 1 v' (Lib.compact L).length (strs (Lib.compact L))) R) := by
  obtain ⟨fp, ⟨hp, rfl⟩, h2, h3⟩ := h.step
  rcases hp.2 with ⟨rfl, h0⟩ | ⟨g, cap, cur, rfl, hB, hg, hn1, hc, hs, ht⟩
  · have hz : L = [] := List.eq_nil_of_length_eq_zero h0
    subst hz
    refine (Any.slices_Compact_string_empty lays194 none 0 w).mono ?_
    rintro e w' ⟨rfl, rfl⟩
    exact ⟨_, rfl, h⟩
  · have hH : Holds encStr w g 0 L.toArray := holds_of_block hg (by simpa using ht)
    refine (Any.slices_Compact_string lays194 g 0 cap L w hH (by omega) hn1).mono ?_
    rintro e w' ⟨rfl, q, rfl⟩
    have hle : (Lib.compact L).length ≤ L.length := by
      unfold Lib.compact Lib.compactUpTo
      rw [List.length_map]
      exact Nat.le_trans (List.length_filter_le _ _) (by simp)
    have hl : (Lib.compact L ++ List.replicate (L.length - (Lib.compact L).length) []).length = L.length := by simp; omega
    have ho := ownsRow_sorted (w := w) (n := q) (os := #[]) hl hB hg hn1 hc hs
    have hgr := grownBy_sorted (w := w) (g := g) (n := q) (os := #[]) (Lib.compact L ++ List.replicate (L.length - (Lib.compact L).length) []).toArray
    have hgw : ∀ x : World, grow x #[] = x := fun x => by simp [grow]
    rw [hgw] at ho hgr
    refine ⟨_, rfl, h3 hR _ _ ⟨_, ⟨?_, rfl⟩, (Upd.refl _ _).grown hgr (fun k hk => .inl (by cases hk; simp [rowOf, Value.ownBlock])), fun k hk => .inl (by simpa [rowOf, Value.ownBlock] using hk)⟩⟩
    obtain ⟨_, (⟨h8, _⟩ | ⟨g', cap', cur', h8, hB', hg', hn', hc', hs', ht'⟩)⟩ := ho
    · cases h8
    · cases h8
      refine ⟨by simp, .inr ⟨g, cap, cur', rfl, hB', hg', by omega, hc', hs', ?_⟩⟩
      have := congrArg (List.take (Lib.compact L).length) ht'
      rw [List.take_take, Nat.min_eq_left (by omega)] at this
      rw [Nat.mul_one, this, List.map_append, List.take_left' (by simp)]
end
end Go.Proofs.YtgeabmmicofanaaGreatDoor
