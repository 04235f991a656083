/- slices.Sort, slices.Compact, slices.Clone of texts: the shelf's contracts at this seat's numbers (written in part by port/shelfren.py). -/
import Derived.Shelf.Sort.Plain
import Derived.Shelf.Slices.In.SortNone
import Derived.Shelf.Slices.CompactS
import Derived.Shelf.Slices.Clone
import Derived.Sort.OwnSorted
import Derived.Test.YtbmfaffnbjmipaaAppendAt
import Derived.Test.YtbmfaffnbjmipaaProg
import Derived.ProofKit
namespace Go.Proofs.Ytbmfaffnbjmipaa
open Go.Shelf Go.Sort Go.RowKit

def ren190 : Go.Shelf.Ren := ⟨fun | 125 => 44 | 128 => 62 | 129 => 63 | 190 => 26 | 258 => 43 | 302 => 53 | 303 => 54 | 304 => 55 | 305 => 56 | 306 => 57 | 307 => 58 | 308 => 59 | 309 => 60 | 310 => 61 | 329 => 66 | 330 => 67 | 333 => 65 | 334 => 68 | 335 => 69 | 336 => 70 | 344 => 71 | n => n, fun | 0 => 0 | 3 => 3 | 4 => 4 | 5 => 5 | 9 => 9 | 31 => 22 | 46 => 65 | 51 => 85 | 53 => 87 | 131 => 82 | 182 => 76 | 183 => 77 | 218 => 89 | 222 => 93 | 228 => 95 | 229 => 96 | n => n, fun n => n⟩
theorem lays190 : Go.Proofs.Lays.n190 Try.prog ren190 := {
  mixed := by kernel_rfl
  f125 := Try.func44.trans (congrArg some (by kernel_rfl))
  f128 := Try.func62.trans (congrArg some (by kernel_rfl))
  f129 := Try.func63.trans (congrArg some (by kernel_rfl))
  f190 := Try.func26.trans (congrArg some (by kernel_rfl))
  f258 := Try.func43.trans (congrArg some (by kernel_rfl))
  f302 := Try.func53.trans (congrArg some (by kernel_rfl))
  f303 := Try.func54.trans (congrArg some (by kernel_rfl))
  f304 := Try.func55.trans (congrArg some (by kernel_rfl))
  f305 := Try.func56.trans (congrArg some (by kernel_rfl))
  f306 := Try.func57.trans (congrArg some (by kernel_rfl))
  f307 := Try.func58.trans (congrArg some (by kernel_rfl))
  f308 := Try.func59.trans (congrArg some (by kernel_rfl))
  f309 := Try.func60.trans (congrArg some (by kernel_rfl))
  f310 := Try.func61.trans (congrArg some (by kernel_rfl))
  f329 := Try.func66.trans (congrArg some (by kernel_rfl))
  f330 := Try.func67.trans (congrArg some (by kernel_rfl))
  f333 := Try.func65.trans (congrArg some (by kernel_rfl))
  f334 := Try.func68.trans (congrArg some (by kernel_rfl))
  f335 := Try.func69.trans (congrArg some (by kernel_rfl))
  f336 := Try.func70.trans (congrArg some (by kernel_rfl))
  f344 := Try.func71.trans (congrArg some (by kernel_rfl))
  t0 := Try.underlying0
  a0 := Try.isAgg0
  z0 := Try.sizeOf0
  v0 := Try.zeroValue0
  t3 := Try.underlying3
  a3 := Try.isAgg3
  z3 := Try.sizeOf3
  v3 := Try.zeroValue3
  t4 := Try.underlying4
  a4 := Try.isAgg4
  z4 := Try.sizeOf4
  v4 := Try.zeroValue4
  t5 := Try.underlying5
  a5 := Try.isAgg5
  z5 := Try.sizeOf5
  v5 := Try.zeroValue5
  t9 := Try.underlying9
  a9 := Try.isAgg9
  z9 := Try.sizeOf9
  v9 := Try.zeroValue9
  t31 := Try.underlying22
  a31 := Try.isAgg22
  z31 := Try.sizeOf22
  v31 := Try.zeroValue22
  t46 := Try.underlying65
  a46 := Try.isAgg65
  z46 := Try.sizeOf65
  v46 := Try.zeroValue65
  t51 := Try.underlying85
  a51 := Try.isAgg85
  z51 := Try.sizeOf85
  v51 := Try.zeroValue85
  t53 := Try.underlying87
  a53 := Try.isAgg87
  z53 := Try.sizeOf87
  v53 := Try.zeroValue87
  t131 := Try.underlying82
  a131 := Try.isAgg82
  z131 := Try.sizeOf82
  v131 := Try.zeroValue82
  t182 := Try.underlying76
  a182 := Try.isAgg76
  z182 := Try.sizeOf76
  v182 := Try.zeroValue76
  t183 := Try.underlying77
  a183 := Try.isAgg77
  z183 := Try.sizeOf77
  v183 := Try.zeroValue77
  t218 := Try.underlying89
  a218 := Try.isAgg89
  z218 := Try.sizeOf89
  v218 := Try.zeroValue89
  t222 := Try.underlying93
  a222 := Try.isAgg93
  z222 := Try.sizeOf93
  v222 := Try.zeroValue93
  t228 := Try.underlying95
  a228 := Try.isAgg95
  z228 := Try.sizeOf95
  v228 := Try.zeroValue95
  t229 := Try.underlying96
  a229 := Try.isAgg96
  z229 := Try.sizeOf96
  v229 := Try.zeroValue96 }
def ren194 : Go.Shelf.Ren := ⟨fun | 194 => 28 | n => n, fun | 0 => 0 | 3 => 3 | 4 => 4 | 9 => 9 | 31 => 22 | n => n, fun n => n⟩
theorem lays194 : Go.Proofs.Lays.n194 Try.prog ren194 := {
  mixed := by kernel_rfl
  f194 := Try.func28.trans (congrArg some (by kernel_rfl))
  t0 := Try.underlying0
  a0 := Try.isAgg0
  z0 := Try.sizeOf0
  v0 := Try.zeroValue0
  t3 := Try.underlying3
  a3 := Try.isAgg3
  z3 := Try.sizeOf3
  v3 := Try.zeroValue3
  t4 := Try.underlying4
  a4 := Try.isAgg4
  z4 := Try.sizeOf4
  v4 := Try.zeroValue4
  t9 := Try.underlying9
  a9 := Try.isAgg9
  z9 := Try.sizeOf9
  v9 := Try.zeroValue9
  t31 := Try.underlying22
  a31 := Try.isAgg22
  z31 := Try.sizeOf22
  v31 := Try.zeroValue22 }
def ren16b : Go.Shelf.Ren := ⟨fun | 16 => 25 | n => n, fun | 4 => 4 | 9 => 9 | 24 => 22 | n => n, fun n => n⟩
theorem lays16b : Go.Proofs.Lays2.n16 Try.prog ren16b := {
  mixed := by kernel_rfl
  f16 := Try.func25.trans (congrArg some (by kernel_rfl))
  t4 := Try.underlying4
  a4 := Try.isAgg4
  z4 := Try.sizeOf4
  v4 := Try.zeroValue4
  t9 := Try.underlying9
  a9 := Try.isAgg9
  z9 := Try.sizeOf9
  v9 := Try.zeroValue9
  t24 := Try.underlying22
  a24 := Try.isAgg22
  z24 := Try.sizeOf22
  v24 := Try.zeroValue22
  i9 := by kernel_rfl }

theorem Clone_strs {w : World} {v : Value} {L : List (List UInt8)} (h : RdRow w v L.length 1 (strs L)) (hn : L.length ≤ 8796093022208) :
    Calls Try.prog 25 #[v] w fun e w' => ∃ v', e = .returned v' ∧ w'.ownsRow w.heap.size 9 1 v' L.length (strs L) ∧ Below w.heap.size w w' := by
  obtain ⟨h1, a, cap, rfl, h3, h4, h5⟩ := h
  cases a with
  | none =>
    have hL : L = [] := by
      cases L with
      | nil => rfl
      | cons x L => obtain ⟨b, off, h6, _⟩ := h5 0 (.string ⟨x.toArray⟩) (by simp [strs]); cases h6
    subst hL
    refine (Any.slices_Clone_string_nil lays16b 0 cap w).mono ?_
    rintro e w' ⟨rfl, rfl⟩
    exact ⟨_, rfl, World.ownsRow_nil _ _ _ _, Below.refl _ _⟩
  | some ad =>
    cases hL : L with
    | nil =>
      refine (Any.slices_Clone_string_zero lays16b ad cap w).mono ?_
      rintro e w' ⟨v', rfl, ho, _, hb⟩
      exact ⟨v', rfl, ho, hb⟩
    | cons x L' =>
      rw [← hL]
      obtain ⟨b, off, h6, _⟩ := h5 0 (.string ⟨x.toArray⟩) (by simp [strs, hL])
      cases h6
      refine (Any.slices_Clone_string lays16b b off L.length cap (L.map fun l => (⟨l.toArray⟩ : ByteArray)) w (by simp) (by omega) ?_).mono ?_
      · intro j hj
        rw [List.length_map] at hj
        obtain ⟨b', off', h7, h8⟩ := h5 j (.string ⟨L[j].toArray⟩) (by simp [strs, hj])
        cases h7
        rw [h8]
        simp [hj]
      · rintro e w' ⟨v', rfl, ho, _, hb⟩
        refine ⟨v', rfl, ?_, hb⟩
        have : ((L.map fun l => (⟨l.toArray⟩ : ByteArray)).take L.length).map Value.string = strs L := by
          rw [List.take_of_length_le (by simp)]
          simp [strs]
        rw [this] at ho
        exact ho
section
variable {W w : World} {R : Thing} {v : Value} {L : List (List UInt8)}
theorem Sort_at (h : At W w (Both (RowG 9 1 v L.length (strs L)) R)) (hR : Stable R) (hn : L.length ≤ 8796093022208) :
    Calls Try.prog 26 #[v] w fun e w' => e = .returned (.tuple #[]) ∧ At W w' (Both (RowG 9 1 v L.length (strs (L.mergeSort fun x y => decide (x ≤ y)))) R) :=
  h.calls hR fun fp hp h2 => by
    obtain ⟨hp, rfl⟩ := hp
    rcases hp.2 with ⟨rfl, h0⟩ | ⟨g, cap, cur, rfl, hB, hg, hn1, hc, hs, ht⟩
    · have hz : L = [] := List.eq_nil_of_length_eq_zero h0
      subst hz
      refine (Any.slices_Sort_string_none lays190 none 0 w).mono ?_
      rintro e w' ⟨rfl, rfl⟩
      exact ⟨rfl, _, ⟨by simpa using hp, rfl⟩, Upd.refl _ _, fun k hk => .inl hk⟩
    · have hH : Holds encStr w g 0 L.toArray := holds_of_block hg (by simpa using ht)
      refine (Any.slices_Sort_string lays190 g 0 cap L w hH (Array.getElem?_eq_some_iff.1 hg).1 (by omega)).mono ?_
      rintro e w' ⟨rfl, n, os, rfl⟩
      refine ⟨rfl, _, ⟨ownsRow_sorted (by simp) hB hg hn1 hc hs, rfl⟩, (Upd.refl _ _).grown (grownBy_sorted _) (fun k hk => .inl (by cases hk; simp [rowOf, Value.ownBlock])), fun k hk => .inl hk⟩
theorem Compact_at (h : At W w (Both (RowG 9 1 v L.length (strs L)) R)) (hR : Stable R) (hn : L.length ≤ 8796093022208) :
    Calls Try.prog 28 #[v] w fun e w' => ∃ v', e = .returned v' ∧ At W w' (Both (RowG 9 1 v' (Lib.compact L).length (strs (Lib.compact L))) R) := by
  obtain ⟨fp, ⟨hp, rfl⟩, h2, h3⟩ := h.step
  rcases hp.2 with ⟨rfl, h0⟩ | ⟨g, cap, cur, rfl, hB, hg, hn1, hc, hs, ht⟩
  · have hz : L = [] := List.eq_nil_of_length_eq_zero h0
    subst hz
    refine (Any.slices_Compact_string_empty lays194 none 0 w).mono ?_
    rintro e w' ⟨rfl, rfl⟩
    exact ⟨_, rfl, h⟩
  · have hH : Holds encStr w g 0 L.toArray := holds_of_block hg (by simpa using ht)
    refine (Any.slices_Compact_string lays194 g 0 cap L w hH (by omega) hn1).mono ?_
    rintro e w' ⟨rfl, q, rfl⟩
    have hle : (Lib.compact L).length ≤ L.length := by
      unfold Lib.compact Lib.compactUpTo
      rw [List.length_map]
      exact Nat.le_trans (List.length_filter_le _ _) (by simp)
    have hl : (Lib.compact L ++ List.replicate (L.length - (Lib.compact L).length) []).length = L.length := by simp; omega
    have ho := ownsRow_sorted (w := w) (n := q) (os := #[]) hl hB hg hn1 hc hs
    have hgr := grownBy_sorted (w := w) (g := g) (n := q) (os := #[]) (Lib.compact L ++ List.replicate (L.length - (Lib.compact L).length) []).toArray
    have hgw : ∀ x : World, grow x #[] = x := fun x => by simp [grow]
    rw [hgw] at ho hgr
    refine ⟨_, rfl, h3 hR _ _ ⟨_, ⟨?_, rfl⟩, (Upd.refl _ _).grown hgr (fun k hk => .inl (by cases hk; simp [rowOf, Value.ownBlock])), fun k hk => .inl (by simpa [rowOf, Value.ownBlock] using hk)⟩⟩
    obtain ⟨_, (⟨h8, _⟩ | ⟨g', cap', cur', h8, hB', hg', hn', hc', hs', ht'⟩)⟩ := ho
    · cases h8
    · cases h8
      refine ⟨by simp, .inr ⟨g, cap, cur', rfl, hB', hg', by omega, hc', hs', ?_⟩⟩
      have := congrArg (List.take (Lib.compact L).length) ht'
      rw [List.take_take, Nat.min_eq_left (by omega)] at this
      rw [Nat.mul_one, this, List.map_append, List.take_left' (by simp)]
end
end Go.Proofs.Ytbmfaffnbjmipaa
