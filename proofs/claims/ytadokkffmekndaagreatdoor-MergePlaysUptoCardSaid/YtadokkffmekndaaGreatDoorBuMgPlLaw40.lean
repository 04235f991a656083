/- slices.Compact of texts, and the slice that it was made of. -/
import Derived.Test.YtadokkffmekndaaGreatDoorBuMgPlLaw25
import Derived.Test.YtadokkffmekndaaGreatDoorBuMgPlLaw26
set_option linter.unusedSimpArgs false
set_option linter.unusedVariables false
namespace Go.Proofs.YtadokkffmekndaaGreatDoor
open Go.Shelf Go.Sort Go.RowKit
section
variable {W w : World} {R : Thing} {v : Value} {L : List (List UInt8)}
theorem Compact_in (h : At W w (Both (RowG 9 1 v L.length (strs L)) R)) (hR : Stable R) (hn : L.length ≤ 8796093022208) :
    Calls Tryz.prog 82 #[v] w fun e w' => ∃ v' L', e = .returned v' ∧ L'.length = L.length ∧ RdRow w' v' (Lib.compact L).length 1 (strs (Lib.compact L)) ∧ At W w' (Both (RowG 9 1 v L'.length (strs L')) R) := by
  obtain ⟨fp, ⟨hp, rfl⟩, h2, h3⟩ := h.step
  rcases hp.2 with ⟨rfl, h0⟩ | ⟨g, cap, cur, rfl, hB, hg, hn1, hc, hs, ht⟩
  · have hz : L = [] := List.eq_nil_of_length_eq_zero h0
    subst hz
    refine (Any.slices_Compact_string_empty lays194 none 0 w).mono ?_
    rintro e w' ⟨rfl, rfl⟩
    exact ⟨_, [], rfl, rfl, RdRow.of_own h.rowG, h⟩
  · have hH : Holds encStr w g 0 L.toArray := holds_of_block hg (by simpa using ht)
    refine (Any.slices_Compact_string lays194 g 0 cap L w hH (by omega) hn1).mono ?_
    rintro e w' ⟨rfl, q, rfl⟩
    have hle : (Lib.compact L).length ≤ L.length := by
      unfold Lib.compact Lib.compactUpTo
      rw [List.length_map]
      exact Nat.le_trans (List.length_filter_le _ _) (by simp)
    have hl : (Lib.compact L ++ List.replicate (L.length - (Lib.compact L).length) []).length = L.length := by simp; omega
    have ho := ownsRow_sorted (w := w) (n := q) (os := #[]) hl hB hg hn1 hc hs
    have hgr := grownBy_sorted (w := w) (g := g) (n := q) (os := #[]) (Lib.compact L ++ List.replicate (L.length - (Lib.compact L).length) []).toArray
    have hgw : ∀ x : World, grow x #[] = x := fun x => by simp [grow]
    rw [hgw] at ho hgr
    refine ⟨_, Lib.compact L ++ List.replicate (L.length - (Lib.compact L).length) [], rfl, hl, ?_, h3 hR _ _ ⟨_, ⟨by rw [hl]; exact ho, rfl⟩, (Upd.refl _ _).grown hgr (fun k hk => .inl (by cases hk; simp [rowOf, Value.ownBlock])), fun k hk => .inl (by simpa [rowOf, Value.ownBlock] using hk)⟩⟩
    refine ⟨by simp, _, _, rfl, by omega, hc, fun j u hj => ⟨g, 0, rfl, ?_⟩⟩
    have hj2 : j < (Lib.compact L).length := by
      have := (List.getElem?_eq_some_iff.1 hj).1
      simpa using this
    have hcl := ho.cells (g := g) rfl j u (by
      rw [List.map_append, List.getElem?_append_left (by simpa using hj2)]
      exact hj)
    rw [show (⟨g, 0, none⟩ : Addr).add j = ⟨g, 0 + j, none⟩ from by unfold Addr.add; split <;> simp_all] at hcl
    exact hcl
end
end Go.Proofs.YtadokkffmekndaaGreatDoor
