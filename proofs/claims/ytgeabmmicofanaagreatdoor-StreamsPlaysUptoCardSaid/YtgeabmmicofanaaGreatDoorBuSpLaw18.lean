/- runs: Live walked. -/
import Derived.Test.YtgeabmmicofanaaGreatDoorBuSpLaw16
import Derived.Test.YtgeabmmicofanaaGreatDoorBuSpLaw17
import Derived.Maps.RangeWalk
set_option linter.unusedSimpArgs false
set_option linter.unusedVariables false
namespace Go.Proofs.YtgeabmmicofanaaGreatDoor
open Go.RowKit

/-- The numbers of a store's runs. -/
def St.keys (S : St) : List Int := S.runs.map fun p => (p.1 : Int)

theorem nodup_le : ∀ (l r : List Int), l.Nodup → (∀ x ∈ l, x ∈ r) → l.length ≤ r.length
  | [], r, _, _ => Nat.zero_le _
  | x :: l, r, hn, hs => by
    have hx := hs x (by simp)
    have h1 := nodup_le l (r.erase x) (List.nodup_cons.1 hn).2 (fun y hy => (List.mem_erase_of_ne (by rintro rfl; exact (List.nodup_cons.1 hn).1 hy)).2 (hs y (by simp [hy])))
    rw [List.length_erase_of_mem hx] at h1
    have : 0 < r.length := List.length_pos_of_mem hx
    simp; omega

/-- The keys met so far. -/
structure MetK (D : DataW Unit) (left : Lit → Bool) (zs : List Int) : Prop where
  nodup : zs.Nodup
  mem : ∀ x : Int, x ∈ zs ↔ (Maps.has D (.int .i64 x) = true ∧ left (.int .i64 x) = false)
theorem MetK.start (D : DataW Unit) : MetK D (Maps.has D) [] := ⟨List.nodup_nil, fun x => by simp⟩
theorem MetK.step {D : DataW Unit} {left : Lit → Bool} {zs : List Int} (h : MetK D left zs) {x : Int} (hx : left (.int .i64 x) = true) {y : DataW Unit} (hat : ∀ zd, D.atKey (.int .i64 x) zd = y) :
    MetK D (fun z => left z && !z.sameKey (.int .i64 x)) (zs ++ [x]) := by
  have hhas := Maps.has_true_of_atKey hat
  refine ⟨?_, fun z => ?_⟩
  · rw [List.nodup_append]
    refine ⟨h.nodup, by simp, fun a ha b hb => ?_⟩
    simp only [List.mem_singleton] at hb
    subst hb
    rintro rfl
    have := ((h.mem a).1 ha).2
    rw [hx] at this
    cases this
  · rw [List.mem_append, h.mem, List.mem_singleton]
    by_cases hz : z = x
    · subst hz
      simp [hhas, Lit.sameKey]
    · simp [hz, Lit.sameKey]
theorem MetK.all {D : DataW Unit} {left : Lit → Bool} {zs : List Int} (h : MetK D left zs) (hl : ∀ kl, left kl = false) {S : St} {blk : Nat → Nat} (hD : ∀ (z : Int) (zd : DataW Unit), D.atKey (.int .i64 z) zd = lookZ S blk z zd)
    (hr : S.runs.Pairwise fun p q => p.1 < q.1) : zs.mergeSort (fun x y => decide (x ≤ y)) = S.keys := by
  have hk : S.keys.Pairwise fun x y => x < y := by
    unfold St.keys
    rw [List.pairwise_map]
    exact hr.imp fun h => by omega
  have hmem : ∀ x, x ∈ zs ↔ x ∈ S.keys := fun x => by
    rw [h.mem x]
    constructor
    · rintro ⟨h1, _⟩
      cases hf : S.find x with
      | none =>
        have : Maps.has D (.int .i64 x) = false := Maps.has_false_of_atKey fun zd => by rw [hD]; unfold lookZ; rw [hf]
        rw [this] at h1; cases h1
      | some p =>
        have := find_mem hf
        exact List.mem_map.2 ⟨p, this.1, this.2⟩
    · intro hx
      refine ⟨?_, hl _⟩
      obtain ⟨p, hp, hpx⟩ := List.mem_map.1 hx
      cases hf : S.find x with
      | none =>
        unfold St.find at hf
        rw [List.find?_eq_none] at hf
        exact absurd hpx (by simpa using hf p hp)
      | some q => exact Maps.has_true_of_atKey (y := .lit (.int .i64 (blk q.1 : Int))) fun zd => by rw [hD]; unfold lookZ; rw [hf]
  have hnk : S.keys.Nodup := hk.imp fun h => by omega
  have hperm : zs.Perm S.keys := (List.perm_ext_iff_of_nodup h.nodup hnk).2 hmem
  refine List.Perm.eq_of_pairwise (le := fun a b : Int => a ≤ b) (fun a b _ _ h1 h2 => by omega) ?_ (hk.imp fun h => by omega) ((List.mergeSort_perm _ _).trans hperm)
  have := List.pairwise_mergeSort (le := fun x y : Int => decide (x ≤ y)) (fun a b c h1 h2 => by simp at *; omega) (fun a b => by simp; omega) zs
  exact this.imp fun h => by simpa using h
theorem MetK.len {D : DataW Unit} {left : Lit → Bool} {zs : List Int} (h : MetK D left zs) {S : St} {blk : Nat → Nat} (hD : ∀ (z : Int) (zd : DataW Unit), D.atKey (.int .i64 z) zd = lookZ S blk z zd)
    (hin : ∀ p ∈ S.runs, 1 ≤ p.1 ∧ p.1 ≤ S.made) : zs.length ≤ S.made := by
  have := nodup_le zs ((List.range S.made).map fun k : Nat => ((k : Int) + 1)) h.nodup (fun x hx => by
    have h1 := ((h.mem x).1 hx).1
    cases hf : S.find x with
    | none =>
      have : Maps.has D (.int .i64 x) = false := Maps.has_false_of_atKey fun zd => by rw [hD]; unfold lookZ; rw [hf]
      rw [this] at h1; cases h1
    | some p =>
      obtain ⟨h2, h3⟩ := find_mem hf
      have := hin p h2
      exact List.mem_map.2 ⟨p.1 - 1, List.mem_range.2 (by omega), by omega⟩)
  simpa using this

def mkP (c : Option Nat) : Value := .pointer (c.map fun b => ⟨b, 0, none⟩)
theorem ownsRow_base {w : World} {B B' : Nat} {e : TypeId} {size : Nat} {v : Value} {n : Nat} {xs : List Value} (h : w.ownsRow B e size v n xs) (hb : B' ≤ B) : w.ownsRow B' e size v n xs := by
  refine ⟨h.1, ?_⟩
  rcases h.2 with h2 | ⟨g, cap, cur, h2, h3, h4⟩
  · exact .inl h2
  · exact .inr ⟨g, cap, cur, h2, Nat.le_trans hb h3, h4⟩

end Go.Proofs.YtgeabmmicofanaaGreatDoor
