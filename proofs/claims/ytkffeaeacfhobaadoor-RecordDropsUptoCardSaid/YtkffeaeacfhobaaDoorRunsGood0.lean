/- runs: what stays true of a store. -/
import Derived.Test.YtkffeaeacfhobaaDoorRunsThing
namespace Go.Proofs.YtkffeaeacfhobaaDoor
open Go.RowKit

theorem thaw_of {w : World} {k : Nat} {cs : Array Value} {T : TypeId} (h : w.heap[k]? = some (.cells cs T (0, 0))) (i : Nat) : w.frozen? ⟨k, i, none⟩ = false := by simp [World.frozen?, h]
theorem cell_of {w : World} {k : Nat} {cs : Array Value} {T : TypeId} (h : w.heap[k]? = some (.cells cs T (0, 0))) (i : Nat) : w.cell? ⟨k, i, none⟩ = cs[i]? := by simp [World.cell?, h]
/-- The bytes of all runs. -/
def usedOf (l : List (Nat × RunD)) : Nat := (l.map fun p => p.2.text.length).sum
theorem usedOf_mem {l : List (Nat × RunD)} {p : Nat × RunD} (h : p ∈ l) : p.2.text.length ≤ usedOf l := by
  induction l with
  | nil => cases h
  | cons a l ih =>
    unfold usedOf at ih ⊢
    rw [List.map_cons, List.sum_cons]
    rcases List.mem_cons.1 h with rfl | h
    · omega
    · have := ih h; omega
/-- A store as a script has it. -/
structure GoodS (S : St) : Prop where
  used : S.used = usedOf S.runs
  rising : S.runs.Pairwise fun p q => p.1 < q.1
  inside : ∀ p ∈ S.runs, 1 ≤ p.1 ∧ p.1 ≤ S.made
  sizes : S.cap ≤ 67108864 ∧ S.used ≤ S.cap ∧ S.peak ≤ S.cap ∧ S.made ≤ 16777216 ∧ S.left ≤ 9223372036854775807
  peak : S.used ≤ S.peak
theorem GoodS.le {S : St} (h : GoodS S) {z : Int} : ∀ p, S.find z = some p → p.2.text.length ≤ S.used := fun p hp => by
  rw [h.used]; exact usedOf_mem (find_mem hp).1

theorem usedOf_append (l r : List (Nat × RunD)) : usedOf (l ++ r) = usedOf l + usedOf r := by simp [usedOf]
theorem usedOf_cons (p : Nat × RunD) (l : List (Nat × RunD)) : usedOf (p :: l) = p.2.text.length + usedOf l := by simp [usedOf]
theorem map_same {l : List (Nat × RunD)} {k : Nat} {r : RunD} (h : ∀ q ∈ l, q.1 ≠ k) : (l.map fun q => if q.1 = k then (k, r) else q) = l := by
  induction l with
  | nil => rfl
  | cons a l ih =>
    rw [List.map_cons, if_neg (h a (by simp)), ih fun q hq => h q (by simp [hq])]
theorem usedOf_map {l : List (Nat × RunD)} {p : Nat × RunD} {r : RunD} (hr : l.Pairwise fun p q => p.1 < q.1) (hp : p ∈ l) : usedOf (l.map fun q => if q.1 = p.1 then (p.1, r) else q) + p.2.text.length = usedOf l + r.text.length := by
  induction l with
  | nil => cases hp
  | cons a l ih =>
    obtain ⟨h1, h2⟩ := List.pairwise_cons.1 hr
    rw [List.map_cons, usedOf_cons, usedOf_cons]
    rcases List.mem_cons.1 hp with rfl | hp
    · rw [if_pos rfl, map_same (fun q hq => by have := h1 q hq; omega)]
      dsimp only
      omega
    · have := h1 p hp
      rw [if_neg (by omega)]
      have := ih h2 hp
      omega
theorem filter_same {l : List (Nat × RunD)} {k : Nat} (h : ∀ q ∈ l, q.1 ≠ k) : (l.filter fun q => q.1 != k) = l := by
  rw [List.filter_eq_self]
  intro q hq
  simpa using h q hq
theorem usedOf_filter {l : List (Nat × RunD)} {p : Nat × RunD} (hr : l.Pairwise fun p q => p.1 < q.1) (hp : p ∈ l) : usedOf (l.filter fun q => q.1 != p.1) + p.2.text.length = usedOf l := by
  induction l with
  | nil => cases hp
  | cons a l ih =>
    obtain ⟨h1, h2⟩ := List.pairwise_cons.1 hr
    rcases List.mem_cons.1 hp with rfl | hp
    · rw [List.filter_cons, if_neg (by simp), filter_same (fun q hq => by have := h1 q hq; omega), usedOf_cons]
      omega
    · have := h1 p hp
      rw [List.filter_cons, if_pos (by simp; omega), usedOf_cons, usedOf_cons]
      have := ih h2 hp
      omega
theorem map_rising {l : List (Nat × RunD)} {k : Nat} {r : RunD} (hr : l.Pairwise fun p q => p.1 < q.1) : (l.map fun q => if q.1 = k then (k, r) else q).Pairwise fun p q => p.1 < q.1 := by
  have hf : ∀ q : Nat × RunD, (if q.1 = k then (k, r) else q).1 = q.1 := fun q => by split <;> simp_all
  rw [List.pairwise_map]
  exact hr.imp fun h => by rw [hf, hf]; exact h
theorem map_inside {l : List (Nat × RunD)} {k m : Nat} {r : RunD} (h : ∀ p ∈ l, 1 ≤ p.1 ∧ p.1 ≤ m) : ∀ p ∈ l.map fun q => if q.1 = k then (k, r) else q, 1 ≤ p.1 ∧ p.1 ≤ m := by
  intro p hp
  obtain ⟨q, hq, rfl⟩ := List.mem_map.1 hp
  have := h q hq
  split <;> simp_all

theorem GoodS.new (c : Int) : GoodS (newSt c) := ⟨rfl, List.Pairwise.nil, by simp [newSt], ⟨by simp only [newSt]; omega, by simp [newSt], by simp [newSt], by simp [newSt], by simp [newSt]⟩, by simp [newSt]⟩
theorem GoodS.step {S : St} (h : GoodS S) : GoodS (stepS S) := ⟨h.used, h.rising, h.inside, by have := h.sizes; simp only [stepS]; omega, h.peak⟩
theorem GoodS.brk {S : St} (h : GoodS S) {z : Int} (hz : inI64 z) : GoodS (breakS S z) := ⟨h.used, h.rising, h.inside, by have := h.sizes; have := hz.2; simp only [breakS]; omega, h.peak⟩
theorem GoodS.create {S : St} (h : GoodS S) : GoodS (createP S).1 := by
  unfold createP
  split
  · exact h.step
  · split
    · exact h.step
    · refine ⟨?_, ?_, ?_, ?_, h.peak⟩
      · show S.used = usedOf (S.runs ++ [(S.made + 1, ⟨[], false⟩)])
        rw [usedOf_append, h.used]; simp [usedOf]
      · show List.Pairwise (fun p q : Nat × RunD => p.1 < q.1) (S.runs ++ [(S.made + 1, ⟨[], false⟩)])
        rw [List.pairwise_append]
        refine ⟨h.rising, by simp, fun a ha b hb => ?_⟩
        simp only [List.mem_singleton] at hb
        subst hb
        have := (h.inside a ha).2
        show a.1 < S.made + 1
        omega
      · show ∀ p ∈ S.runs ++ [(S.made + 1, ⟨[], false⟩)], 1 ≤ p.1 ∧ p.1 ≤ S.made + 1
        intro p hp
        rcases List.mem_append.1 hp with hp | hp
        · have := h.inside p hp; omega
        · simp only [List.mem_singleton] at hp; subst hp; simp
      · have := h.sizes
        simp only [createS, stepS]
        omega
theorem GoodS.withRun {S : St} (h : GoodS S) {z : Int} {f : Nat × RunD → St × Nat} (hf : ∀ p, S.find z = some p → p ∈ S.runs → GoodS (f p).1) : GoodS (withRun S z f).1 := by
  unfold Go.Proofs.YtkffeaeacfhobaaDoor.withRun
  split
  · exact h.step
  · split
    · exact h.step
    · rename_i p hp
      split
      · exact h.step
      · exact hf p hp (find_mem hp).1
theorem GoodS.seal {S : St} (h : GoodS S) (z : Int) : GoodS (sealP S z).1 := h.withRun fun p _ hp => by
  show GoodS ((stepS S).setRun p.1 ⟨p.2.text, true⟩)
  refine ⟨?_, map_rising h.rising, map_inside h.inside, h.step.sizes, h.peak⟩
  have := usedOf_map (r := ⟨p.2.text, true⟩) h.rising hp
  have e := h.used
  show S.used = usedOf (S.runs.map fun q => if q.1 = p.1 then (p.1, ⟨p.2.text, true⟩) else q)
  dsimp only at this
  omega
theorem GoodS.append {S : St} (h : GoodS S) (z : Int) (t : List UInt8) : GoodS (appendP S z t).1 := h.withRun fun p _ hp => by
  split
  · exact h.step
  · rename_i hr
    refine ⟨?_, map_rising h.rising, map_inside h.inside, ?_, ?_⟩
    · have := usedOf_map (r := ⟨p.2.text ++ t, p.2.sealed⟩) h.rising hp
      have e := h.used
      show S.used + t.length = usedOf (S.runs.map fun q => if q.1 = p.1 then (p.1, ⟨p.2.text ++ t, p.2.sealed⟩) else q)
      simp only [List.length_append] at this
      omega
    · have := h.sizes
      simp only [grownS, St.setRun, stepS]
      omega
    · simp only [grownS, St.setRun, stepS]
      omega
theorem GoodS.remove {S : St} (h : GoodS S) (z : Int) : GoodS (removeP S z).1 := by
  unfold removeP
  split
  · exact h
  · rename_i p hp
    have hm := (find_mem hp).1
    refine ⟨?_, h.rising.filter _, fun q hq => h.inside q (List.mem_filter.1 hq).1, by have := h.sizes; simp only [St.delRun]; omega, by have := h.peak; simp only [St.delRun]; omega⟩
    have := usedOf_filter h.rising hm
    have e := h.used
    show S.used - p.2.text.length = usedOf (S.runs.filter fun q => q.1 != p.1)
    omega
end Go.Proofs.YtkffeaeacfhobaaDoor
