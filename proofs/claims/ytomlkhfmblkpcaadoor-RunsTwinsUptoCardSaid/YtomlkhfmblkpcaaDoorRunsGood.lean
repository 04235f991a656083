/- runs: what stays true of a store through a script. · runs: what the laws say of the document's answers, in plain Lean. -/
import Derived.Test.YtomlkhfmblkpcaaDoorRunsOp
namespace Go.Proofs.YtomlkhfmblkpcaaDoor
section
open Go.RowKit

theorem usedOf_append (l r : List (Nat × RunD)) : usedOf (l ++ r) = usedOf l + usedOf r := by simp [usedOf]
theorem usedOf_cons (p : Nat × RunD) (l : List (Nat × RunD)) : usedOf (p :: l) = p.2.text.length + usedOf l := by simp [usedOf]
theorem map_same {l : List (Nat × RunD)} {k : Nat} {r : RunD} (h : ∀ q ∈ l, q.1 ≠ k) : (l.map fun q => if q.1 = k then (k, r) else q) = l := by
  induction l with
  | nil => rfl
  | cons a l ih =>
    rw [List.map_cons, if_neg (h a (by simp)), ih fun q hq => h q (by simp [hq])]
theorem usedOf_map {l : List (Nat × RunD)} {p : Nat × RunD} {r : RunD} (hr : l.Pairwise fun p q => p.1 < q.1) (hp : p ∈ l) : usedOf (l.map fun q => if q.1 = p.1 then (p.1, r) else q) + p.2.text.length = usedOf l + r.text.length := by
  induction l with
  | nil => cases hp
  | cons a l ih =>
    obtain ⟨h1, h2⟩ := List.pairwise_cons.1 hr
    rw [List.map_cons, usedOf_cons, usedOf_cons]
    rcases List.mem_cons.1 hp with rfl | hp
    · rw [if_pos rfl, map_same (fun q hq => by have := h1 q hq; omega)]
      dsimp only
      omega
    · have := h1 p hp
      rw [if_neg (by omega)]
      have := ih h2 hp
      omega
theorem filter_same {l : List (Nat × RunD)} {k : Nat} (h : ∀ q ∈ l, q.1 ≠ k) : (l.filter fun q => q.1 != k) = l := by
  rw [List.filter_eq_self]
  intro q hq
  simpa using h q hq
theorem usedOf_filter {l : List (Nat × RunD)} {p : Nat × RunD} (hr : l.Pairwise fun p q => p.1 < q.1) (hp : p ∈ l) : usedOf (l.filter fun q => q.1 != p.1) + p.2.text.length = usedOf l := by
  induction l with
  | nil => cases hp
  | cons a l ih =>
    obtain ⟨h1, h2⟩ := List.pairwise_cons.1 hr
    rcases List.mem_cons.1 hp with rfl | hp
    · rw [List.filter_cons, if_neg (by simp), filter_same (fun q hq => by have := h1 q hq; omega), usedOf_cons]
      omega
    · have := h1 p hp
      rw [List.filter_cons, if_pos (by simp; omega), usedOf_cons, usedOf_cons]
      have := ih h2 hp
      omega
theorem map_rising {l : List (Nat × RunD)} {k : Nat} {r : RunD} (hr : l.Pairwise fun p q => p.1 < q.1) : (l.map fun q => if q.1 = k then (k, r) else q).Pairwise fun p q => p.1 < q.1 := by
  have hf : ∀ q : Nat × RunD, (if q.1 = k then (k, r) else q).1 = q.1 := fun q => by split <;> simp_all
  rw [List.pairwise_map]
  exact hr.imp fun h => by rw [hf, hf]; exact h
theorem map_inside {l : List (Nat × RunD)} {k m : Nat} {r : RunD} (h : ∀ p ∈ l, 1 ≤ p.1 ∧ p.1 ≤ m) : ∀ p ∈ l.map fun q => if q.1 = k then (k, r) else q, 1 ≤ p.1 ∧ p.1 ≤ m := by
  intro p hp
  obtain ⟨q, hq, rfl⟩ := List.mem_map.1 hp
  have := h q hq
  split <;> simp_all

theorem GoodS.new (c : Int) : GoodS (newSt c) := ⟨rfl, List.Pairwise.nil, by simp [newSt], ⟨by simp only [newSt]; omega, by simp [newSt], by simp [newSt], by simp [newSt], by simp [newSt]⟩, by simp [newSt]⟩
theorem GoodS.step {S : St} (h : GoodS S) : GoodS (stepS S) := ⟨h.used, h.rising, h.inside, by have := h.sizes; simp only [stepS]; omega, h.peak⟩
theorem GoodS.brk {S : St} (h : GoodS S) {z : Int} (hz : inI64 z) : GoodS (breakS S z) := ⟨h.used, h.rising, h.inside, by have := h.sizes; have := hz.2; simp only [breakS]; omega, h.peak⟩
theorem GoodS.create {S : St} (h : GoodS S) : GoodS (createP S).1 := by
  unfold createP
  split
  · exact h.step
  · split
    · exact h.step
    · refine ⟨?_, ?_, ?_, ?_, h.peak⟩
      · show S.used = usedOf (S.runs ++ [(S.made + 1, ⟨[], false⟩)])
        rw [usedOf_append, h.used]; simp [usedOf]
      · show List.Pairwise (fun p q : Nat × RunD => p.1 < q.1) (S.runs ++ [(S.made + 1, ⟨[], false⟩)])
        rw [List.pairwise_append]
        refine ⟨h.rising, by simp, fun a ha b hb => ?_⟩
        simp only [List.mem_singleton] at hb
        subst hb
        have := (h.inside a ha).2
        show a.1 < S.made + 1
        omega
      · show ∀ p ∈ S.runs ++ [(S.made + 1, ⟨[], false⟩)], 1 ≤ p.1 ∧ p.1 ≤ S.made + 1
        intro p hp
        rcases List.mem_append.1 hp with hp | hp
        · have := h.inside p hp; omega
        · simp only [List.mem_singleton] at hp; subst hp; simp
      · have := h.sizes
        simp only [createS, stepS]
        omega
theorem GoodS.withRun {S : St} (h : GoodS S) {z : Int} {f : Nat × RunD → St × Nat} (hf : ∀ p, S.find z = some p → p ∈ S.runs → GoodS (f p).1) : GoodS (withRun S z f).1 := by
  unfold Go.Proofs.YtomlkhfmblkpcaaDoor.withRun
  split
  · exact h.step
  · split
    · exact h.step
    · rename_i p hp
      split
      · exact h.step
      · exact hf p hp (find_mem hp).1
theorem GoodS.seal {S : St} (h : GoodS S) (z : Int) : GoodS (sealP S z).1 := h.withRun fun p _ hp => by
  show GoodS ((stepS S).setRun p.1 ⟨p.2.text, true⟩)
  refine ⟨?_, map_rising h.rising, map_inside h.inside, h.step.sizes, h.peak⟩
  have := usedOf_map (r := ⟨p.2.text, true⟩) h.rising hp
  have e := h.used
  show S.used = usedOf (S.runs.map fun q => if q.1 = p.1 then (p.1, ⟨p.2.text, true⟩) else q)
  dsimp only at this
  omega
theorem GoodS.append {S : St} (h : GoodS S) (z : Int) (t : List UInt8) : GoodS (appendP S z t).1 := h.withRun fun p _ hp => by
  split
  · exact h.step
  · rename_i hr
    refine ⟨?_, map_rising h.rising, map_inside h.inside, ?_, ?_⟩
    · have := usedOf_map (r := ⟨p.2.text ++ t, p.2.sealed⟩) h.rising hp
      have e := h.used
      show S.used + t.length = usedOf (S.runs.map fun q => if q.1 = p.1 then (p.1, ⟨p.2.text ++ t, p.2.sealed⟩) else q)
      simp only [List.length_append] at this
      omega
    · have := h.sizes
      simp only [grownS, St.setRun, stepS]
      omega
    · simp only [grownS, St.setRun, stepS]
      omega
theorem GoodS.remove {S : St} (h : GoodS S) (z : Int) : GoodS (removeP S z).1 := by
  unfold removeP
  split
  · exact h
  · rename_i p hp
    have hm := (find_mem hp).1
    refine ⟨?_, h.rising.filter _, fun q hq => h.inside q (List.mem_filter.1 hq).1, by have := h.sizes; simp only [St.delRun]; omega, by have := h.peak; simp only [St.delRun]; omega⟩
    have := usedOf_filter h.rising hm
    have e := h.used
    show S.used - p.2.text.length = usedOf (S.runs.filter fun q => q.1 != p.1)
    omega
theorem GoodS.play {S : St} (h : GoodS S) {o : OpD} (ho : inI64 o.n) : GoodS (playP S o).1 := by
  unfold playP
  repeat' split
  all_goals first | exact h | exact h.create | exact h.append _ _ | exact h.seal _ | exact h.remove _ | exact h.brk ho
end

section
open Go.RowKit

theorem stepS_zero {S : St} (h : S.left = 0) : stepS S = S := by
  cases S
  simp only [stepS] at h ⊢
  subst h
  rfl
theorem createP_left0 {S : St} (h : S.left = 0) : (createP S).1.left = 0 ∧ ((createP S).2.2 ≠ 0 → (createP S).1 = S) := by
  unfold createP
  rw [if_neg (by omega)]
  split
  · rw [stepS_zero h]; exact ⟨h, fun _ => rfl⟩
  · exact ⟨by simp [createS, stepS, h], fun hc => absurd rfl hc⟩
theorem withRun_left0 {S : St} (h : S.left = 0) {z : Int} {f : Nat × RunD → St × Nat} (hf : ∀ p, (f p).1.left = 0 ∧ ((f p).2 ≠ 0 → (f p).1 = S)) : (withRun S z f).1.left = 0 ∧ ((withRun S z f).2 ≠ 0 → (withRun S z f).1 = S) := by
  unfold withRun
  rw [if_neg (by omega)]
  split
  · rw [stepS_zero h]; exact ⟨h, fun _ => rfl⟩
  · split
    · rw [stepS_zero h]; exact ⟨h, fun _ => rfl⟩
    · exact hf _
theorem sealP_left0 {S : St} (h : S.left = 0) (z : Int) : (sealP S z).1.left = 0 ∧ ((sealP S z).2 ≠ 0 → (sealP S z).1 = S) :=
  withRun_left0 h fun p => ⟨by simp [St.setRun, stepS, h], fun hc => absurd rfl hc⟩
theorem appendP_left0 {S : St} (h : S.left = 0) (z : Int) (t : List UInt8) : (appendP S z t).1.left = 0 ∧ ((appendP S z t).2 ≠ 0 → (appendP S z t).1 = S) :=
  withRun_left0 h fun p => by
    split
    · rw [stepS_zero h]; exact ⟨h, fun _ => rfl⟩
    · exact ⟨by simp [grownS, St.setRun, stepS, h], fun hc => absurd rfl hc⟩
theorem removeP_left0 {S : St} (h : S.left = 0) (z : Int) : (removeP S z).1.left = 0 ∧ ((removeP S z).2 ≠ 0 → (removeP S z).1 = S) := by
  unfold removeP
  split
  · exact ⟨h, fun _ => rfl⟩
  · exact ⟨h, fun hc => absurd rfl hc⟩
/-- A refused call leaves nothing behind. -/
theorem playP_left0 {S : St} (h : S.left = 0) {o : OpD} (hk : o.k ≠ 11) : (playP S o).1.left = 0 ∧ ((playP S o).2.code ≠ 0 → (playP S o).1 = S) := by
  unfold playP
  by_cases e1 : o.k = 1
  · rw [if_pos e1]; exact createP_left0 h
  by_cases e2 : o.k = 2
  · rw [if_neg e1, if_pos e2]; exact appendP_left0 h _ _
  by_cases e3 : o.k = 3
  · rw [if_neg e1, if_neg e2, if_pos e3]; exact sealP_left0 h _
  by_cases e4 : o.k = 4
  · rw [if_neg e1, if_neg e2, if_neg e3, if_pos e4]; exact ⟨h, fun _ => rfl⟩
  by_cases e5 : o.k = 5
  · rw [if_neg e1, if_neg e2, if_neg e3, if_neg e4, if_pos e5]; exact ⟨h, fun _ => rfl⟩
  by_cases e6 : o.k = 6
  · rw [if_neg e1, if_neg e2, if_neg e3, if_neg e4, if_neg e5, if_pos e6]; exact removeP_left0 h _
  rw [if_neg e1, if_neg e2, if_neg e3, if_neg e4, if_neg e5, if_neg e6]
  repeat' split
  all_goals first | exact absurd (by assumption) hk | exact ⟨h, fun _ => rfl⟩

def setL (T : St) (L : Nat) : St := { T with left := L }
def isStep (o : OpD) : Prop := 1 ≤ o.k ∧ o.k ≤ 3
instance (o : OpD) : Decidable (isStep o) := by unfold isStep; infer_instance
theorem stepS_setL (T : St) (L : Nat) : stepS (setL T L) = setL T (L - 1) := rfl
theorem setL_zero {T : St} (h : T.left = 0) : setL T 0 = T := by
  cases T
  simp only [setL] at h ⊢
  subst h
  rfl
theorem createP_setL {T : St} (hT : T.left = 0) {L : Nat} (hL : L ≠ 1) : createP (setL T L) = (setL (createP T).1 (L - 1), (createP T).2) := by
  unfold createP
  rw [if_neg (show ¬ (setL T L).left = 1 from hL), if_neg (show ¬ T.left = 1 by omega)]
  by_cases hm : T.made = 16777216
  · rw [if_pos (show (setL T L).made = 16777216 from hm), if_pos hm]; rfl
  · rw [if_neg (show ¬ (setL T L).made = 16777216 from hm), if_neg hm]; rfl
theorem withRun_setL {T : St} (hT : T.left = 0) {L : Nat} (hL : L ≠ 1) {z : Int} {f g : Nat × RunD → St × Nat} (hf : ∀ p, g p = (setL (f p).1 (L - 1), (f p).2)) : withRun (setL T L) z g = (setL (withRun T z f).1 (L - 1), (withRun T z f).2) := by
  unfold withRun
  rw [if_neg (show ¬ (setL T L).left = 1 from hL), if_neg (show ¬ T.left = 1 by omega)]
  have e : (setL T L).find z = T.find z := rfl
  rw [e]
  cases T.find z with
  | none => rfl
  | some p =>
    dsimp only
    by_cases hs : p.2.sealed = true
    · rw [if_pos hs, if_pos hs]; rfl
    · rw [if_neg hs, if_neg hs]; exact hf p
theorem sealP_setL {T : St} (hT : T.left = 0) {L : Nat} (hL : L ≠ 1) (z : Int) : sealP (setL T L) z = (setL (sealP T z).1 (L - 1), (sealP T z).2) :=
  withRun_setL hT hL fun _ => rfl
theorem appendP_setL {T : St} (hT : T.left = 0) {L : Nat} (hL : L ≠ 1) (z : Int) (t : List UInt8) : appendP (setL T L) z t = (setL (appendP T z t).1 (L - 1), (appendP T z t).2) :=
  withRun_setL hT hL fun p => by
    by_cases h : T.cap - T.used < t.length
    · rw [if_pos (show (setL T L).cap - (setL T L).used < t.length from h), if_pos h]; rfl
    · rw [if_neg (show ¬ (setL T L).cap - (setL T L).used < t.length from h), if_neg h]; rfl
theorem removeP_setL (T : St) (L : Nat) (z : Int) : removeP (setL T L) z = (setL (removeP T z).1 L, (removeP T z).2) := by
  unfold removeP
  have e : (setL T L).find z = T.find z := rfl
  rw [e]
  cases T.find z with
  | none => rfl
  | some p => rfl
/-- A Break that is ahead changes no answer up to its step. -/
theorem playP_setL {T : St} (hT : T.left = 0) {L : Nat} {o : OpD} (hL : isStep o → L ≠ 1) (hk : o.k ≠ 11) : playP (setL T L) o = (setL (playP T o).1 (if isStep o then L - 1 else L), (playP T o).2) := by
  unfold playP
  by_cases e1 : o.k = 1
  · have hs : isStep o := ⟨by omega, by omega⟩
    rw [if_pos e1, if_pos e1, if_pos hs, createP_setL hT (hL hs)]
  by_cases e2 : o.k = 2
  · have hs : isStep o := ⟨by omega, by omega⟩
    rw [if_neg e1, if_pos e2, if_neg e1, if_pos e2, if_pos hs, appendP_setL hT (hL hs)]
  by_cases e3 : o.k = 3
  · have hs : isStep o := ⟨by omega, by omega⟩
    rw [if_neg e1, if_neg e2, if_pos e3, if_neg e1, if_neg e2, if_pos e3, if_pos hs, sealP_setL hT (hL hs)]
  have hs : ¬ isStep o := fun h => by have := h.1; have := h.2; omega
  by_cases e6 : o.k = 6
  · have e4 : ¬ o.k = 4 := by omega
    have e5 : ¬ o.k = 5 := by omega
    rw [if_neg e1, if_neg e2, if_neg e3, if_neg e4, if_neg e5, if_pos e6, if_neg e1, if_neg e2, if_neg e3, if_neg e4, if_neg e5, if_pos e6, if_neg hs, removeP_setL]
  rw [if_neg e1, if_neg e2, if_neg e3, if_neg e1, if_neg e2, if_neg e3, if_neg e6, if_neg e6, if_neg hk, if_neg hk, if_neg hs]
  repeat' split
  all_goals rfl
/-- The refused step. -/
theorem playP_broken {T : St} (hT : T.left = 0) {o : OpD} (hs : isStep o) : playP (setL T 1) o = (T, ⟨0, 9, [], []⟩) := by
  have hz : stepS (setL T 1) = T := (stepS_setL T 1).trans (setL_zero hT)
  unfold playP
  by_cases e1 : o.k = 1
  · rw [if_pos e1]
    unfold createP
    rw [if_pos (show (setL T 1).left = 1 from rfl), hz]; rfl
  by_cases e2 : o.k = 2
  · rw [if_neg e1, if_pos e2]
    rw [show appendP (setL T 1) o.run (cat o.parts) = (stepS (setL T 1), 9) from withRun_broken rfl, hz]
  have e3 : o.k = 3 := by have := hs.1; have := hs.2; omega
  rw [if_neg e1, if_neg e2, if_pos e3]
  rw [show sealP (setL T 1) o.run = (stepS (setL T 1), 9) from withRun_broken rfl, hz]
theorem GoodS.setL {T : St} (h : GoodS T) {L : Nat} (hL : L ≤ 9223372036854775807) : GoodS (setL T L) := ⟨h.used, h.rising, h.inside, by have := h.sizes; simp only [Go.Proofs.YtomlkhfmblkpcaaDoor.setL]; omega, h.peak⟩
end
end Go.Proofs.YtomlkhfmblkpcaaDoor
