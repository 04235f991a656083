/- RunsHolds: the book, in plain Lean. -/
import Derived.Test.YtomlkhfmblkpcaaDoorRunsGood
namespace Go.Proofs.YtomlkhfmblkpcaaDoor
open Go.RowKit

/-- The runs of a book, from number n on. -/
def liveB : List (List UInt8 × Bool) → Nat → List (Nat × List UInt8)
  | [], _ => []
  | x :: l, n => if x.2 then (n, x.1) :: liveB l (n + 1) else liveB l (n + 1)
theorem liveB_append (l r : List (List UInt8 × Bool)) (n : Nat) : liveB (l ++ r) n = liveB l n ++ liveB r (n + l.length) := by
  induction l generalizing n with
  | nil => simp [liveB]
  | cons a l ih =>
    have e : ∀ (x : List UInt8 × Bool) (t : List (List UInt8 × Bool)) (m : Nat), liveB (x :: t) m = if x.2 then (m, x.1) :: liveB t (m + 1) else liveB t (m + 1) := fun _ _ _ => rfl
    rw [List.cons_append, e, e, ih (n + 1), show n + 1 + l.length = n + (a :: l).length by simp; omega]
    split <;> simp
theorem liveB_lt {l : List (List UInt8 × Bool)} {n : Nat} {q : Nat × List UInt8} (h : q ∈ liveB l n) : n ≤ q.1 ∧ q.1 < n + l.length := by
  induction l generalizing n with
  | nil => cases h
  | cons a l ih =>
    unfold liveB at h
    simp only [List.length_cons]
    split at h
    · rcases List.mem_cons.1 h with rfl | h
      · simp
      · have := ih h; omega
    · have := ih h; omega
def keyT (p : Nat × RunD) : Nat × List UInt8 := (p.1, p.2.text)
/-- The book tells what the store holds. -/
structure BookR (S : St) (bk : List (List UInt8 × Bool)) : Prop where
  len : bk.length = S.made
  runs : S.runs.map keyT = liveB bk 1
theorem split_book {bk : List (List UInt8 × Bool)} {i : Nat} (h : i < bk.length) : bk = bk.take i ++ bk[i] :: bk.drop (i + 1) := by simp
theorem liveB_cut {bk : List (List UInt8 × Bool)} {i : Nat} (h : i < bk.length) : liveB bk 1 = liveB (bk.take i) 1 ++ ((if bk[i].2 then [(i + 1, bk[i].1)] else []) ++ liveB (bk.drop (i + 1)) (i + 2)) := by
  conv => lhs; rw [split_book h, liveB_append]
  rw [List.length_take, Nat.min_eq_left (Nat.le_of_lt h)]
  congr 1
  rw [show 1 + i = i + 1 by omega]
  conv => lhs; unfold liveB
  split <;> rfl
theorem liveB_set {bk : List (List UInt8 × Bool)} {i : Nat} (h : i < bk.length) (x : List UInt8 × Bool) : liveB (bk.set i x) 1 = liveB (bk.take i) 1 ++ ((if x.2 then [(i + 1, x.1)] else []) ++ liveB (bk.drop (i + 1)) (i + 2)) := by
  rw [List.set_eq_take_append_cons_drop, if_pos h, liveB_append, List.length_take, Nat.min_eq_left (Nat.le_of_lt h)]
  congr 1
  rw [show 1 + i = i + 1 by omega]
  conv => lhs; unfold liveB
  split <;> rfl
theorem take_live_succ {bk : List (List UInt8 × Bool)} {i : Nat} (h : i < bk.length) : liveB (bk.take (i + 1)) 1 = liveB (bk.take i) 1 ++ (if bk[i].2 then [(i + 1, bk[i].1)] else []) := by
  rw [List.take_add_one, List.getElem?_eq_getElem h, liveB_append, List.length_take, Nat.min_eq_left (Nat.le_of_lt h)]
  congr 1
  rw [show 1 + i = i + 1 by omega]
  simp only [Option.toList_some]
  unfold liveB
  split <;> simp [liveB]

section
variable {S : St} {bk : List (List UInt8 × Bool)}
/-- The run that stands in the book at i. -/
theorem BookR.at (h : BookR S bk) (hG : GoodS S) {i : Nat} (hi : i < bk.length) (ht : bk[i].2 = true) :
    ∃ p, S.runs[(liveB (bk.take i) 1).length]? = some p ∧ p.1 = i + 1 ∧ p.2.text = bk[i].1 ∧ S.find ((i : Int) + 1) = some p := by
  have h1 := h.runs
  rw [liveB_cut hi, if_pos ht] at h1
  have h2 : (S.runs.map keyT)[(liveB (bk.take i) 1).length]? = some (i + 1, bk[i].1) := by
    rw [h1, List.getElem?_append_right (Nat.le_refl _), Nat.sub_self]; rfl
  rw [List.getElem?_map] at h2
  obtain ⟨p, hp, he⟩ := Option.map_eq_some_iff.1 h2
  have e1 : p.1 = i + 1 := congrArg Prod.fst he
  have e2 : p.2.text = bk[i].1 := congrArg Prod.snd he
  refine ⟨p, hp, e1, e2, ?_⟩
  unfold St.find
  have hm := List.mem_of_getElem? hp
  cases hf : S.runs.find? fun q => decide ((q.1 : Int) = (i : Int) + 1) with
  | none =>
    have := List.find?_eq_none.1 hf p hm
    simp [e1] at this
  | some q =>
    have hq1 := List.find?_some hf
    have hq2 := List.mem_of_find?_eq_some hf
    simp only [decide_eq_true_eq] at hq1
    congr 1
    exact uniq hG.rising hq2 hm (by omega)
where
  uniq {l : List (Nat × RunD)} (hr : l.Pairwise fun p q => p.1 < q.1) {p q : Nat × RunD} (hp : p ∈ l) (hq : q ∈ l) (h : p.1 = q.1) : p = q := by
    induction l with
    | nil => cases hp
    | cons a l ih =>
      obtain ⟨h1, h2⟩ := List.pairwise_cons.1 hr
      rcases List.mem_cons.1 hp with rfl | hp2 <;> rcases List.mem_cons.1 hq with rfl | hq2
      · rfl
      · have := h1 q hq2; omega
      · have := h1 p hp2; omega
      · exact ih h2 hp2 hq2
/-- A run that is there stands in the book. -/
theorem BookR.find (h : BookR S bk) {z : Int} {p : Nat × RunD} (hf : S.find z = some p) : ∃ i, ∃ hi : i < bk.length, z = (i : Int) + 1 ∧ p.1 = i + 1 ∧ bk[i] = (p.2.text, true) := by
  obtain ⟨hm, hz⟩ := find_mem hf
  have h1 : keyT p ∈ liveB bk 1 := by rw [← h.runs]; exact List.mem_map.2 ⟨p, hm, rfl⟩
  have h2 := liveB_lt h1
  have e : (keyT p).1 = p.1 := rfl
  rw [e] at h2
  refine ⟨p.1 - 1, by omega, by omega, by omega, ?_⟩
  have hi : p.1 - 1 < bk.length := by omega
  rw [liveB_cut hi] at h1
  rcases List.mem_append.1 h1 with h3 | h3
  · have := (liveB_lt h3).2
    rw [List.length_take] at this
    rw [e] at this
    omega
  · rcases List.mem_append.1 h3 with h4 | h4
    · split at h4
      · rename_i hb
        simp only [List.mem_singleton] at h4
        have e2 : p.2.text = bk[p.1 - 1].1 := congrArg Prod.snd h4
        rw [e2, ← hb]
      · cases h4
    · have := (liveB_lt h4).1
      rw [e] at this
      omega
theorem BookR.same {S2 : St} (h : BookR S bk) (hm : S2.made = S.made) (hr : S2.runs.map keyT = S.runs.map keyT) : BookR S2 bk := ⟨h.len.trans hm.symm, hr.trans h.runs⟩
theorem BookR.new (c : Int) : BookR (newSt c) [] := ⟨rfl, rfl⟩
theorem BookR.create (h : BookR S bk) : BookR (createS (stepS S)) (bk ++ [([], true)]) := by
  refine ⟨by simp [createS, stepS, h.len], ?_⟩
  rw [liveB_append, ← h.runs, h.len]
  simp [createS, stepS, liveB, keyT, Nat.add_comm]
theorem map_off {l : List (Nat × List UInt8)} {k : Nat} {x : Nat × List UInt8} (h : ∀ q ∈ l, q.1 ≠ k) : (l.map fun q => if q.1 = k then x else q) = l := by
  induction l with
  | nil => rfl
  | cons a l ih => rw [List.map_cons, if_neg (h a (by simp)), ih fun q hq => h q (by simp [hq])]
theorem setRun_keyT (S : St) (p : Nat × RunD) (r : RunD) : (S.setRun p.1 r).runs.map keyT = (S.runs.map keyT).map fun q => if q.1 = p.1 then (p.1, r.text) else q := by
  show (S.runs.map fun q => if q.1 = p.1 then (p.1, r) else q).map keyT = _
  rw [List.map_map, List.map_map]
  refine List.map_congr_left fun q _ => ?_
  by_cases hq : q.1 = p.1
  · simp [keyT, hq]
  · simp [keyT, hq]
theorem BookR.set {S2 : St} (h : BookR S bk) {p : Nat × RunD} {i : Nat} (hi : i < bk.length) (hp : p.1 = i + 1) (hb : bk[i].2 = true) (hm : S2.made = S.made) {t : List UInt8} (hr : S2.runs.map keyT = (S.runs.map keyT).map fun q => if q.1 = p.1 then (p.1, t) else q) : BookR S2 (bk.set i (t, true)) := by
  refine ⟨by rw [List.length_set, h.len, hm], ?_⟩
  rw [hr, h.runs, liveB_cut hi, liveB_set hi, if_pos hb, if_pos rfl, List.map_append, List.map_append]
  rw [map_off (fun q hq => by have := (liveB_lt hq).2; rw [List.length_take] at this; omega), map_off (l := liveB (bk.drop (i + 1)) (i + 2)) (fun q hq => by have := (liveB_lt hq).1; omega)]
  simp [hp]
theorem BookR.del {S2 : St} (h : BookR S bk) {p : Nat × RunD} {i : Nat} (hi : i < bk.length) (hp : p.1 = i + 1) (hb : bk[i].2 = true) (hm : S2.made = S.made) (hr : S2.runs = S.runs.filter fun q => q.1 != p.1) (t : List UInt8) : BookR S2 (bk.set i (t, false)) := by
  refine ⟨by rw [List.length_set, h.len, hm], ?_⟩
  have e : (S.runs.filter fun q => q.1 != p.1).map keyT = (S.runs.map keyT).filter fun q => q.1 != p.1 := by
    rw [List.filter_map]; rfl
  rw [hr, e, h.runs, liveB_cut hi, liveB_set hi, if_pos hb, if_neg (by simp), List.filter_append, List.filter_append]
  have f1 : (liveB (bk.take i) 1).filter (fun q => q.1 != p.1) = liveB (bk.take i) 1 := by
    rw [List.filter_eq_self]
    intro q hq
    have := (liveB_lt hq).2
    rw [List.length_take] at this
    have : q.1 ≠ p.1 := by omega
    simpa using this
  have f2 : (liveB (bk.drop (i + 1)) (i + 2)).filter (fun q => q.1 != p.1) = liveB (bk.drop (i + 1)) (i + 2) := by
    rw [List.filter_eq_self]
    intro q hq
    have := (liveB_lt hq).1
    have : q.1 ≠ p.1 := by omega
    simpa using this
  rw [f1, f2]
  simp [hp]

theorem withRun_code0 {z : Int} {f : Nat × RunD → St × Nat} (hc : (withRun S z f).2 = 0) : ∃ p, S.find z = some p ∧ withRun S z f = f p ∧ p.2.sealed = false := by
  unfold withRun at hc ⊢
  by_cases h9 : S.left = 1
  · rw [if_pos h9] at hc; cases hc
  · rw [if_neg h9] at hc ⊢
    cases hf : S.find z with
    | none => rw [hf] at hc; cases hc
    | some p =>
      rw [hf] at hc
      dsimp only at hc ⊢
      cases hs : p.2.sealed with
      | true => rw [hs, if_pos rfl] at hc; cases hc
      | false => exact ⟨p, rfl, if_neg (by simp), hs⟩
theorem withRun_other {z : Int} {f : Nat × RunD → St × Nat} (h : BookR S bk) (hf : ∀ p, S.find z = some p → (f p).2 ≠ 0 ∨ True → BookR (f p).1 bk ∨ (f p).2 = 0) (hc : (withRun S z f).2 ≠ 0) : BookR (withRun S z f).1 bk := by
  unfold withRun at hc ⊢
  by_cases h9 : S.left = 1
  · rw [if_pos h9]; exact h.same rfl rfl
  · rw [if_neg h9] at hc ⊢
    cases hfi : S.find z with
    | none => exact h.same rfl rfl
    | some p =>
      rw [hfi] at hc
      dsimp only at hc ⊢
      cases hs : p.2.sealed with
      | true => rw [if_pos rfl]; exact h.same rfl rfl
      | false =>
        rw [hs, if_neg (by simp)] at hc
        rw [if_neg (by simp)]
        rcases hf p hfi (.inr trivial) with h1 | h1
        · exact h1
        · exact absurd h1 hc
theorem keys_idem (h : BookR S bk) {z : Int} {p : Nat × RunD} (hf : S.find z = some p) : ((S.runs.map keyT).map fun q => if q.1 = p.1 then (p.1, p.2.text) else q) = S.runs.map keyT := by
  obtain ⟨i, hi, hz, hp, hb⟩ := h.find hf
  rw [h.runs, liveB_cut hi, if_pos (by rw [hb]), List.map_append, List.map_append]
  rw [map_off (fun q hq => by have := (liveB_lt hq).2; rw [List.length_take] at this; omega), map_off (l := liveB (bk.drop (i + 1)) (i + 2)) (fun q hq => by have := (liveB_lt hq).1; omega)]
  simp [hp, hb]

/-- What a call does to the book. -/
theorem BookR.playC (h : BookR S bk) {o : OpD} (hk : o.k = 1) (hc : (playP S o).2.code = 0) : (playP S o).2.n = (bk.length : Int) + 1 ∧ (playP S o).1.made = bk.length + 1 ∧ BookR (playP S o).1 (bk ++ [([], true)]) := by
  unfold playP at hc ⊢
  rw [if_pos hk] at hc ⊢
  dsimp only at hc ⊢
  unfold createP at hc ⊢
  by_cases h9 : S.left = 1
  · rw [if_pos h9] at hc; cases hc
  · rw [if_neg h9] at hc ⊢
    by_cases h8 : S.made = 16777216
    · rw [if_pos h8] at hc; cases hc
    · rw [if_neg h8]
      refine ⟨?_, ?_, h.create⟩
      · show ((S.made + 1 : Nat) : Int) = _
        rw [h.len]; omega
      · show S.made + 1 = _
        rw [h.len]
theorem BookR.playA (h : BookR S bk) {o : OpD} (hk : o.k = 2) (hc : (playP S o).2.code = 0) : ∃ i, ∃ hi : i < bk.length, o.run = (i : Int) + 1 ∧ bk[i].2 = true ∧ BookR (playP S o).1 (bk.set i (bk[i].1 ++ cat o.parts, true)) := by
  unfold playP at hc ⊢
  rw [if_neg (by omega), if_pos hk] at hc ⊢
  dsimp only at hc ⊢
  obtain ⟨p, hf, he, _⟩ := withRun_code0 hc
  obtain ⟨i, hi, hz, hp, hb⟩ := h.find hf
  refine ⟨i, hi, hz, by rw [hb], ?_⟩
  have e : appendP S o.run (cat o.parts) = _ := he
  rw [e]
  rw [e] at hc
  by_cases hfull : S.cap - S.used < (cat o.parts).length
  · rw [if_pos hfull] at hc; cases hc
  · rw [if_neg hfull]
    refine BookR.set (S2 := grownS (stepS S) p (cat o.parts)) h hi hp (by rw [hb]) rfl ?_
    rw [hb]
    exact setRun_keyT (stepS S) p ⟨p.2.text ++ cat o.parts, p.2.sealed⟩
theorem BookR.playR (h : BookR S bk) {o : OpD} (hk : o.k = 6) (hc : (playP S o).2.code = 0) : ∃ i, ∃ hi : i < bk.length, o.run = (i : Int) + 1 ∧ bk[i].2 = true ∧ ∀ t, BookR (playP S o).1 (bk.set i (t, false)) := by
  unfold playP at hc ⊢
  rw [if_neg (by omega), if_neg (by omega), if_neg (by omega), if_neg (by omega), if_neg (by omega), if_pos hk] at hc ⊢
  dsimp only at hc ⊢
  unfold removeP at hc ⊢
  cases hf : S.find o.run with
  | none => rw [hf] at hc; cases hc
  | some p =>
    obtain ⟨i, hi, hz, hp, hb⟩ := h.find hf
    exact ⟨i, hi, hz, by rw [hb], fun t => BookR.del (S2 := ({ S with used := S.used - p.2.text.length } : St).delRun p.1) h hi hp (by rw [hb]) rfl rfl t⟩
theorem BookR.playO (h : BookR S bk) {o : OpD} (hc : (playP S o).2.code = 0 → o.k ≠ 1 ∧ o.k ≠ 2 ∧ o.k ≠ 6) : BookR (playP S o).1 bk := by
  unfold playP at hc ⊢
  by_cases e1 : o.k = 1
  · rw [if_pos e1] at hc ⊢
    dsimp only at hc ⊢
    unfold createP at hc ⊢
    by_cases h9 : S.left = 1
    · rw [if_pos h9]; exact h.same rfl rfl
    · rw [if_neg h9] at hc ⊢
      by_cases h8 : S.made = 16777216
      · rw [if_pos h8]; exact h.same rfl rfl
      · rw [if_neg h8] at hc; exact absurd e1 (hc rfl).1
  by_cases e2 : o.k = 2
  · rw [if_neg e1, if_pos e2] at hc ⊢
    dsimp only at hc ⊢
    refine withRun_other h (fun p hf _ => ?_) (fun h0 => (hc h0).2.1 e2)
    by_cases hfull : S.cap - S.used < (cat o.parts).length
    · rw [if_pos hfull]; exact .inl (h.same rfl rfl)
    · rw [if_neg hfull]; exact .inr rfl
  by_cases e3 : o.k = 3
  · rw [if_neg e1, if_neg e2, if_pos e3]
    dsimp only
    by_cases h0 : (sealP S o.run).2 = 0
    · obtain ⟨p, hf, he, _⟩ := withRun_code0 h0
      have e : sealP S o.run = _ := he
      rw [e]
      refine h.same rfl ?_
      show ((stepS S).setRun p.1 ⟨p.2.text, true⟩).runs.map keyT = _
      rw [setRun_keyT]
      exact keys_idem h hf
    · exact withRun_other h (fun p hf _ => .inr rfl) h0
  by_cases e4 : o.k = 4
  · rw [if_neg e1, if_neg e2, if_neg e3, if_pos e4]; exact h
  by_cases e5 : o.k = 5
  · rw [if_neg e1, if_neg e2, if_neg e3, if_neg e4, if_pos e5]; exact h
  by_cases e6 : o.k = 6
  · rw [if_neg e1, if_neg e2, if_neg e3, if_neg e4, if_neg e5, if_pos e6] at hc ⊢
    dsimp only at hc ⊢
    unfold removeP at hc ⊢
    cases hf : S.find o.run with
    | none => exact h
    | some p => rw [hf] at hc; exact absurd e6 (hc rfl).2.2
  rw [if_neg e1, if_neg e2, if_neg e3, if_neg e4, if_neg e5, if_neg e6]
  repeat' split
  all_goals first | exact h | exact h.same rfl rfl
theorem playP_cap (S : St) (o : OpD) : (playP S o).1.cap = S.cap := by
  have hw : ∀ (z : Int) (f : Nat × RunD → St × Nat), (∀ p, (f p).1.cap = S.cap) → (withRun S z f).1.cap = S.cap := fun z f hf => by
    unfold withRun
    split
    · rfl
    · split
      · rfl
      · split
        · rfl
        · exact hf _
  unfold playP
  split
  · dsimp only; unfold createP; split
    · rfl
    · split <;> rfl
  split
  · exact hw _ _ fun p => by split <;> rfl
  split
  · exact hw _ _ fun p => rfl
  split
  · rfl
  split
  · rfl
  split
  · dsimp only; unfold removeP; split <;> rfl
  repeat' split
  all_goals rfl
end
end Go.Proofs.YtomlkhfmblkpcaaDoor
