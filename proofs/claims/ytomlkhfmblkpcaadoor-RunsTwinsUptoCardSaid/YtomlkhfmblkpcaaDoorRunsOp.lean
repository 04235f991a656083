/- runs: a call of a script, and what it answers. -/
import Derived.Test.YtomlkhfmblkpcaaDoorRunsThing
import Derived.Test.YtomlkhfmblkpcaaDoorRunsCode
namespace Go.Proofs.YtomlkhfmblkpcaaDoor
open Go.RowKit

structure OpD where
  k : Int
  run : Int
  pos : Int
  n : Int
  v : Value
  parts : List (List UInt8)
instance : Inhabited OpD := ⟨⟨0, 0, 0, 0, .slice none 0 0, []⟩⟩
structure AnsD where
  n : Int
  code : Nat
  text : List UInt8
  list : List Int
abbrev tOp : TypeId := 41
abbrev tAns : TypeId := 43
abbrev opV (o : OpD) : Value := .agg #[.int .i64 o.k, .int .i64 o.run, .int .i64 o.pos, .int .i64 o.n, o.v]
abbrev ansV (A : AnsD) (v : Value) : Value := .agg #[.int .i64 A.n, .int .i64 A.code, .string ⟨A.text.toArray⟩, v]

/-- What the document answers, and the store behind it. -/
def playP (S : St) (o : OpD) : St × AnsD :=
  if o.k = 1 then ((createP S).1, ⟨(createP S).2.1, (createP S).2.2, [], []⟩)
  else if o.k = 2 then ((appendP S o.run (cat o.parts)).1, ⟨0, (appendP S o.run (cat o.parts)).2, [], []⟩)
  else if o.k = 3 then ((sealP S o.run).1, ⟨0, (sealP S o.run).2, [], []⟩)
  else if o.k = 4 then (S, ⟨0, readC S o.run o.pos o.n, readT S o.run o.pos o.n, []⟩)
  else if o.k = 5 then (S, ⟨sizeN S o.run, sizeC S o.run, [], []⟩)
  else if o.k = 6 then ((removeP S o.run).1, ⟨0, (removeP S o.run).2, [], []⟩)
  else if o.k = 7 then (S, ⟨0, 0, [], S.keys⟩)
  else if o.k = 8 then (S, ⟨S.used, 0, [], []⟩)
  else if o.k = 9 then (S, ⟨S.peak, 0, [], []⟩)
  else if o.k = 10 then (S, ⟨S.made, 0, [], []⟩)
  else if o.k = 11 then (breakS S o.n, ⟨0, 0, [], []⟩)
  else (S, ⟨0, 0, [], []⟩)

/-- The bytes of all runs. -/
def usedOf (l : List (Nat × RunD)) : Nat := (l.map fun p => p.2.text.length).sum
theorem usedOf_mem {l : List (Nat × RunD)} {p : Nat × RunD} (h : p ∈ l) : p.2.text.length ≤ usedOf l := by
  induction l with
  | nil => cases h
  | cons a l ih =>
    unfold usedOf at ih ⊢
    rw [List.map_cons, List.sum_cons]
    rcases List.mem_cons.1 h with rfl | h
    · omega
    · have := ih h; omega
/-- A store as a script has it. -/
structure GoodS (S : St) : Prop where
  used : S.used = usedOf S.runs
  rising : S.runs.Pairwise fun p q => p.1 < q.1
  inside : ∀ p ∈ S.runs, 1 ≤ p.1 ∧ p.1 ≤ S.made
  sizes : S.cap ≤ 67108864 ∧ S.used ≤ S.cap ∧ S.peak ≤ S.cap ∧ S.made ≤ 16777216 ∧ S.left ≤ 9223372036854775807
  peak : S.used ≤ S.peak
theorem GoodS.le {S : St} (h : GoodS S) {z : Int} : ∀ p, S.find z = some p → p.2.text.length ≤ S.used := fun p hp => by
  rw [h.used]; exact usedOf_mem (find_mem hp).1

/-- What a call of a script asks of its values. -/
structure OpOk (W : World) (o : OpD) : Prop where
  k : inI64 o.k
  run : inI64 o.run
  pos : inI64 o.pos
  n : inI64 o.n
  row : RdRow W o.v o.parts.length 1 (strs o.parts)
  len : o.parts.length + (cat o.parts).length ≤ 1048576

/-- The numbers that failures bear. -/
def okC (c : Nat) : Prop := c = 0 ∨ c = 1 ∨ (3 ≤ c ∧ c ≤ 9)
theorem okC.fails {c : Nat} (h : okC c) : c = 0 ∨ ∃ g, (c, g) ∈ failsAll := by
  have : c = 0 ∨ c = 1 ∨ c = 3 ∨ c = 4 ∨ c = 5 ∨ c = 6 ∨ c = 7 ∨ c = 8 ∨ c = 9 := by unfold okC at h; omega
  rcases this with rfl | rfl | rfl | rfl | rfl | rfl | rfl | rfl | rfl
  · exact .inl rfl
  all_goals exact .inr (by simp [failsAll])
theorem okC_create (S : St) : okC (createP S).2.2 := by
  unfold createP okC; split
  · simp
  · split <;> simp
theorem okC_with {S : St} {z : Int} {f : Nat × RunD → St × Nat} (hf : ∀ p, okC (f p).2) : okC (withRun S z f).2 := by
  unfold withRun
  split
  · simp [okC]
  · split
    · simp [okC]
    · split
      · simp [okC]
      · exact hf _
theorem okC_append (S : St) (z : Int) (t : List UInt8) : okC (appendP S z t).2 := okC_with fun p => by split <;> simp [okC]
theorem okC_seal (S : St) (z : Int) : okC (sealP S z).2 := okC_with fun p => by simp [okC]
theorem okC_remove (S : St) (z : Int) : okC (removeP S z).2 := by unfold removeP; split <;> simp [okC]
theorem okC_size (S : St) (z : Int) : okC (sizeC S z) := by unfold sizeC; split <;> simp [okC]
theorem okC_read (S : St) (z a n : Int) : okC (readC S z a n) := by
  unfold readC
  split
  · simp [okC]
  · split
    · simp [okC]
    · split <;> simp [okC]

theorem cell_of {w : World} {k : Nat} {cs : Array Value} {T : TypeId} (h : w.heap[k]? = some (.cells cs T (0, 0))) (i : Nat) : w.cell? ⟨k, i, none⟩ = cs[i]? := by simp [World.cell?, h]
theorem thaw_of {w : World} {k : Nat} {cs : Array Value} {T : TypeId} (h : w.heap[k]? = some (.cells cs T (0, 0))) (i : Nat) : w.frozen? ⟨k, i, none⟩ = false := by simp [World.frozen?, h]
theorem At.lose {W w w' : World} {Ψ Φ : Thing} (h : At W w (Both Ψ Φ)) (hs : Stable Φ) (hu : ∀ fp, Ψ w fp → Upd fp w w') : At W w' Φ := by
  obtain ⟨hb, fp, ⟨f, g, h1, h2, h3, h4⟩, h5⟩ := h
  have u := hu f h1
  have hg := hs.lt _ _ h2
  exact ⟨hb.trans (u.below hb.size fun k hk => h5 k ((h4 k).2 (.inl hk))), g, hs.same _ _ _ h2 fun k hk => u.block k (hg k hk) (fun hm => h3 k hm hk), fun k hk => h5 k ((h4 k).2 (.inr hk))⟩
/-- Cells of the call's own, and what has been done to them alone. -/
theorem At.lose3 {W w w' : World} {k1 k2 k3 : Nat} {c1 c2 c3 : Array Value} {T1 T2 T3 : TypeId} {Φ : Thing} (h : At W w (Both (CellT k1 c1 T1) (Both (CellT k2 c2 T2) (Both (CellT k3 c3 T3) Φ)))) (hs : Stable Φ) (hu : Upd [k1, k2, k3] w w') : At W w' Φ := by
  obtain ⟨hb, fp, ⟨f, g, ⟨h1, rfl⟩, ⟨f2, g2, ⟨h2, rfl⟩, ⟨f3, g3, ⟨h3, rfl⟩, h4, i1, i2⟩, j1, j2⟩, l1, l2⟩, h5⟩ := h
  have hin : ∀ k, k ∈ fp ↔ k = k1 ∨ k = k2 ∨ k = k3 ∨ k ∈ g3 := fun k => by rw [l2, j2, i2]; simp
  have hg := hs.lt _ _ h4
  refine ⟨hb.trans (hu.below hb.size fun k hk => h5 k ((hin k).2 ?_)), g3, hs.same _ _ _ h4 fun k hk => hu.block k (hg k hk) (fun hm => ?_), fun k hk => h5 k ((hin k).2 (.inr (.inr (.inr hk))))⟩
  · simp at hk; rcases hk with h | h | h <;> simp [h]
  · simp at hm
    rcases hm with rfl | rfl | rfl
    · exact l1 k (by simp) ((j2 k).2 (.inr ((i2 k).2 (.inr hk))))
    · exact j1 k (by simp) ((i2 k).2 (.inr hk))
    · exact i1 k (by simp) hk
end Go.Proofs.YtomlkhfmblkpcaaDoor
