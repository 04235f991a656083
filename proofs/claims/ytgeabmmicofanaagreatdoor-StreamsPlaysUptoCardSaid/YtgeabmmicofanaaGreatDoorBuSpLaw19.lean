/- runs: a store as a thing in memory, and its calls. · runs: the calls of a store where the failure of Read is not told of. · runs: what stays true of a store. -/
import Derived.Test.YtgeabmmicofanaaGreatDoorBuSpLaw15
import Derived.Test.YtgeabmmicofanaaGreatDoorBuSpLaw18
import Derived.Test.YtgeabmmicofanaaGreatDoorBuSpLaw03
import Derived.Test.YtgeabmmicofanaaGreatDoorBuSpLaw04
set_option linter.unusedSimpArgs false
set_option linter.unusedVariables false
namespace Go.Proofs.YtgeabmmicofanaaGreatDoor
open Go.RowKit

def StoreT (b : Nat) (S : St) : Thing := fun w fp => ∃ mb blk val, StoreI w b mb blk val S ∧ fp = fpS b mb blk val S
/-- A row of ints of the call's own. -/
def RowT (v : Value) (l : List Int) : Thing := fun w fp => w.ownsRow 0 tInt 1 v l.length (intsV l) ∧ fp = rowOf v

theorem StoreT.stable (b : Nat) (S : St) : Stable (StoreT b S) :=
  ⟨fun w fp h => by obtain ⟨mb, blk, val, h1, rfl⟩ := h; exact h1.lt, fun w w' fp h hs => by obtain ⟨mb, blk, val, h1, rfl⟩ := h; exact ⟨mb, blk, val, h1.of_block hs, rfl⟩⟩
theorem RowT.stable (v : Value) (l : List Int) : Stable (RowT v l) :=
  ⟨fun w fp h k hk => by obtain ⟨h1, rfl⟩ := h; exact (h1.lt k (mem_rowOf.1 hk)).2, fun w w' fp h hs => by obtain ⟨h1, rfl⟩ := h; exact ⟨ownsRow_block h1 fun k hk => hs k (mem_rowOf.2 hk), rfl⟩⟩

theorem left_of_post {w w' : World} {b mb : Nat} {blk : Nat → Nat} {val : Nat → Value} {S S' : St} (h : StPost w b mb blk val S S' w') : Left w (fpS b mb blk val S) (StoreT b S') w' := by
  obtain ⟨blk', val', h1, h2, h3⟩ := h
  exact ⟨_, ⟨mb, blk', val', h1, rfl⟩, h2, h3⟩

section
variable {W w : World} {R : Thing}
theorem At.row {v : Value} {l : List Int} (h : At W w (Both (RowT v l) R)) : w.ownsRow 0 tInt 1 v l.length (intsV l) := by
  obtain ⟨_, fp, ⟨f, g, ⟨h1, rfl⟩, _⟩, _⟩ := h
  exact h1
variable {b : Nat} {S : St} {ef : Nat → Nat × Nat}
theorem At.store (h : At W w (Both (StoreT b S) R)) : ∃ mb blk val, StoreI w b mb blk val S ∧ ∀ k ∈ fpS b mb blk val S, W.heap.size ≤ k := by
  obtain ⟨_, fp, ⟨f, g, ⟨mb, blk, val, h1, rfl⟩, _, _, h4⟩, h5⟩ := h
  exact ⟨mb, blk, val, h1, fun k hk => h5 k ((h4 k).2 (.inl hk))⟩
theorem At.read {Φ : Thing} {w' : World} (h : At W w Φ) (hs : Stable Φ) (hb : Below w.heap.size w w') : At W w' Φ := h.mono hs hb

theorem New_at {Φ : Thing} (h : At W w Φ) (hs : Stable Φ) {c : Int} (hc : inI64 c) :
    Calls Tryz.prog 4 #[.int .i64 c] w fun e w' => e = .returned (.pointer (some ⟨w.heap.size + 1, 0, none⟩)) ∧ At W w' (Both (StoreT (w.heap.size + 1) (newSt c)) Φ) := by
  refine (New_calls w c hc).mono ?_
  rintro e w' ⟨rfl, h1, h2⟩
  refine ⟨rfl, h.add hs h2 ⟨_, _, _, h1, rfl⟩ fun k hk => ?_⟩
  simp [fpS, newSt] at hk
  omega
theorem Size_at (h : At W w (Both (StoreT b S) R)) (hR : Stable R) (hF : Fails W ef failsAll) {z : Int} (hz : inI64 z) :
    Calls Tryz.prog 74 #[.pointer (some ⟨b, 0, none⟩), .int .i64 z] w fun e w' => e = .returned (.tuple #[.int .i64 (sizeN S z), errV ef (sizeC S z)]) ∧ At W w' (Both (StoreT b S) R) := by
  obtain ⟨mb, blk, val, h1, _⟩ := h.store
  exact (Size_calls h1 (hF.below h.below) (by decide) hz).mono fun e w' ⟨he, hb⟩ => ⟨he, h.mono ((StoreT.stable b S).both hR) hb⟩
theorem Read_at (h : At W w (Both (StoreT b S) R)) (hR : Stable R) (hF : Fails W ef failsAll) {z a n : Int} (hz : inI64 z) (ha : inI64 a) (hn : inI64 n) :
    Calls Tryz.prog 73 #[.pointer (some ⟨b, 0, none⟩), .int .i64 z, .int .i64 a, .int .i64 n] w fun e w' => e = .returned (.tuple #[.string ⟨(readT S z a n).toArray⟩, errV ef (readC S z a n)]) ∧ At W w' (Both (StoreT b S) R) := by
  obtain ⟨mb, blk, val, h1, _⟩ := h.store
  exact (Read_calls h1 (hF.below h.below) (by decide) (by decide) (by decide) hz ha hn).mono fun e w' ⟨he, hb⟩ => ⟨he, h.mono ((StoreT.stable b S).both hR) hb⟩
end
end Go.Proofs.YtgeabmmicofanaaGreatDoor
namespace Go.Proofs.YtgeabmmicofanaaGreatDoor
open Go.RowKit

def fails7 : List (Nat × Nat) := [(1, 2), (3, 4), (4, 5), (5, 8), (7, 1), (8, 0), (9, 3)]
section
variable {W w : World} {R : Thing} {b : Nat} {S : St} {ef : Nat → Nat × Nat}
theorem Create_7 (h : At W w (Both (StoreT b S) R)) (hR : Stable R) (hF : Fails W ef fails7) :
    Calls Tryz.prog 22 #[.pointer (some ⟨b, 0, none⟩)] w fun e w' => e = .returned (.tuple #[.int .i64 (createP S).2.1, errV ef (createP S).2.2]) ∧ At W w' (Both (StoreT b (createP S).1) R) :=
  h.calls hR fun fp hp _ => by
    obtain ⟨mb, blk, val, h1, rfl⟩ := hp
    exact (Create_calls h1 (hF.below h.below) (by decide) (by decide)).mono fun e w' ⟨he, hp⟩ => ⟨he, left_of_post hp⟩
theorem Seal_7 (h : At W w (Both (StoreT b S) R)) (hR : Stable R) (hF : Fails W ef fails7) {z : Int} (hz : inI64 z) :
    Calls Tryz.prog 24 #[.pointer (some ⟨b, 0, none⟩), .int .i64 z] w fun e w' => e = .returned (errV ef (sealP S z).2) ∧ At W w' (Both (StoreT b (sealP S z).1) R) :=
  h.calls hR fun fp hp h2 => by
    obtain ⟨mb, blk, val, h1, rfl⟩ := hp
    exact (Seal_calls h1 (hF.below h.below) (by decide) (by decide) (by decide) (fails_upd hF h.below (h2 b (by simp [fpS]))) hz).mono fun e w' ⟨he, hp⟩ => ⟨he, left_of_post hp⟩
theorem Append_7 (h : At W w (Both (StoreT b S) R)) (hR : Stable R) (hF : Fails W ef fails7) {z : Int} (hz : inI64 z)
    (hle : ∀ p, S.find z = some p → p.2.text.length ≤ S.used) {ss : List (List UInt8)} {v : Value} (hv : ∀ w', Upd [b] w w' → RdRow w' v ss.length 1 (strs ss)) (hlen : (cat ss).length ≤ 140737488355328) :
    Calls Tryz.prog 23 #[.pointer (some ⟨b, 0, none⟩), .int .i64 z, v] w fun e w' => e = .returned (errV ef (appendP S z (cat ss)).2) ∧ At W w' (Both (StoreT b (appendP S z (cat ss)).1) R) :=
  h.calls hR fun fp hp h2 => by
    obtain ⟨mb, blk, val, h1, rfl⟩ := hp
    exact (Append_calls h1 (hF.below h.below) (by decide) (by decide) (by decide) (by decide) (fails_upd hF h.below (h2 b (by simp [fpS]))) hz hle (fun w' hu => Join_calls ss v w' (hv w' hu) hlen)).mono fun e w' ⟨he, hp⟩ => ⟨he, left_of_post hp⟩
end
end Go.Proofs.YtgeabmmicofanaaGreatDoor
namespace Go.Proofs.YtgeabmmicofanaaGreatDoor
open Go.RowKit

/-- The bytes of all runs. -/
def usedOf (l : List (Nat × RunD)) : Nat := (l.map fun p => p.2.text.length).sum
theorem usedOf_mem {l : List (Nat × RunD)} {p : Nat × RunD} (h : p ∈ l) : p.2.text.length ≤ usedOf l := by
  induction l with
  | nil => cases h
  | cons a l ih =>
    unfold usedOf at ih ⊢
    rw [List.map_cons, List.sum_cons]
    rcases List.mem_cons.1 h with rfl | h
    · omega
    · have := ih h; omega
/-- A store as a script has it. -/
structure GoodS (S : St) : Prop where
  used : S.used = usedOf S.runs
  rising : S.runs.Pairwise fun p q => p.1 < q.1
  inside : ∀ p ∈ S.runs, 1 ≤ p.1 ∧ p.1 ≤ S.made
  sizes : S.cap ≤ 67108864 ∧ S.used ≤ S.cap ∧ S.peak ≤ S.cap ∧ S.made ≤ 16777216 ∧ S.left ≤ 9223372036854775807
  peak : S.used ≤ S.peak
theorem GoodS.le {S : St} (h : GoodS S) {z : Int} : ∀ p, S.find z = some p → p.2.text.length ≤ S.used := fun p hp => by
  rw [h.used]; exact usedOf_mem (find_mem hp).1

theorem usedOf_append (l r : List (Nat × RunD)) : usedOf (l ++ r) = usedOf l + usedOf r := by simp [usedOf]
theorem usedOf_cons (p : Nat × RunD) (l : List (Nat × RunD)) : usedOf (p :: l) = p.2.text.length + usedOf l := by simp [usedOf]
theorem map_same {l : List (Nat × RunD)} {k : Nat} {r : RunD} (h : ∀ q ∈ l, q.1 ≠ k) : (l.map fun q => if q.1 = k then (k, r) else q) = l := by
  induction l with
  | nil => rfl
  | cons a l ih =>
    rw [List.map_cons, if_neg (h a (by simp)), ih fun q hq => h q (by simp [hq])]
theorem usedOf_map {l : List (Nat × RunD)} {p : Nat × RunD} {r : RunD} (hr : l.Pairwise fun p q => p.1 < q.1) (hp : p ∈ l) : usedOf (l.map fun q => if q.1 = p.1 then (p.1, r) else q) + p.2.text.length = usedOf l + r.text.length := by
  induction l with
  | nil => cases hp
  | cons a l ih =>
    obtain ⟨h1, h2⟩ := List.pairwise_cons.1 hr
    rw [List.map_cons, usedOf_cons, usedOf_cons]
    rcases List.mem_cons.1 hp with rfl | hp
    · rw [if_pos rfl, map_same (fun q hq => by have := h1 q hq; omega)]
      dsimp only
      omega
    · have := h1 p hp
      rw [if_neg (by omega)]
      have := ih h2 hp
      omega
theorem map_rising {l : List (Nat × RunD)} {k : Nat} {r : RunD} (hr : l.Pairwise fun p q => p.1 < q.1) : (l.map fun q => if q.1 = k then (k, r) else q).Pairwise fun p q => p.1 < q.1 := by
  have hf : ∀ q : Nat × RunD, (if q.1 = k then (k, r) else q).1 = q.1 := fun q => by split <;> simp_all
  rw [List.pairwise_map]
  exact hr.imp fun h => by rw [hf, hf]; exact h
theorem map_inside {l : List (Nat × RunD)} {k m : Nat} {r : RunD} (h : ∀ p ∈ l, 1 ≤ p.1 ∧ p.1 ≤ m) : ∀ p ∈ l.map fun q => if q.1 = k then (k, r) else q, 1 ≤ p.1 ∧ p.1 ≤ m := by
  intro p hp
  obtain ⟨q, hq, rfl⟩ := List.mem_map.1 hp
  have := h q hq
  split <;> simp_all

theorem GoodS.new (c : Int) : GoodS (newSt c) := ⟨rfl, List.Pairwise.nil, by simp [newSt], ⟨by simp only [newSt]; omega, by simp [newSt], by simp [newSt], by simp [newSt], by simp [newSt]⟩, by simp [newSt]⟩
theorem GoodS.step {S : St} (h : GoodS S) : GoodS (stepS S) := ⟨h.used, h.rising, h.inside, by have := h.sizes; simp only [stepS]; omega, h.peak⟩
theorem GoodS.create {S : St} (h : GoodS S) : GoodS (createP S).1 := by
  unfold createP
  split
  · exact h.step
  · split
    · exact h.step
    · refine ⟨?_, ?_, ?_, ?_, h.peak⟩
      · show S.used = usedOf (S.runs ++ [(S.made + 1, ⟨[], false⟩)])
        rw [usedOf_append, h.used]; simp [usedOf]
      · show List.Pairwise (fun p q : Nat × RunD => p.1 < q.1) (S.runs ++ [(S.made + 1, ⟨[], false⟩)])
        rw [List.pairwise_append]
        refine ⟨h.rising, by simp, fun a ha b hb => ?_⟩
        simp only [List.mem_singleton] at hb
        subst hb
        have := (h.inside a ha).2
        show a.1 < S.made + 1
        omega
      · show ∀ p ∈ S.runs ++ [(S.made + 1, ⟨[], false⟩)], 1 ≤ p.1 ∧ p.1 ≤ S.made + 1
        intro p hp
        rcases List.mem_append.1 hp with hp | hp
        · have := h.inside p hp; omega
        · simp only [List.mem_singleton] at hp; subst hp; simp
      · have := h.sizes
        simp only [createS, stepS]
        omega
theorem GoodS.withRun {S : St} (h : GoodS S) {z : Int} {f : Nat × RunD → St × Nat} (hf : ∀ p, S.find z = some p → p ∈ S.runs → GoodS (f p).1) : GoodS (withRun S z f).1 := by
  unfold Go.Proofs.YtgeabmmicofanaaGreatDoor.withRun
  split
  · exact h.step
  · split
    · exact h.step
    · rename_i p hp
      split
      · exact h.step
      · exact hf p hp (find_mem hp).1
theorem GoodS.seal {S : St} (h : GoodS S) (z : Int) : GoodS (sealP S z).1 := h.withRun fun p _ hp => by
  show GoodS ((stepS S).setRun p.1 ⟨p.2.text, true⟩)
  refine ⟨?_, map_rising h.rising, map_inside h.inside, h.step.sizes, h.peak⟩
  have := usedOf_map (r := ⟨p.2.text, true⟩) h.rising hp
  have e := h.used
  show S.used = usedOf (S.runs.map fun q => if q.1 = p.1 then (p.1, ⟨p.2.text, true⟩) else q)
  dsimp only at this
  omega
theorem GoodS.append {S : St} (h : GoodS S) (z : Int) (t : List UInt8) : GoodS (appendP S z t).1 := h.withRun fun p _ hp => by
  split
  · exact h.step
  · rename_i hr
    refine ⟨?_, map_rising h.rising, map_inside h.inside, ?_, ?_⟩
    · have := usedOf_map (r := ⟨p.2.text ++ t, p.2.sealed⟩) h.rising hp
      have e := h.used
      show S.used + t.length = usedOf (S.runs.map fun q => if q.1 = p.1 then (p.1, ⟨p.2.text ++ t, p.2.sealed⟩) else q)
      simp only [List.length_append] at this
      omega
    · have := h.sizes
      simp only [grownS, St.setRun, stepS]
      omega
    · simp only [grownS, St.setRun, stepS]
      omega
end Go.Proofs.YtgeabmmicofanaaGreatDoor
