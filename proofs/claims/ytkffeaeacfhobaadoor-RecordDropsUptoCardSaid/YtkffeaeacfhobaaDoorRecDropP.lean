/- RecordDrops: what a writer does to a store that holds its run alone. -/
import Derived.Test.YtkffeaeacfhobaaDoorRecDrop
import Derived.Test.YtkffeaeacfhobaaDoorRec6
namespace Go.Proofs.YtkffeaeacfhobaaDoor
open Go.RowKit

def okC (c : Nat) : Prop := c = 0 ∨ ∃ g, (c, g) ∈ fails11
theorem okC_zero : okC 0 := .inl rfl
theorem okC_of {c : Nat} (h : c = 0 ∨ c = 3 ∨ c = 4 ∨ c = 7 ∨ c = 9 ∨ c = 10 ∨ c = 13 ∨ c = 8) : okC c := by
  rcases h with rfl | rfl | rfl | rfl | rfl | rfl | rfl | rfl
  · exact .inl rfl
  · exact .inr ⟨5, by decide⟩
  · exact .inr ⟨8, by decide⟩
  · exact .inr ⟨9, by decide⟩
  · exact .inr ⟨11, by decide⟩
  · exact .inr ⟨3, by decide⟩
  · exact .inr ⟨1, by decide⟩
  · exact .inr ⟨10, by decide⟩
/-- The store holds the run 1 alone. -/
def One (S : St) : Prop := GoodS S ∧ ∃ r, S.runs = [(1, r)]
theorem One.find {S : St} (h : One S) : ∃ r, S.runs = [(1, r)] ∧ S.find ((1 : Nat) : Int) = some (1, r) := by
  obtain ⟨_, r, hr⟩ := h
  exact ⟨r, hr, by simp [St.find, hr]⟩
/-- A call at the run 1: the store still holds it alone. -/
theorem One.with {S : St} (h : One S) {f : Nat × RunD → St × Nat} (hf : ∀ r, S.runs = [(1, r)] → ∃ r', (f (1, r)).1.runs = [(1, r')]) : ∃ r', (withRun S ((1 : Nat) : Int) f).1.runs = [(1, r')] := by
  obtain ⟨r, hr, hfd⟩ := h.find
  unfold withRun
  rw [hfd]
  split
  · exact ⟨r, hr⟩
  · dsimp only
    split
    · exact ⟨r, hr⟩
    · exact hf r hr
theorem withCode {S : St} {z : Int} {f : Nat × RunD → St × Nat} {P : Nat → Prop} (h9 : P 9) (h3 : P 3) (h4 : P 4) (hf : ∀ p, P (f p).2) : P (withRun S z f).2 := by
  unfold withRun
  split
  · exact h9
  · split
    · exact h3
    · split
      · exact h4
      · exact hf _
theorem One.append {S : St} (h : One S) (t : List UInt8) : One (appendP S ((1 : Nat) : Int) t).1 := by
  refine ⟨h.1.append _ t, h.with fun r hr => ?_⟩
  split
  · exact ⟨r, hr⟩
  · exact ⟨_, by simp [grownS, stepS, St.setRun, hr]; rfl⟩
theorem One.seal {S : St} (h : One S) : One (sealP S ((1 : Nat) : Int)).1 := by
  refine ⟨h.1.seal _, h.with fun r hr => ?_⟩
  exact ⟨_, by simp [stepS, St.setRun, hr]; rfl⟩
theorem append_code (S : St) (z : Int) (t : List UInt8) : okC (appendP S z t).2 ∧ (appendP S z t).2 ≠ 13 :=
  withCode (P := fun c => okC c ∧ c ≠ 13) ⟨okC_of (by omega), by decide⟩ ⟨okC_of (by omega), by decide⟩ ⟨okC_of (by omega), by decide⟩ fun p => by
    split
    · exact ⟨okC_of (.inr (.inr (.inr (.inl rfl)))), by show ¬ (7 : Nat) = 13; decide⟩
    · exact ⟨okC_zero, by show ¬ (0 : Nat) = 13; decide⟩
theorem seal_code (S : St) (z : Int) : okC (sealP S z).2 ∧ (sealP S z).2 ≠ 13 :=
  withCode (P := fun c => okC c ∧ c ≠ 13) ⟨okC_of (by omega), by decide⟩ ⟨okC_of (by omega), by decide⟩ ⟨okC_of (by omega), by decide⟩ fun p => ⟨okC_zero, by show ¬ (0 : Nat) = 13; decide⟩

/-- A writer at work at the run 1. -/
structure OkW (B : Nat) (x : WrD) : Prop where
  run : x.run = 1
  block : x.block = B
  code : okC x.dead
  open_ : x.dead ≠ 13
  alive : x.dead = 0 → x.buf.length < B
  small : x.buf.length ≤ 100000
theorem flushP_keep (S : St) (x : WrD) (n : Nat) : (flushP S x n).2.1.run = x.run ∧ (flushP S x n).2.1.block = x.block ∧ ((flushP S x n).2.2 = 0 → (flushP S x n).2.1.dead = x.dead) ∧ ((flushP S x n).2.2 ≠ 0 → (flushP S x n).2.1.dead = (flushP S x n).2.2) ∧ okC (flushP S x n).2.2 ∧ (flushP S x n).2.2 ≠ 13 ∧ (flushP S x n).2.1.buf.length ≤ x.buf.length := by
  have h := append_code S x.run (x.buf.take n)
  unfold flushP
  by_cases hz : (appendP S x.run (x.buf.take n)).2 = 0
  · rw [if_pos hz]
    exact ⟨rfl, rfl, fun _ => rfl, fun e => absurd rfl e, okC_zero, by show ¬ (0 : Nat) = 13; decide, by simp⟩
  · rw [if_neg hz]
    exact ⟨rfl, rfl, fun e => absurd e hz, fun _ => rfl, h.1, h.2, Nat.le_refl _⟩
theorem flushP_one {S : St} (h : One S) {x : WrD} (hx : x.run = 1) (n : Nat) : One (flushP S x n).1 := by
  unfold flushP
  rw [hx]
  split <;> exact h.append _
theorem putL_keep {B : Nat} (hB : 1 ≤ B) : ∀ (n : Nat) (S : St) (x : WrD), One S → x.run = 1 → x.block = B → x.dead = 0 → x.buf.length < n → x.buf.length ≤ 100000 →
    One (putL n S x).1 ∧ OkW B (putL n S x).2.1 ∧ okC (putL n S x).2.2 ∧ (putL n S x).2.2 ≠ 13 := by
  intro n
  induction n with
  | zero => intro S x _ _ _ _ h; exact absurd h (Nat.not_lt_zero _)
  | succ n ih =>
    intro S x h1 hr hb hd hl hs
    unfold putL
    by_cases hge : x.block ≤ x.buf.length
    · rw [if_pos hge]
      obtain ⟨k1, k2, k3, k4, k5, k6, k7⟩ := flushP_keep S x x.block
      have hO := flushP_one h1 hr x.block
      by_cases hz : (flushP S x x.block).2.2 = 0
      · rw [if_pos hz]
        have hok := flushP_ok hz
        exact ih _ _ hO (k1.trans hr) (k2.trans hb) ((k3 hz).trans hd) (by rw [hok]; simp only [List.length_drop]; omega) (by omega)
      · rw [if_neg hz]
        exact ⟨hO, ⟨k1.trans hr, k2.trans hb, by rw [k4 hz]; exact k5, by rw [k4 hz]; exact k6, fun e => absurd (by rw [← k4 hz]; exact e) hz, by omega⟩, k5, k6⟩
    · rw [if_neg hge]
      exact ⟨h1, ⟨hr, hb, .inl hd, by show x.dead ≠ 13; omega, fun _ => by show x.buf.length < B; omega, hs⟩, okC_zero, by show ¬ (0 : Nat) = 13; decide⟩
theorem frameL_fit {r : List UInt8} (h : fits [r] = true) : (frameL [r]).length ≤ 300 := by
  have hr : r.length ≤ 255 := by simpa [fits] using h
  simp [frameL]
  have h1 : (uintL r.length).length ≤ 10 := uintL_length10 (by omega)
  omega
theorem putP_keep {B : Nat} (hB : 1 ≤ B ∧ B ≤ 4096) {S : St} {x : WrD} (h1 : One S) (hx : OkW B x) (r : List UInt8) :
    One (putP S x [r]).1 ∧ OkW B (putP S x [r]).2.1 ∧ okC (putP S x [r]).2.2 := by
  unfold putP
  by_cases hd : x.dead = 0
  · rw [if_neg (by simpa using hd)]
    by_cases hf : fits [r] = false
    · rw [if_pos hf]
      exact ⟨h1, hx, okC_of (.inr (.inr (.inr (.inr (.inr (.inl rfl))))))⟩
    · rw [if_neg hf]
      have hfr := frameL_fit (r := r) (by simpa using hf)
      have hl := hx.alive hd
      have hk := putL_keep hB.1 ((x.buf ++ frameL [r]).length + 1) S { x with buf := x.buf ++ frameL [r] } h1 hx.run hx.block hd (Nat.lt_succ_self _) (by show (x.buf ++ frameL [r]).length ≤ _; rw [List.length_append]; omega)
      exact ⟨hk.1, hk.2.1, hk.2.2.1⟩
  · rw [if_pos hd]
    exact ⟨h1, hx, hx.code⟩
/-- The document's writer does the same. -/
theorem putP_sim {S : St} {x y : WrD} (h : WSim x y) (ss : List (List UInt8)) : (putP S y ss).1 = (putP S x ss).1 ∧ (putP S y ss).2.2 = (putP S x ss).2.2 ∧ WSim (putP S x ss).2.1 (putP S y ss).2.1 := by
  by_cases hd : x.dead = 0
  · rw [h.eq hd]; exact ⟨rfl, rfl, WSim.refl _⟩
  · unfold putP
    rw [if_pos hd, if_pos (by rw [h.dead]; exact hd)]
    exact ⟨rfl, h.dead, h⟩
theorem WSim.trans {x y z : WrD} (h : WSim x y) (k : WSim y z) : WSim x z :=
  ⟨k.run.trans h.run, k.block.trans h.block, k.dead.trans h.dead, fun e => (k.buf (by rw [h.dead]; exact e)).trans (h.buf e)⟩
theorem closeP_sim {S : St} {x y : WrD} (h : WSim x y) : (closeP S y).1 = (closeP S x).1 ∧ (closeP S y).2.2 = (closeP S x).2.2 ∧ WSim (closeP S x).2.1 (closeP S y).2.1 := by
  by_cases hd : x.dead = 0
  · rw [h.eq hd]; exact ⟨rfl, rfl, WSim.refl _⟩
  · unfold closeP
    rw [if_pos hd, if_pos (by rw [h.dead]; exact hd)]
    exact ⟨rfl, by rw [h.dead], h⟩
/-- Close leaves a dead writer: of 13, where it answered no failure, else of that. -/
theorem closeP_keep {B : Nat} {S : St} {x : WrD} (h1 : One S) (hx : OkW B x) :
    One (closeP S x).1 ∧ (closeP S x).2.1.run = 1 ∧ (closeP S x).2.1.block = B ∧ okC (closeP S x).2.2.2 ∧ (closeP S x).2.2.2 ≠ 13 ∧ (closeP S x).2.1.dead = (if (closeP S x).2.2.2 = 0 then 13 else (closeP S x).2.2.2) ∧ (closeP S x).2.1.buf.length ≤ 100000 := by
  unfold closeP
  by_cases hd : x.dead = 0
  · rw [if_neg (by simpa using hd)]
    have hrest : One (restP S x).1 ∧ (restP S x).2.1.run = 1 ∧ (restP S x).2.1.block = B ∧ okC (restP S x).2.2 ∧ (restP S x).2.2 ≠ 13 ∧ ((restP S x).2.2 ≠ 0 → (restP S x).2.1.dead = (restP S x).2.2) ∧ (restP S x).2.1.buf.length ≤ x.buf.length := by
      unfold restP
      split
      · exact ⟨h1, hx.run, hx.block, okC_zero, by show ¬ (0 : Nat) = 13; decide, fun e => absurd rfl e, Nat.le_refl _⟩
      · obtain ⟨k1, k2, k3, k4, k5, k6, k7⟩ := flushP_keep S x x.buf.length
        exact ⟨flushP_one h1 hx.run _, k1.trans hx.run, k2.trans hx.block, k5, k6, k4, k7⟩
    obtain ⟨r1, r2, r3, r4, r5, r6, r7⟩ := hrest
    have hsm := hx.small
    by_cases hz : (restP S x).2.2 = 0
    · rw [if_neg (by simpa using hz)]
      have hsc := seal_code (restP S x).1 (restP S x).2.1.run
      have hso : One (sealP (restP S x).1 (restP S x).2.1.run).1 := by rw [r2]; exact r1.seal
      by_cases hs : (sealP (restP S x).1 (restP S x).2.1.run).2 = 0
      · rw [if_neg (by simpa using hs)]
        exact ⟨hso, r2, r3, okC_zero, by show ¬ (0 : Nat) = 13; decide, (if_pos rfl).symm, by show (restP S x).2.1.buf.length ≤ _; omega⟩
      · rw [if_pos hs]
        exact ⟨hso, r2, r3, hsc.1, hsc.2, (if_neg hs).symm, by show (restP S x).2.1.buf.length ≤ _; omega⟩
    · rw [if_pos hz]
      exact ⟨r1, r2, r3, r4, r5, by rw [if_neg hz]; exact r6 hz, by show (restP S x).2.1.buf.length ≤ _; omega⟩
  · rw [if_pos hd]
    exact ⟨h1, hx.run, hx.block, hx.code, hx.open_, (if_neg hd).symm, hx.small⟩
theorem closeP_dead {S : St} {x : WrD} (h : x.dead ≠ 0) : closeP S x = (S, x, 0, x.dead) := if_pos h
theorem putP_dead {S : St} {x : WrD} (h : x.dead ≠ 0) (ss : List (List UInt8)) : putP S x ss = (S, x, x.dead) := if_pos h
/-- Drop empties the store. -/
theorem remove_one {S : St} (h : One S) : (removeP S ((1 : Nat) : Int)).1.runs = [] ∧ (removeP S ((1 : Nat) : Int)).1.used = 0 := by
  obtain ⟨r, hr, hfd⟩ := h.find
  have hu := h.1.used
  rw [hr] at hu
  unfold removeP
  rw [hfd]
  dsimp only
  refine ⟨by simp [St.delRun, hr], ?_⟩
  simp [St.delRun, usedOf] at hu ⊢
  omega
theorem create_one {c : Int} {n : Int} (hn : inI64 n) (h : (createP (breakS (newSt c) n)).2.2 = 0) : One (createP (breakS (newSt c) n)).1 ∧ (createP (breakS (newSt c) n)).2.1 = 1 := by
  refine ⟨⟨((GoodS.new c).brk hn).create, ?_⟩, ?_⟩
  · unfold createP at h ⊢
    split at h
    · cases h
    · rw [if_neg (by assumption)]
      rw [if_neg (by simp [breakS, newSt])]
      exact ⟨_, by simp [createS, stepS, breakS, newSt]; rfl⟩
  · unfold createP at h ⊢
    split at h
    · cases h
    · rw [if_neg (by assumption)]
      rw [if_neg (by simp [breakS, newSt])]
      simp [breakS, newSt]
theorem create_none {c : Int} {n : Int} (h : (createP (breakS (newSt c) n)).2.2 ≠ 0) : (createP (breakS (newSt c) n)).2.2 = 9 ∧ (createP (breakS (newSt c) n)).1.runs = [] := by
  unfold createP at h ⊢
  split
  · exact ⟨rfl, rfl⟩
  · exfalso
    rw [if_neg (by assumption), if_neg (by simp [breakS, newSt])] at h
    exact h rfl
end Go.Proofs.YtkffeaeacfhobaaDoor
