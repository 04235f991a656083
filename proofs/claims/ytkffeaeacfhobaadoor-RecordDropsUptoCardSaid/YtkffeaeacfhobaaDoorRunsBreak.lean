/- runs: Break walked. -/
import Derived.Test.YtkffeaeacfhobaaDoorRunsSet
namespace Go.Proofs.YtkffeaeacfhobaaDoor
open Go.RowKit

def breakS (S : St) (z : Int) : St := { S with left := z.toNat }
theorem Break_calls {w : World} {b mb : Nat} {blk : Nat → Nat} {val : Nat → Value} {S : St} (h : StoreI w b mb blk val S) {z : Int} (hz : inI64 z) :
    Calls Tryd.prog 17 #[.pointer (some ⟨b, 0, none⟩), .int .i64 z] w fun e w' => e = .returned (.tuple #[]) ∧ StPost w b mb blk val S (breakS S z) w' := by
  have hf := h.facts
  have c4 := hf.c4
  have fz := hf.fz
  have hs : StoreI (w.setCell ⟨b, 4, none⟩ (.int .i64 (z.toNat : Int))) b mb blk val (breakS S z) :=
    h.reset (S' := breakS S z) rfl (Nat.le_refl _) ⟨h.sizes.1, h.sizes.2.1, h.sizes.2.2.1, h.sizes.2.2.2.1, by show z.toNat ≤ _; have := hz.2; omega⟩ 4 _ rfl
  have HP := Lib.hid (show StPost w b mb blk val S (breakS S z) (w.setCell ⟨b, 4, none⟩ (.int .i64 (z.toNat : Int))) from
    ⟨blk, val, hs, ((Upd.refl (fpS b mb blk val S) w).setCell (.inl (by simp [fpS])) _), Grow.refl _ _⟩)
  have hm : (if 0 < z then z else 0) = (z.toNat : Int) := by split <;> omega
  rw [← hm] at HP
  clear h hf hs hm
  go_enter Tryd.func17, Tryd.ntmps17
  (repeat' (first | (go_big_may; fail) | go_values | go_skip | go_guarded | go_step | go_upon | go_back | dsimp only))
  go_end0
  exact ⟨rfl, HP.out⟩

/-- The store with this run gone. -/
def St.delRun (S : St) (k : Nat) : St := { S with runs := S.runs.filter fun q => q.1 != k }
theorem mem_delRun {S : St} {k : Nat} {q : Nat × RunD} : q ∈ (S.delRun k).runs ↔ q ∈ S.runs ∧ q.1 ≠ k := by
  simp [St.delRun]
theorem find_delRun (S : St) (k : Nat) (z : Int) : (S.delRun k).find z = if z = (k : Int) then none else S.find z := by
  unfold St.delRun St.find
  rw [List.find?_filter]
  split
  · rename_i h
    rw [List.find?_eq_none]
    intro q hq
    simp [h]; omega
  · rename_i h
    congr 1
    funext q
    by_cases hq : (q.1 : Int) = z
    · have : q.1 ≠ k := by omega
      simp [hq, this]
    · simp [hq]

section
variable {w w' : World} {b mb : Nat} {blk : Nat → Nat} {val : Nat → Value} {S : St}
theorem StoreI.delRun (h : StoreI w b mb blk val S) {k : Nat} {D : DataW Unit} (hlook : ∀ (z : Int) (zd : DataW Unit), D.atKey (.int .i64 z) zd = lookZ S blk z zd)
    (hm : w'.ownsMap Tryd.prog tInt ptrR mb S.made (D.del (.int .i64 (k : Int))))
    (hsame : ∀ j ∈ fpS b mb blk val S, j ≠ mb → w'.heap[j]? = w.heap[j]?) : StoreI w' b mb blk val (S.delRun k) := by
  have hbm : b ≠ mb := fun e => by
    obtain ⟨es, cl, h1⟩ := h.map_block
    rw [← e, h.cells] at h1; cases h1
  refine ⟨?_, ⟨_, hm, fun z zd => ?_⟩, fun q hq => ?_, fun q hq => ?_, fun q hq s hs hqs => ?_, ?_, fun q hq => ?_, h.sizes⟩
  · rw [hsame b (by simp [fpS]) hbm]; exact h.cells
  · by_cases hz : z = (k : Int)
    · subst hz
      rw [Maps.atKey_del_same]
      unfold lookZ
      rw [find_delRun, if_pos rfl]
    · rw [Maps.atKey_del_other (by simpa using hz), hlook z]
      unfold lookZ
      rw [find_delRun, if_neg hz]
  · rw [mem_delRun] at hq
    rw [hsame _ (mem_fpS.2 (.inr (.inr ⟨q, hq.1, .inl rfl⟩))) (Ne.symm (h.run_ne hq.1).2.1)]; exact h.run q hq.1
  · rw [mem_delRun] at hq
    exact ownsRow_block (h.row q hq.1) fun j hj => hsame j (mem_fpS.2 (.inr (.inr ⟨q, hq.1, .inr hj⟩))) (Ne.symm (h.row_ne hq.1 hj).2)
  · exact h.apart q (mem_delRun.1 hq).1 s (mem_delRun.1 hs).1 hqs
  · exact h.rising.filter _
  · exact h.inside q (mem_delRun.1 hq).1
end

/-- What Remove answers and leaves. -/
def removeP (S : St) (z : Int) : St × Nat :=
  match S.find z with
  | none => (S, 3)
  | some p => (({ S with used := S.used - p.2.text.length } : St).delRun p.1, 0)
end Go.Proofs.YtkffeaeacfhobaaDoor
