/- runs: the law's own 'wakes'. -/
import Derived.Test.YtomlkhfmblkpcaaDoorRunsSpec
import Derived.Deep.RegionWith
namespace Go.Proofs.YtomlkhfmblkpcaaDoor
open Go.RowKit

def wkS1 : St := ⟨5, 0, 0, 1, 0, [(1, ⟨[], false⟩)]⟩
def wkS2 : St := ⟨5, 3, 3, 1, 0, [(1, ⟨[97, 98, 99], false⟩)]⟩
theorem wk_create : createP (newSt 5) = (wkS1, 1, 0) := by simp [createP, newSt, createS, stepS, wkS1]; rfl
theorem wk_append1 : appendP wkS1 1 (cat [[97, 98], [99]]) = (wkS2, 0) := by simp [appendP, withRun, wkS1, wkS2, St.find, cat, grownS, St.setRun, stepS]
theorem wk_append2 : appendP wkS2 1 (cat [[100, 101, 102]]) = (wkS2, 7) := by simp [appendP, withRun, wkS2, St.find, cat, stepS]

theorem RdRow.of_block {w : World} {g : Nat} {cs : Array Value} {T : TypeId} {fr : Nat × Nat} {n size : Nat} (hg : w.heap[g]? = some (.cells cs T fr)) (h : cs.size = n * size) (hn : n ≤ maxLen) : RdRow w (.slice (some ⟨g, 0, none⟩) n n) n size cs.toList := by
  refine ⟨by simpa using h, _, _, rfl, Nat.le_refl _, hn, fun j u hu => ⟨_, _, rfl, ?_⟩⟩
  have h1 : cs[j]? = some u := by simpa using hu
  simp [World.cell?, hg, h1]

/-- Append at strings that lie in a block made just ahead. -/
theorem Append_lit {W w : World} {b : Nat} {S : St} {ef : Nat → Nat × Nat} {fl : List (Nat × Nat)} (h : HoldS W w b S) (hF : Fails W ef fl) (hx : (9, 4) ∈ fl ∧ (3, 5) ∈ fl ∧ (4, 6) ∈ fl ∧ (7, 0) ∈ fl) {z : Int} (hz : inI64 z)
    (hle : ∀ p, S.find z = some p → p.2.text.length ≤ S.used) {ss : List (List UInt8)} {n : Nat} (hn : ss.length = n) (hnl : n ≤ maxLen) {g : Nat} {cs : Array Value} {T : TypeId} {fr : Nat × Nat} (hg : w.heap[g]? = some (.cells cs T fr)) (hcs : cs.toList = strs ss) (hgb : g ≠ b) (hlen : (cat ss).length ≤ 140737488355328) :
    Calls Tryd.prog 14 #[.pointer (some ⟨b, 0, none⟩), .int .i64 z, .slice (some ⟨g, 0, none⟩) n n] w fun e w' => e = .returned (errV ef (appendP S z (cat ss)).2) ∧ HoldS W w' b (appendP S z (cat ss)).1 := by
  subst hn
  refine Append_s h hF hx.1 hx.2.1 hx.2.2.1 hx.2.2.2 hz hle (fun w' hu => ?_) hlen
  rw [← hcs]
  exact RdRow.of_block (by rw [hu.block g (lt_of_heap hg) (by simpa using hgb)]; exact hg) (by have := congrArg List.length hcs; simpa [strs] using this) hnl
end Go.Proofs.YtomlkhfmblkpcaaDoor
