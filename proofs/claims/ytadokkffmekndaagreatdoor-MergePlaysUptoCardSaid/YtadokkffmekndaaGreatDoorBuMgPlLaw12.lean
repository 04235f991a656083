/- runs: the contracts to use: a store of the call's own. · runs: the law's own 'wakes'. · a failure is itself. · A statement that only ends normally: what follows, and nothing of the loops around it. · Two failures compared. -/
import Derived.Test.YtadokkffmekndaaGreatDoorBuMgPlLaw07
import Derived.Test.YtadokkffmekndaaGreatDoorBuMgPlLaw11
import Derived.Deep.RegionWith
import Derived.LaidEql
set_option linter.unusedSimpArgs false
set_option linter.unusedVariables false
namespace Go.Proofs.YtadokkffmekndaaGreatDoor
open Go.RowKit
structure HoldS (W w : World) (b : Nat) (S : St) : Prop where
  below : Below W.heap.size W w
  store : ∃ mb blk val, StoreI w b mb blk val S ∧ ∀ k ∈ fpS b mb blk val S, W.heap.size ≤ k
theorem HoldS.mono {W w w' : World} {b : Nat} {S : St} (h : HoldS W w b S) (hb : Below w.heap.size w w') : HoldS W w' b S := by
  obtain ⟨mb, blk, val, h1, h2⟩ := h.store
  exact ⟨h.below.trans (hb.mono h.below.size), mb, blk, val, h1.below hb, h2⟩
theorem HoldS.post {W w w' : World} {b mb : Nat} {blk : Nat → Nat} {val : Nat → Value} {S S' : St} (hb : Below W.heap.size W w) (h2 : ∀ k ∈ fpS b mb blk val S, W.heap.size ≤ k)
    (hp : StPost w b mb blk val S S' w') : HoldS W w' b S' := by
  obtain ⟨blk', val', h1, hu, hg⟩ := hp
  refine ⟨hb.trans (hu.below hb.size h2), mb, blk', val', h1, fun k hk => ?_⟩
  rcases hg k hk with h | h
  · exact h2 k h
  · exact Nat.le_trans hb.size h
theorem fails_upd {W w : World} {ef : Nat → Nat × Nat} {fl : List (Nat × Nat)} (hF : Fails W ef fl) (hb : Below W.heap.size W w) {b : Nat} (hB : W.heap.size ≤ b) : ∀ w', Upd [b] w w' → Fails w' ef fl := fun w' hu =>
  hF.below (hb.trans (hu.below hb.size (by simpa using hB)))
section
variable {W w : World} {b : Nat} {S : St} {ef : Nat → Nat × Nat} {fl : List (Nat × Nat)}
end
def wkS1 : St := ⟨5, 0, 0, 1, 0, [(1, ⟨[], false⟩)]⟩
def wkS2 : St := ⟨5, 3, 3, 1, 0, [(1, ⟨[97, 98, 99], false⟩)]⟩
theorem RdRow.of_block {w : World} {g : Nat} {cs : Array Value} {T : TypeId} {fr : Nat × Nat} {n size : Nat} (hg : w.heap[g]? = some (.cells cs T fr)) (h : cs.size = n * size) (hn : n ≤ maxLen) : RdRow w (.slice (some ⟨g, 0, none⟩) n n) n size cs.toList := by
  refine ⟨by simpa using h, _, _, rfl, Nat.le_refl _, hn, fun j u hu => ⟨_, _, rfl, ?_⟩⟩
  have h1 : cs[j]? = some u := by simpa using hu
  simp [World.cell?, hg, h1]
theorem tES_comp : (Tryz.prog.info? tES).map (fun i => i.comparable) = some true := by kernel_rfl
theorem tE_size : (Tryz.prog.info? 247).map (fun i => i.size) = some 1 := by kernel_rfl
theorem eql_same (a : Addr) (wz : World) : (binOp .eql tErr (.iface tES (.pointer (some a))) (.iface tES (.pointer (some a)))).run Tryz.prog wz = .ok (.bool true) wz := by
  obtain ⟨i, hi, hc⟩ := Option.map_eq_some_iff.1 tES_comp
  obtain ⟨j, hj, _⟩ := Option.map_eq_some_iff.1 tE_size
  exact run_eql_iface_ptr_same wz a Tryz.underlying33 Tryz.underlying233 hi hc hj
def Only (K : Act → World → Prop) : Exit → Act → World → Prop
  | .normal, a, w => K a w
  | _, _, _ => False
theorem wp_only {P : Program} {s : Code} {K : Act → World → Prop} {Q : Exit → Act → World → Prop} {a : Act} {w : World}
    (h : s.wp P (fun e a w => match e with | .normal => K a w | _ => False) a w) : s.wp P (Exit.then K Q) a w := by
  refine wp_mono h ?_
  intro e a' w' hq
  cases e with
  | normal => exact hq
  | _ => exact hq.elim
theorem eql_errs {w : World} {ef : Nat → Nat × Nat} {fl : List (Nat × Nat)} (hF : Fails w ef fl) {x y : Nat × Nat} (hx : x ∈ fl) (hy : y ∈ fl) :
    (binOp .eql tErr (.iface tES (.pointer (some ⟨(ef x.1).1, (ef x.1).2, none⟩))) (.iface tES (.pointer (some ⟨(ef y.1).1, (ef y.1).2, none⟩)))).run Tryz.prog w = .ok (.bool (decide (x.1 = y.1))) w := by
  by_cases h : x.1 = y.1
  · rw [h, eql_same]; simp
  · obtain ⟨i, hi, hc⟩ := Option.map_eq_some_iff.1 tES_comp
    obtain ⟨j, hj, hj1⟩ := Option.map_eq_some_iff.1 tE_size
    obtain ⟨ca, ta, ha⟩ := hF.block x hx
    obtain ⟨cb, tb, hb⟩ := hF.block y hy
    have hne := hF.ne x hx y hy h
    rw [run_eql_iface_ptr_other w Tryz.underlying33 Tryz.underlying233 hi hc hj (by rw [hj1]; decide) (fun e => hne (by simp only [Addr.mk.injEq] at e; exact Prod.ext e.1 e.2.1)) ha hb]
    simp [h]
theorem neq_same (a : Addr) (wz : World) : (binOp .neq tErr (.iface tES (.pointer (some a))) (.iface tES (.pointer (some a)))).run Tryz.prog wz = .ok (.bool false) wz := by
  obtain ⟨i, hi, hc⟩ := Option.map_eq_some_iff.1 tES_comp
  obtain ⟨j, hj, _⟩ := Option.map_eq_some_iff.1 tE_size
  simp only [binOp]
  simp [Op.equal, Op.maxDepth, run_equalIn_iface_ptr_same wz 9998 a Tryz.underlying33 Tryz.underlying233 hi hc hj]
theorem neq_errs {w : World} {ef : Nat → Nat × Nat} {fl : List (Nat × Nat)} (hF : Fails w ef fl) {x y : Nat × Nat} (hx : x ∈ fl) (hy : y ∈ fl) :
    (binOp .neq tErr (.iface tES (.pointer (some ⟨(ef x.1).1, (ef x.1).2, none⟩))) (.iface tES (.pointer (some ⟨(ef y.1).1, (ef y.1).2, none⟩)))).run Tryz.prog w = .ok (.bool (decide (x.1 ≠ y.1))) w := by
  by_cases h : x.1 = y.1
  · rw [h, neq_same]; simp
  · obtain ⟨i, hi, hc⟩ := Option.map_eq_some_iff.1 tES_comp
    obtain ⟨j, hj, hj1⟩ := Option.map_eq_some_iff.1 tE_size
    obtain ⟨ca, ta, ha⟩ := hF.block x hx
    obtain ⟨cb, tb, hb⟩ := hF.block y hy
    have hne := hF.ne x hx y hy h
    have h1 := run_equalIn_iface_ptr_other (a := ⟨(ef x.1).1, (ef x.1).2, none⟩) (b := ⟨(ef y.1).1, (ef y.1).2, none⟩) w 9998 Tryz.underlying33 Tryz.underlying233 hi hc hj (by rw [hj1]; decide) (fun e => hne (by simp only [Addr.mk.injEq] at e; exact Prod.ext e.1 e.2.1)) ha hb
    simp only [binOp]
    simp [Op.equal, Op.maxDepth, h1, h]
end Go.Proofs.YtadokkffmekndaaGreatDoor
