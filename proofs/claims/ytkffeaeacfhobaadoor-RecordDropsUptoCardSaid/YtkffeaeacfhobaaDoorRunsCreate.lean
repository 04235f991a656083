/- runs: Create, Seal walked. -/
import Derived.Test.YtkffeaeacfhobaaDoorRunsWalk
import Derived.Deep.RegionLaw
namespace Go.Proofs.YtkffeaeacfhobaaDoor
open Go.RowKit

theorem fails_after {w w' : World} {ef : Nat → Nat × Nat} {fl : List (Nat × Nat)} (hF : Fails w ef fl) {b : Nat} (hu : Upd [b] w w') (hb : ∀ x ∈ fl, x.2 ≠ b ∧ (ef x.1).1 ≠ b) : Fails w' ef fl :=
  ⟨fun x hx => by
    have h1 := hF.cell x hx
    have hl := World.block_lt_of_cell? w ⟨x.2, 0, none⟩ h1
    rw [World.cell?_of_block (w := w) (a := ⟨x.2, 0, none⟩) (hu.block x.2 hl (by simpa using (hb x hx).1))]; exact h1,
   fun x hx => by
    obtain ⟨c, t, h1⟩ := hF.block x hx
    exact ⟨c, t, by rw [hu.block _ (lt_of_heap h1) (by simpa using (hb x hx).2)]; exact h1⟩, hF.ne⟩

theorem errV_zero (ef : Nat → Nat × Nat) : errV ef 0 = .nilIface := rfl
theorem errV_pos (ef : Nat → Nat × Nat) {c : Nat} (h : c ≠ 0) : errV ef c = .iface tES (.pointer (some ⟨(ef c).1, (ef c).2, none⟩)) := by unfold errV; rw [if_neg h]
theorem run_neq_iface_nil {P : Program} {ti : TypeId} {ms : Array (String × TypeId)} (w : World) (tp : TypeId) (v : Value) (hi : P.underlying ti = some (.interface ms)) :
    (binOp .neq ti (.iface tp v) .nilIface).run P w = .ok (.bool true) w := by
  have h : ∀ d : Nat, (Op.equalIn (d + 1) ti (.iface tp v) .nilIface).run P w = .ok false w := fun d => by simp [Op.equalIn, run_underlying hi]
  simp only [binOp]
  simp [Op.equal, Op.maxDepth, h 9999]
theorem run_eql_iface_nil {P : Program} {ti : TypeId} {ms : Array (String × TypeId)} (w : World) (tp : TypeId) (v : Value) (hi : P.underlying ti = some (.interface ms)) :
    (binOp .eql ti (.iface tp v) .nilIface).run P w = .ok (.bool false) w := by
  have h : ∀ d : Nat, (Op.equalIn (d + 1) ti (.iface tp v) .nilIface).run P w = .ok false w := fun d => by simp [Op.equalIn, run_underlying hi]
  simp only [binOp]
  simp [Op.equal, Op.maxDepth, h 9999]
theorem run_nil_nil {P : Program} {ti : TypeId} {ms : Array (String × TypeId)} (w : World) (hi : P.underlying ti = some (.interface ms)) :
    (binOp .neq ti .nilIface .nilIface).run P w = .ok (.bool false) w ∧ (binOp .eql ti .nilIface .nilIface).run P w = .ok (.bool true) w := by
  have h : ∀ d : Nat, (Op.equalIn (d + 1) ti .nilIface .nilIface).run P w = .ok true w := fun d => by simp [Op.equalIn, run_underlying hi]
  constructor <;>
  · simp only [binOp]
    simp [Op.equal, Op.maxDepth, h 9999]
theorem neq_errV (ef : Nat → Nat × Nat) {c : Nat} (h : c ≠ 0) : ∀ w : World, (binOp .neq tErr (errV ef c) .nilIface).run Tryd.prog w = .ok (.bool true) w := fun w => by
  rw [errV_pos ef h]; exact run_neq_iface_nil w _ _ Tryd.underlying25
theorem eql_errV (ef : Nat → Nat × Nat) {c : Nat} (h : c ≠ 0) : ∀ w : World, (binOp .eql tErr (errV ef c) .nilIface).run Tryd.prog w = .ok (.bool false) w := fun w => by
  rw [errV_pos ef h]; exact run_eql_iface_nil w _ _ Tryd.underlying25
theorem neq_nil : ∀ w : World, (binOp .neq tErr .nilIface .nilIface).run Tryd.prog w = .ok (.bool false) w := fun w => (run_nil_nil w Tryd.underlying25).1
theorem eql_nil : ∀ w : World, (binOp .eql tErr .nilIface .nilIface).run Tryd.prog w = .ok (.bool true) w := fun w => (run_nil_nil w Tryd.underlying25).2

/-- What Create answers and leaves. -/
def createP (S : St) : St × Nat × Nat := if S.left = 1 then (stepS S, 0, 9) else if S.made = 16777216 then (stepS S, 0, 8) else (createS (stepS S), S.made + 1, 0)

/-- After a call on a store. -/
def StPost (w : World) (b mb : Nat) (blk : Nat → Nat) (val : Nat → Value) (S S' : St) (w' : World) : Prop :=
  ∃ blk' val', StoreI w' b mb blk' val' S' ∧ Upd (fpS b mb blk val S) w w' ∧ Grow w (fpS b mb blk val S) (fpS b mb blk' val' S')

theorem grow_create {w w1 : World} {b mb : Nat} {blk : Nat → Nat} {val : Nat → Value} {S S1 : St} (hs : w.heap.size ≤ w1.heap.size) (hr : S1.runs = S.runs) (hin : ∀ p ∈ S1.runs, 1 ≤ p.1 ∧ p.1 ≤ S1.made) :
    Grow w (fpS b mb blk val S) (fpS b mb (upTo blk (S1.made + 1) w1.heap.size) (upTo val (S1.made + 1) (.slice none 0 0)) (createS S1)) := by
  intro k hk
  rcases mem_fpS.1 hk with rfl | rfl | ⟨p, hp, h⟩
  · exact .inl (by simp [fpS])
  · exact .inl (by simp [fpS])
  · rcases List.mem_append.1 hp with hp | hp
    · have := hin p hp
      unfold upTo at h
      rw [if_neg (by omega), if_neg (by omega)] at h
      exact .inl (mem_fpS.2 (.inr (.inr ⟨p, by rw [← hr]; exact hp, h⟩)))
    · simp only [List.mem_singleton] at hp
      subst hp
      unfold upTo at h
      rw [if_pos rfl, if_pos rfl] at h
      rcases h with h | h
      · exact .inr (by omega)
      · simp [Value.ownBlock] at h

set_option maxRecDepth 100000 in
set_option maxHeartbeats 1600000 in
theorem Create_calls {w : World} {b mb : Nat} {blk : Nat → Nat} {val : Nat → Value} {S : St} (h : StoreI w b mb blk val S) {ef : Nat → Nat × Nat} {fl : List (Nat × Nat)} (hF : Fails w ef fl) (hx9 : (9, 11) ∈ fl) (hx8 : (8, 10) ∈ fl) :
    Calls Tryd.prog 28 #[.pointer (some ⟨b, 0, none⟩)] w fun e w' => e = .returned (.tuple #[.int .i64 (createP S).2.1, errV ef (createP S).2.2]) ∧ StPost w b mb blk val S (createP S).1 w' := by
  have hst := step_calls h hF hx9
  have hg8 := hF.cell _ hx8
  have hn8 := fails_ne hF hx8 h
  have hsz := h.sizes
  have hr : (stepS S).runs = S.runs := rfl
  have hfu : ∀ w', Upd [b] w w' → Upd (fpS b mb blk val S) w w' := fun w' hu => hu.mono (by simp [fpS])
  have hgr : Grow w (fpS b mb blk val S) (fpS b mb blk val (stepS S)) := Grow.refl _ _
  have HST := Lib.hid hst
  have HFU := Lib.hid hfu
  have HGR := Lib.hid hgr
  have hgl : 10 < w.heap.size := World.block_lt_of_cell? w ⟨10, 0, none⟩ hg8
  clear h hF hx9 hx8 hst hfu hgr hr
  by_cases h1 : S.left = 1
  · have e1 : createP S = (stepS S, 0, 9) := by unfold createP; rw [if_pos h1]
    have e2 : stepC S = 9 := by unfold stepC; rw [if_pos h1]
    rw [e1]
    rw [e2] at HST
    have ev := errV_pos ef (c := 9) (by decide)
    dsimp only at HST ⊢
    rw [ev] at HST ⊢
    have hq := fun w : World => run_neq_iface_nil (P := Tryd.prog) w tES (.pointer (some ⟨(ef 9).1, (ef 9).2, none⟩)) Tryd.underlying25
    clear h1 e1 e2 hg8 ev
    go_enter Tryd.func28, Tryd.ntmps28
    (repeat' (first | (go_big_may; fail) | go_values | go_skip | go_guarded | go_step | go_upon | go_back | dsimp only))
    refine HST.out.mono ?_
    rintro e w1 ⟨rfl, hs1, hu1⟩
    have HP := Lib.hid (show StPost w b mb blk val S (stepS S) w1 from ⟨blk, val, hs1, HFU.out _ hu1, HGR.out⟩)
    clear hs1 hu1 HST HFU HGR
    (repeat' (first | (go_big_may; fail) | go_values | go_skip | go_guarded | go_step | go_upon | go_back | dsimp only))
    go_ret2
    exact ⟨rfl, HP.out⟩
  · have e2 : stepC S = 0 := by unfold stepC; rw [if_neg h1]
    rw [e2, errV_zero] at HST
    have hq := neq_nil
    by_cases h2 : S.made = 16777216
    · have e1 : createP S = (stepS S, 0, 8) := by unfold createP; rw [if_neg h1, if_pos h2]
      rw [e1]
      have HM := Lib.hid (show (stepS S).made = 16777216 from h2)
      clear h1 e1 e2 h2
      go_enter Tryd.func28, Tryd.ntmps28
      (repeat' (first | (go_big_may; fail) | go_values | go_skip | go_guarded | go_step | go_upon | go_back | dsimp only))
      refine HST.out.mono ?_
      rintro e w1 ⟨rfl, hs1, hu1⟩
      have c3 := hs1.facts.c3
      rw [HM.out] at c3
      have cg8 : w1.cell? ⟨10, 0, none⟩ = some (.iface tES (.pointer (some ⟨(ef 8).1, (ef 8).2, none⟩))) := by
        rw [World.cell?_of_block (w := w) (a := ⟨10, 0, none⟩) (hu1.block _ hgl (by simpa using hn8))]; exact hg8
      have hp : ∀ n, StPost w b mb blk val S (stepS S) (w1.drewN n) := fun n => ⟨blk, val, hs1.below (below_dW _ _), HFU.out _ (hu1.drewN n), HGR.out⟩
      have HP := Lib.hid hp
      clear hs1 hu1 HST HFU HGR hg8 hp
      (repeat' (first | (go_big_may; fail) | go_values | go_skip | go_guarded | go_step | go_upon | go_back | dsimp only))
      go_quiet (fail)
      (repeat' (first | (go_big_may; fail) | go_values | go_skip | go_guarded | go_step | go_upon | go_back | dsimp only))
      go_ret2
      exact ⟨rfl, HP.out _⟩
    · have e1 : createP S = (createS (stepS S), S.made + 1, 0) := by unfold createP; rw [if_neg h1, if_neg h2]
      rw [e1]
      have hm : S.made < 16777216 := by omega
      have HM := Lib.hid (show (stepS S).made = S.made from rfl)
      clear h1 e1 e2 h2 hg8
      go_enter Tryd.func28, Tryd.ntmps28
      (repeat' (first | (go_big_may; fail) | go_values | go_skip | go_guarded | go_step | go_upon | go_back | dsimp only))
      refine HST.out.mono ?_
      rintro e w1 ⟨rfl, hs1, hu1⟩
      have hf1 := hs1.facts
      have c3 := hf1.c3
      rw [HM.out] at c3
      have c5 := hf1.c5
      have fz := hf1.fz
      have hbl := hf1.lt
      have hne : ((S.made : Int) == 16777216) = false := by rw [beq_eq_false_iff_ne]; omega
      obtain ⟨w2, hrun, hs2, hu2⟩ := create_run (hs1.below (below_dW w1 1)) (by rw [HM.out]; exact hm) ((S.made : Int) + 1) (by rw [HM.out])
      have hsz1 : (w1.drewN 1).heap.size = w1.heap.size := rfl
      rw [hsz1] at hrun hs2
      have hu2' : Upd [b, mb] w1 w2 := ⟨hu2.os, hu2.tape, hu2.output, hu2.size, hu2.block⟩
      have hrun' : (Instr.mapUpdate 81 (.map (some mb)) (.int .i64 ((S.made : Int) + 1)) (.pointer (some ⟨w1.heap.size, 0, none⟩))).run Tryd.prog ((w1.setCell ⟨b, 3, none⟩ (.int .i64 ((S.made : Int) + 1))).alloc (.cells #[.slice none 0 0, .bool false] 100)).drew = .ok () w2 := hrun
      have hs1' := hs1.inside
      have HG := Lib.hid (grow_create (b := b) (mb := mb) (blk := blk) (val := val) (S := S) hu1.size rfl hs1')
      have HS2 := Lib.hid hs2
      have HU2 := Lib.hid ((HFU.out _ hu1).trans (hu2'.mono (fp' := fpS b mb blk val S) (by simp [fpS])) (Grow.refl _ _))
      have c32 := hs2.facts.c3
      clear hs1 hs2 hu2 hu2' hu1 hf1 hs1' hrun HST HFU HGR hsz1
      (repeat' (first | (go_big_may; fail) | go_values | go_skip | go_guarded | go_step | go_upon | go_back | dsimp only))
      go_region
      (repeat' (first | (go_big_may; fail) | go_values | go_skip | go_guarded | go_step | go_upon | go_back | dsimp only))
      go_ret2
      exact ⟨rfl, _, _, HS2.out, HU2.out, HG.out⟩
end Go.Proofs.YtkffeaeacfhobaaDoor
