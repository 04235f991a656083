/- runs: Create, Seal walked. · runs: a run of the store changed; Seal, Break walked. · runs: Break walked. · runs: Remove walked. -/
import Derived.Test.YtgeabmmicofanaaGreatDoorBuSpLaw08
import Derived.Deep.RegionLaw
set_option linter.unusedSimpArgs false
set_option linter.unusedVariables false
namespace Go.Proofs.YtgeabmmicofanaaGreatDoor
open Go.RowKit

theorem errV_zero (ef : Nat → Nat × Nat) : errV ef 0 = .nilIface := rfl
theorem errV_pos (ef : Nat → Nat × Nat) {c : Nat} (h : c ≠ 0) : errV ef c = .iface tES (.pointer (some ⟨(ef c).1, (ef c).2, none⟩)) := by unfold errV; rw [if_neg h]
theorem run_neq_iface_nil {P : Program} {ti : TypeId} {ms : Array (String × TypeId)} (w : World) (tp : TypeId) (v : Value) (hi : P.underlying ti = some (.interface ms)) :
    (binOp .neq ti (.iface tp v) .nilIface).run P w = .ok (.bool true) w := by
  have h : ∀ d : Nat, (Op.equalIn (d + 1) ti (.iface tp v) .nilIface).run P w = .ok false w := fun d => by simp [Op.equalIn, run_underlying hi]
  simp only [binOp]
  simp [Op.equal, Op.maxDepth, h 9999]
theorem run_eql_iface_nil {P : Program} {ti : TypeId} {ms : Array (String × TypeId)} (w : World) (tp : TypeId) (v : Value) (hi : P.underlying ti = some (.interface ms)) :
    (binOp .eql ti (.iface tp v) .nilIface).run P w = .ok (.bool false) w := by
  have h : ∀ d : Nat, (Op.equalIn (d + 1) ti (.iface tp v) .nilIface).run P w = .ok false w := fun d => by simp [Op.equalIn, run_underlying hi]
  simp only [binOp]
  simp [Op.equal, Op.maxDepth, h 9999]
theorem run_nil_nil {P : Program} {ti : TypeId} {ms : Array (String × TypeId)} (w : World) (hi : P.underlying ti = some (.interface ms)) :
    (binOp .neq ti .nilIface .nilIface).run P w = .ok (.bool false) w ∧ (binOp .eql ti .nilIface .nilIface).run P w = .ok (.bool true) w := by
  have h : ∀ d : Nat, (Op.equalIn (d + 1) ti .nilIface .nilIface).run P w = .ok true w := fun d => by simp [Op.equalIn, run_underlying hi]
  constructor <;>
  · simp only [binOp]
    simp [Op.equal, Op.maxDepth, h 9999]
theorem neq_nil : ∀ w : World, (binOp .neq tErr .nilIface .nilIface).run Tryz.prog w = .ok (.bool false) w := fun w => (run_nil_nil w Tryz.underlying58).1
theorem eql_nil : ∀ w : World, (binOp .eql tErr .nilIface .nilIface).run Tryz.prog w = .ok (.bool true) w := fun w => (run_nil_nil w Tryz.underlying58).2

/-- What Create answers and leaves. -/
def createP (S : St) : St × Nat × Nat := if S.left = 1 then (stepS S, 0, 9) else if S.made = 16777216 then (stepS S, 0, 8) else (createS (stepS S), S.made + 1, 0)

/-- After a call on a store. -/
def StPost (w : World) (b mb : Nat) (blk : Nat → Nat) (val : Nat → Value) (S S' : St) (w' : World) : Prop :=
  ∃ blk' val', StoreI w' b mb blk' val' S' ∧ Upd (fpS b mb blk val S) w w' ∧ Grow w (fpS b mb blk val S) (fpS b mb blk' val' S')

theorem grow_create {w w1 : World} {b mb : Nat} {blk : Nat → Nat} {val : Nat → Value} {S S1 : St} (hs : w.heap.size ≤ w1.heap.size) (hr : S1.runs = S.runs) (hin : ∀ p ∈ S1.runs, 1 ≤ p.1 ∧ p.1 ≤ S1.made) :
    Grow w (fpS b mb blk val S) (fpS b mb (upTo blk (S1.made + 1) w1.heap.size) (upTo val (S1.made + 1) (.slice none 0 0)) (createS S1)) := by
  intro k hk
  rcases mem_fpS.1 hk with rfl | rfl | ⟨p, hp, h⟩
  · exact .inl (by simp [fpS])
  · exact .inl (by simp [fpS])
  · rcases List.mem_append.1 hp with hp | hp
    · have := hin p hp
      unfold upTo at h
      rw [if_neg (by omega), if_neg (by omega)] at h
      exact .inl (mem_fpS.2 (.inr (.inr ⟨p, by rw [← hr]; exact hp, h⟩)))
    · simp only [List.mem_singleton] at hp
      subst hp
      unfold upTo at h
      rw [if_pos rfl, if_pos rfl] at h
      rcases h with h | h
      · exact .inr (by omega)
      · simp [Value.ownBlock] at h

set_option maxRecDepth 100000 in
set_option maxHeartbeats 1600000 in
theorem Create_calls {w : World} {b mb : Nat} {blk : Nat → Nat} {val : Nat → Value} {S : St} (h : StoreI w b mb blk val S) {ef : Nat → Nat × Nat} {fl : List (Nat × Nat)} (hF : Fails w ef fl) (hx9 : (9, 3) ∈ fl) (hx8 : (8, 0) ∈ fl) :
    Calls Tryz.prog 22 #[.pointer (some ⟨b, 0, none⟩)] w fun e w' => e = .returned (.tuple #[.int .i64 (createP S).2.1, errV ef (createP S).2.2]) ∧ StPost w b mb blk val S (createP S).1 w' := by
  have hst := step_calls h hF hx9
  have hg8 := hF.cell _ hx8
  have hn8 := fails_ne hF hx8 h
  have hsz := h.sizes
  have hr : (stepS S).runs = S.runs := rfl
  have hfu : ∀ w', Upd [b] w w' → Upd (fpS b mb blk val S) w w' := fun w' hu => hu.mono (by simp [fpS])
  have hgr : Grow w (fpS b mb blk val S) (fpS b mb blk val (stepS S)) := Grow.refl _ _
  have HST := Lib.hid hst
  have HFU := Lib.hid hfu
  have HGR := Lib.hid hgr
  have hgl : 0 < w.heap.size := World.block_lt_of_cell? w ⟨0, 0, none⟩ hg8
  clear h hF hx9 hx8 hst hfu hgr hr
  by_cases h1 : S.left = 1
  · have e1 : createP S = (stepS S, 0, 9) := by unfold createP; rw [if_pos h1]
    have e2 : stepC S = 9 := by unfold stepC; rw [if_pos h1]
    rw [e1]
    rw [e2] at HST
    have ev := errV_pos ef (c := 9) (by decide)
    dsimp only at HST ⊢
    rw [ev] at HST ⊢
    have hq := fun w : World => run_neq_iface_nil (P := Tryz.prog) w tES (.pointer (some ⟨(ef 9).1, (ef 9).2, none⟩)) Tryz.underlying58
    clear h1 e1 e2 hg8 ev
    go_enter Tryz.func22, Tryz.ntmps22
    (repeat' (first | (go_big_may; fail) | go_values | go_skip | go_guarded | go_step | go_upon | go_back | dsimp only))
    refine HST.out.mono ?_
    rintro e w1 ⟨rfl, hs1, hu1⟩
    have HP := Lib.hid (show StPost w b mb blk val S (stepS S) w1 from ⟨blk, val, hs1, HFU.out _ hu1, HGR.out⟩)
    clear hs1 hu1 HST HFU HGR
    (repeat' (first | (go_big_may; fail) | go_values | go_skip | go_guarded | go_step | go_upon | go_back | dsimp only))
    go_ret2
    exact ⟨rfl, HP.out⟩
  · have e2 : stepC S = 0 := by unfold stepC; rw [if_neg h1]
    rw [e2, errV_zero] at HST
    have hq := neq_nil
    by_cases h2 : S.made = 16777216
    · have e1 : createP S = (stepS S, 0, 8) := by unfold createP; rw [if_neg h1, if_pos h2]
      rw [e1]
      have HM := Lib.hid (show (stepS S).made = 16777216 from h2)
      clear h1 e1 e2 h2
      go_enter Tryz.func22, Tryz.ntmps22
      (repeat' (first | (go_big_may; fail) | go_values | go_skip | go_guarded | go_step | go_upon | go_back | dsimp only))
      refine HST.out.mono ?_
      rintro e w1 ⟨rfl, hs1, hu1⟩
      have c3 := hs1.facts.c3
      rw [HM.out] at c3
      have cg8 : w1.cell? ⟨0, 0, none⟩ = some (.iface tES (.pointer (some ⟨(ef 8).1, (ef 8).2, none⟩))) := by
        rw [World.cell?_of_block (w := w) (a := ⟨0, 0, none⟩) (hu1.block _ hgl (by simpa using hn8))]; exact hg8
      have hp : ∀ n, StPost w b mb blk val S (stepS S) (w1.drewN n) := fun n => ⟨blk, val, hs1.below (below_dW _ _), HFU.out _ (hu1.drewN n), HGR.out⟩
      have HP := Lib.hid hp
      clear hs1 hu1 HST HFU HGR hg8 hp
      (repeat' (first | (go_big_may; fail) | go_values | go_skip | go_guarded | go_step | go_upon | go_back | dsimp only))
      go_quiet (fail)
      (repeat' (first | (go_big_may; fail) | go_values | go_skip | go_guarded | go_step | go_upon | go_back | dsimp only))
      go_ret2
      exact ⟨rfl, HP.out _⟩
    · have e1 : createP S = (createS (stepS S), S.made + 1, 0) := by unfold createP; rw [if_neg h1, if_neg h2]
      rw [e1]
      have hm : S.made < 16777216 := by omega
      have HM := Lib.hid (show (stepS S).made = S.made from rfl)
      clear h1 e1 e2 h2 hg8
      go_enter Tryz.func22, Tryz.ntmps22
      (repeat' (first | (go_big_may; fail) | go_values | go_skip | go_guarded | go_step | go_upon | go_back | dsimp only))
      refine HST.out.mono ?_
      rintro e w1 ⟨rfl, hs1, hu1⟩
      have hf1 := hs1.facts
      have c3 := hf1.c3
      rw [HM.out] at c3
      have c5 := hf1.c5
      have fz := hf1.fz
      have hbl := hf1.lt
      have hne : ((S.made : Int) == 16777216) = false := by rw [beq_eq_false_iff_ne]; omega
      obtain ⟨w2, hrun, hs2, hu2⟩ := create_run (hs1.below (below_dW w1 1)) (by rw [HM.out]; exact hm) ((S.made : Int) + 1) (by rw [HM.out])
      have hsz1 : (w1.drewN 1).heap.size = w1.heap.size := rfl
      rw [hsz1] at hrun hs2
      have hu2' : Upd [b, mb] w1 w2 := ⟨hu2.os, hu2.tape, hu2.output, hu2.size, hu2.block⟩
      have hrun' : (Instr.mapUpdate 42 (.map (some mb)) (.int .i64 ((S.made : Int) + 1)) (.pointer (some ⟨w1.heap.size, 0, none⟩))).run Tryz.prog ((w1.setCell ⟨b, 3, none⟩ (.int .i64 ((S.made : Int) + 1))).alloc (.cells #[.slice none 0 0, .bool false] 95)).drew = .ok () w2 := hrun
      have hs1' := hs1.inside
      have HG := Lib.hid (grow_create (b := b) (mb := mb) (blk := blk) (val := val) (S := S) hu1.size rfl hs1')
      have HS2 := Lib.hid hs2
      have HU2 := Lib.hid ((HFU.out _ hu1).trans (hu2'.mono (fp' := fpS b mb blk val S) (by simp [fpS])) (Grow.refl _ _))
      have c32 := hs2.facts.c3
      clear hs1 hs2 hu2 hu2' hu1 hf1 hs1' hrun HST HFU HGR hsz1
      (repeat' (first | (go_big_may; fail) | go_values | go_skip | go_guarded | go_step | go_upon | go_back | dsimp only))
      go_region
      (repeat' (first | (go_big_may; fail) | go_values | go_skip | go_guarded | go_step | go_upon | go_back | dsimp only))
      go_ret2
      exact ⟨rfl, _, _, HS2.out, HU2.out, HG.out⟩
end Go.Proofs.YtgeabmmicofanaaGreatDoor
namespace Go.Proofs.YtgeabmmicofanaaGreatDoor
open Go.RowKit

/-- The store with this run changed. -/
def St.setRun (S : St) (k : Nat) (r : RunD) : St := { S with runs := S.runs.map fun q => if q.1 = k then (k, r) else q }
theorem find_setRun (S : St) (k : Nat) (r : RunD) (z : Int) : (S.setRun k r).find z = (S.find z).map fun q => if q.1 = k then (k, r) else q := by
  unfold St.setRun St.find
  rw [List.find?_map]
  congr 1
  congr 1
  funext q
  simp only [Function.comp]
  split
  · rename_i h; rw [h]
  · rfl
theorem lookZ_setRun (S : St) (k : Nat) (r : RunD) (blk : Nat → Nat) (z : Int) (zd : DataW Unit) : lookZ (S.setRun k r) blk z zd = lookZ S blk z zd := by
  unfold lookZ
  rw [find_setRun]
  cases S.find z with
  | none => rfl
  | some p =>
    simp only [Option.map_some]
    split
    · rename_i h; rw [h]
    · rfl
theorem mem_setRun {S : St} {k : Nat} {r : RunD} {q : Nat × RunD} (h : q ∈ (S.setRun k r).runs) : (q = (k, r) ∧ ∃ p ∈ S.runs, p.1 = k) ∨ (q ∈ S.runs ∧ q.1 ≠ k) := by
  unfold St.setRun at h
  simp only [List.mem_map] at h
  obtain ⟨p, hp, e⟩ := h
  split at e
  · rename_i hk; exact .inl ⟨e.symm, p, hp, hk⟩
  · rename_i hk; subst e; exact .inr ⟨hp, hk⟩
theorem setRun_keys (S : St) (k : Nat) (r : RunD) : (S.setRun k r).runs.map (·.1) = S.runs.map (·.1) := by
  unfold St.setRun
  simp only [List.map_map]
  refine List.map_congr_left fun q _ => ?_
  simp only [Function.comp]
  split
  · rename_i h; rw [h]
  · rfl

section
variable {w w' : World} {b mb : Nat} {blk : Nat → Nat} {val : Nat → Value} {S : St}
/-- What kind of block each one is. -/
theorem StoreI.row_cells (h : StoreI w b mb blk val S) {p : Nat × RunD} (hp : p ∈ S.runs) {k : Nat} (hk : (val p.1).ownBlock = some k) : ∃ cs, w.heap[k]? = some (.cells cs 5 (0, 0)) := by
  rcases (h.row p hp).2 with ⟨hv, _⟩ | ⟨g, cap, cur, hv, _, hg, _⟩
  · rw [hv] at hk; simp [Value.ownBlock] at hk
  · rw [hv] at hk
    simp only [Value.ownBlock, Option.some.injEq] at hk
    subst hk
    exact ⟨_, hg⟩
theorem StoreI.map_block (h : StoreI w b mb blk val S) : ∃ es clock, w.heap[mb]? = some (.map es clock) := by
  obtain ⟨D, ⟨es, clock, h1, _⟩, _⟩ := h.map
  exact ⟨_, _, h1⟩
theorem StoreI.run_ne (h : StoreI w b mb blk val S) {p : Nat × RunD} (hp : p ∈ S.runs) : b ≠ blk p.1 ∧ mb ≠ blk p.1 ∧ ∀ q ∈ S.runs, (val q.1).ownBlock ≠ some (blk p.1) := by
  have hr := h.run p hp
  refine ⟨fun e => ?_, fun e => ?_, fun q hq e => ?_⟩
  · rw [← e, h.cells] at hr
    injection hr with hr
    injection hr with _ h2
    exact absurd h2 (by decide)
  · obtain ⟨es, cl, h1⟩ := h.map_block
    rw [← e, h1] at hr; cases hr
  · obtain ⟨cs, h1⟩ := h.row_cells hq e
    rw [h1] at hr; cases hr
theorem StoreI.row_ne (h : StoreI w b mb blk val S) {p : Nat × RunD} (hp : p ∈ S.runs) {k : Nat} (hk : (val p.1).ownBlock = some k) : b ≠ k ∧ mb ≠ k := by
  obtain ⟨cs, h2⟩ := h.row_cells hp hk
  refine ⟨fun e => ?_, fun e => ?_⟩
  · rw [← e, h.cells] at h2; cases h2
  · obtain ⟨es, cl, h1⟩ := h.map_block
    rw [← e, h1] at h2; cases h2

/-- A run of the store changed. -/
theorem StoreI.setRun (h : StoreI w b mb blk val S) {k : Nat} {p0 : RunD} (hp : (k, p0) ∈ S.runs) {r : RunD} {v : Value}
    (hblk : w'.heap[blk k]? = some (.cells #[v, .bool r.sealed] tRun (0, 0)))
    (hrow : w'.ownsRow 0 5 1 v r.text.length (bvs r.text))
    (hsame : ∀ j ∈ fpS b mb blk val S, j ≠ blk k → (val k).ownBlock ≠ some j → w'.heap[j]? = w.heap[j]?)
    (hv : ∀ j, v.ownBlock = some j → (val k).ownBlock = some j ∨ w.heap.size ≤ j) :
    StoreI w' b mb blk (upTo val k v) (S.setRun k r) := by
  have hne := h.run_ne hp
  have hlt := h.lt
  have hup : ∀ q : Nat, q ≠ k → upTo val k v q = val q := fun q hq => by unfold upTo; rw [if_neg hq]
  have hupk : upTo val k v k = v := by unfold upTo; rw [if_pos rfl]
  have hap : ∀ q ∈ S.runs, q.1 ≠ k → ∀ j, v.ownBlock = some j → (val q.1).ownBlock ≠ some j := fun q hq hqk j hj e => by
    rcases hv j hj with h1 | h1
    · exact (h.apart (k, p0) hp q hq (Ne.symm hqk)).2 j h1 e
    · have := hlt j (mem_fpS.2 (.inr (.inr ⟨q, hq, .inr e⟩)))
      omega
  refine ⟨?_, ?_, fun q hq => ?_, fun q hq => ?_, fun q hq s hs hqs => ?_, ?_, fun q hq => ?_, h.sizes⟩
  · rw [hsame b (by simp [fpS]) hne.1 (fun e => (h.row_ne hp e).1 rfl)]; exact h.cells
  · obtain ⟨D, h1, h2⟩ := h.map
    exact ⟨D, ownsMap_block h1 (hsame mb (by simp [fpS]) hne.2.1 (fun e => (h.row_ne hp e).2 rfl)), fun z zd => by rw [h2 z, lookZ_setRun]⟩
  · rcases mem_setRun hq with ⟨rfl, _⟩ | ⟨hq1, hqk⟩
    · dsimp only; rw [hupk]; exact hblk
    · rw [hup _ hqk, hsame _ (mem_fpS.2 (.inr (.inr ⟨q, hq1, .inl rfl⟩))) (h.apart q hq1 (k, p0) hp hqk).1 (fun e => (h.run_ne hq1).2.2 _ hp e)]
      exact h.run q hq1
  · rcases mem_setRun hq with ⟨rfl, _⟩ | ⟨hq1, hqk⟩
    · dsimp only; rw [hupk]; exact hrow
    · rw [hup _ hqk]
      exact ownsRow_block (h.row q hq1) fun j hj => hsame j (mem_fpS.2 (.inr (.inr ⟨q, hq1, .inr hj⟩))) (fun e => (h.run_ne hp).2.2 q hq1 (by rw [hj, e])) (fun e => (h.apart q hq1 (k, p0) hp hqk).2 j hj e)
  · rcases mem_setRun hq with ⟨rfl, _⟩ | ⟨hq1, hqk⟩ <;> rcases mem_setRun hs with ⟨rfl, _⟩ | ⟨hs1, hsk⟩
    · exact absurd rfl hqs
    · dsimp only at hqs ⊢
      rw [hupk, hup _ hsk]
      exact ⟨(h.apart (k, p0) hp s hs1 hqs).1, fun j hj => hap s hs1 hsk j hj⟩
    · dsimp only at hqs ⊢
      rw [hupk, hup _ hqk]
      exact ⟨(h.apart q hq1 (k, p0) hp hqs).1, fun j hj e => hap q hq1 hqk j e hj⟩
    · rw [hup _ hqk, hup _ hsk]
      exact h.apart q hq1 s hs1 hqs
  · have h1 : (S.runs.map (·.1)).Pairwise (· < ·) := List.pairwise_map.2 h.rising
    rw [← setRun_keys S k r] at h1
    exact List.pairwise_map.1 h1
  · rcases mem_setRun hq with ⟨rfl, _⟩ | ⟨hq1, _⟩
    · exact h.inside (k, p0) hp
    · exact h.inside q hq1
end

/-- A call that asks for an open run. -/
def withRun (S : St) (z : Int) (f : Nat × RunD → St × Nat) : St × Nat :=
  if S.left = 1 then (stepS S, 9) else
  match S.find z with
  | none => (stepS S, 3)
  | some p => if p.2.sealed then (stepS S, 4) else f p
theorem withRun_broken {S : St} {z : Int} {f : Nat × RunD → St × Nat} (h : S.left = 1) : withRun S z f = (stepS S, 9) := by unfold withRun; rw [if_pos h]
theorem withRun_err {S : St} {z : Int} {f : Nat × RunD → St × Nat} (h : S.left ≠ 1) (ho : openC S z ≠ 0) : withRun S z f = (stepS S, openC S z) := by
  unfold withRun; rw [if_neg h]
  unfold openC at ho ⊢
  cases hf : S.find z with
  | none => rfl
  | some p =>
    rw [hf] at ho
    cases hs : p.2.sealed
    · simp [hs] at ho
    · simp [hs]
theorem withRun_ok {S : St} {z : Int} {f : Nat × RunD → St × Nat} (h : S.left ≠ 1) {p : Nat × RunD} (hf : S.find z = some p) (hs : p.2.sealed = false) : withRun S z f = f p := by
  unfold withRun; rw [if_neg h, hf]; simp [hs]
theorem open_some {S : St} {z : Int} (ho : openC S z = 0) : ∃ p, S.find z = some p ∧ p.2.sealed = false := by
  unfold openC at ho
  cases hf : S.find z with
  | none => rw [hf] at ho; simp at ho
  | some p =>
    rw [hf] at ho
    refine ⟨p, rfl, ?_⟩
    cases hs : p.2.sealed
    · rfl
    · simp [hs] at ho
theorem openV_ok {S : St} {z : Int} {p : Nat × RunD} (hf : S.find z = some p) (hs : p.2.sealed = false) (blk : Nat → Nat) : openV S blk z = .pointer (some ⟨blk p.1, 0, none⟩) := by
  unfold openV; rw [hf]; simp [hs]
theorem grow_setRun {w : World} {b mb : Nat} {blk : Nat → Nat} {val : Nat → Value} {S : St} {k : Nat} {r : RunD} {v : Value} (hp : ∃ p ∈ S.runs, p.1 = k)
    (hv : ∀ j, v.ownBlock = some j → (val k).ownBlock = some j ∨ w.heap.size ≤ j) : Grow w (fpS b mb blk val S) (fpS b mb blk (upTo val k v) (S.setRun k r)) := by
  intro j hj
  rcases mem_fpS.1 hj with rfl | rfl | ⟨q, hq, h⟩
  · exact .inl (by simp [fpS])
  · exact .inl (by simp [fpS])
  · obtain ⟨p, hp, hk⟩ := hp
    subst hk
    rcases mem_setRun hq with ⟨rfl, _⟩ | ⟨hq1, hqk⟩
    · dsimp only at h
      unfold upTo at h
      rw [if_pos rfl] at h
      rcases h with h | h
      · exact .inl (mem_fpS.2 (.inr (.inr ⟨p, hp, .inl h⟩)))
      · rcases hv j h with h1 | h1
        · exact .inl (mem_fpS.2 (.inr (.inr ⟨p, hp, .inr h1⟩)))
        · exact .inr h1
    · unfold upTo at h
      rw [if_neg hqk] at h
      exact .inl (mem_fpS.2 (.inr (.inr ⟨q, hq1, h⟩)))

/-- What Seal answers and leaves. -/
def sealP (S : St) (z : Int) : St × Nat := withRun S z fun p => ((stepS S).setRun p.1 ⟨p.2.text, true⟩, 0)

set_option maxRecDepth 100000 in
set_option maxHeartbeats 1600000 in
theorem Seal_calls {w : World} {b mb : Nat} {blk : Nat → Nat} {val : Nat → Value} {S : St} (h : StoreI w b mb blk val S) {ef : Nat → Nat × Nat} {fl : List (Nat × Nat)} (hF : Fails w ef fl) (hx9 : (9, 3) ∈ fl) (hx3 : (3, 4) ∈ fl) (hx4 : (4, 5) ∈ fl)
    (hFA : ∀ w', Upd [b] w w' → Fails w' ef fl) {z : Int} (hz : inI64 z) :
    Calls Tryz.prog 24 #[.pointer (some ⟨b, 0, none⟩), .int .i64 z] w fun e w' => e = .returned (errV ef (sealP S z).2) ∧ StPost w b mb blk val S (sealP S z).1 w' := by
  have hst := step_calls h hF hx9
  have hfu : ∀ w', Upd [b] w w' → Upd (fpS b mb blk val S) w w' := fun w' hu => hu.mono (by simp [fpS])
  have hgr : Grow w (fpS b mb blk val S) (fpS b mb blk val (stepS S)) := Grow.refl _ _
  have HST := Lib.hid hst
  have HFU := Lib.hid hfu
  have HGR := Lib.hid hgr
  have HFA := Lib.hid hFA
  have HX := Lib.hid (And.intro hx3 hx4)
  have HZ := Lib.hid hz
  have hmem : ∀ q ∈ S.runs, blk q.1 ∈ fpS b mb blk val S := fun q hq => mem_fpS.2 (.inr (.inr ⟨q, hq, .inl rfl⟩))
  have HM := Lib.hid hmem
  clear h hF hx9 hst hfu hgr hFA hx3 hx4 hz hmem
  by_cases h1 : S.left = 1
  · have e1 : sealP S z = (stepS S, 9) := withRun_broken h1
    have e2 : stepC S = 9 := by unfold stepC; rw [if_pos h1]
    have ev := errV_pos ef (c := 9) (by decide)
    rw [e1]
    rw [e2] at HST
    dsimp only at HST ⊢
    rw [ev] at HST ⊢
    have hq := fun w : World => run_neq_iface_nil (P := Tryz.prog) w tES (.pointer (some ⟨(ef 9).1, (ef 9).2, none⟩)) Tryz.underlying58
    clear h1 e1 e2 ev
    go_enter Tryz.func24, Tryz.ntmps24
    (repeat' (first | (go_big_may; fail) | go_values | go_skip | go_guarded | go_step | go_upon | go_back | dsimp only))
    refine HST.out.mono ?_
    rintro e w1 ⟨rfl, hs1, hu1⟩
    have HP := Lib.hid (show StPost w b mb blk val S (stepS S) w1 from ⟨blk, val, hs1, HFU.out _ hu1, HGR.out⟩)
    clear hs1 hu1 HST HFU HGR
    (repeat' (first | (go_big_may; fail) | go_values | go_skip | go_guarded | go_step | go_upon | go_back | dsimp only))
    go_ret
    exact ⟨rfl, HP.out⟩
  · have e2 : stepC S = 0 := by unfold stepC; rw [if_neg h1]
    rw [e2, errV_zero] at HST
    have hqn := neq_nil
    have ho : openC (stepS S) z = openC S z := rfl
    have hov : openV (stepS S) blk z = openV S blk z := rfl
    by_cases h3 : openC S z = 0
    · obtain ⟨p, hf, hs⟩ := open_some h3
      have e1 : sealP S z = ((stepS S).setRun p.1 ⟨p.2.text, true⟩, 0) := withRun_ok h1 hf hs
      have HMEM := Lib.hid (find_mem hf).1
      have HOV := Lib.hid (openV_ok hf hs blk)
      have HO := Lib.hid h3
      rw [e1]
      dsimp only
      rw [errV_zero]
      clear h1 e1 e2 h3 hf hs ho hov
      go_enter Tryz.func24, Tryz.ntmps24
      (repeat' (first | (go_big_may; fail) | go_values | go_skip | go_guarded | go_step | go_upon | go_back | dsimp only))
      refine HST.out.mono ?_
      rintro e w1 ⟨rfl, hs1, hu1⟩
      have hop := open_calls hs1 (HFA.out _ hu1) HX.out.1 HX.out.2 HZ.out
      rw [show openC (stepS S) z = 0 from HO.out, show openV (stepS S) blk z = .pointer (some ⟨blk p.1, 0, none⟩) from HOV.out, errV_zero] at hop
      have HOP := Lib.hid hop
      have HS1 := Lib.hid hs1
      have HU1 := Lib.hid hu1
      clear hop hs1 hu1 HST
      (repeat' (first | (go_big_may; fail) | go_values | go_skip | go_guarded | go_step | go_upon | go_back | dsimp only))
      refine HOP.out.mono ?_
      rintro e w2 ⟨rfl, hb2⟩
      have hs2 := HS1.out.below hb2
      have hu2 := (HFU.out _ HU1.out).trans (Upd.of_below hb2 (fpS b mb blk val S)) (Grow.refl _ _)
      have hrun := hs2.run p HMEM.out
      have r1 : w2.cell? ⟨blk p.1, 1, none⟩ = some (.bool p.2.sealed) := by simp [World.cell?, hrun]
      have rf : w2.frozen? ⟨blk p.1, 1, none⟩ = false := by simp [World.frozen?, hrun]
      have hs3 : StoreI (w2.setCell ⟨blk p.1, 1, none⟩ (.bool true)) b mb blk (upTo val p.1 (val p.1)) ((stepS S).setRun p.1 ⟨p.2.text, true⟩) :=
        hs2.setRun HMEM.out (heap_setCell hrun _) (ownsRow_block (hs2.row p HMEM.out) fun k hk => Below.heap_setCell _ _ _ _ (fun e => (hs2.run_ne HMEM.out).2.2 p HMEM.out (by rw [hk]; exact congrArg some e))) (fun j _ hj _ => Below.heap_setCell _ _ _ _ hj) (fun j hj => .inl hj)
      have HP := Lib.hid (show StPost w b mb blk val S ((stepS S).setRun p.1 ⟨p.2.text, true⟩) (w2.setCell ⟨blk p.1, 1, none⟩ (.bool true)) from
        ⟨blk, _, hs3, hu2.setCell (.inl (HM.out p HMEM.out)) _, grow_setRun (S := stepS S) ⟨p, HMEM.out, rfl⟩ (fun j hj => .inl hj)⟩)
      clear hs2 hu2 hrun hs3 hb2 HOP HFU HU1 HS1 HMEM HM HFA HGR HX HZ HO HOV
      (repeat' (first | (go_big_may; fail) | go_values | go_skip | go_guarded | go_step | go_upon | go_back | dsimp only))
      go_ret
      exact ⟨rfl, HP.out⟩
    · have e1 : sealP S z = (stepS S, openC S z) := withRun_err h1 h3
      have ev := errV_pos ef h3
      rw [e1]
      dsimp only
      rw [ev]
      have hq := fun w : World => run_neq_iface_nil (P := Tryz.prog) w tES (.pointer (some ⟨(ef (openC S z)).1, (ef (openC S z)).2, none⟩)) Tryz.underlying58
      have HE := Lib.hid ev
      clear h1 e1 e2 h3 ho hov ev
      go_enter Tryz.func24, Tryz.ntmps24
      (repeat' (first | (go_big_may; fail) | go_values | go_skip | go_guarded | go_step | go_upon | go_back | dsimp only))
      refine HST.out.mono ?_
      rintro e w1 ⟨rfl, hs1, hu1⟩
      have hop := open_calls hs1 (HFA.out _ hu1) HX.out.1 HX.out.2 HZ.out
      rw [show openC (stepS S) z = openC S z from rfl, HE.out] at hop
      have HOP := Lib.hid hop
      have HS1 := Lib.hid hs1
      have HU1 := Lib.hid hu1
      clear hop hs1 hu1 HST
      (repeat' (first | (go_big_may; fail) | go_values | go_skip | go_guarded | go_step | go_upon | go_back | dsimp only))
      refine HOP.out.mono ?_
      rintro e w2 ⟨rfl, hb2⟩
      have HP := Lib.hid (show StPost w b mb blk val S (stepS S) w2 from ⟨blk, val, HS1.out.below hb2, (HFU.out _ HU1.out).trans (Upd.of_below hb2 (fpS b mb blk val S)) (Grow.refl _ _), HGR.out⟩)
      generalize openV (stepS S) blk z = v
      clear hb2 HOP HFU HU1 HS1 HM HFA HGR HX HZ HE
      (repeat' (first | (go_big_may; fail) | go_values | go_skip | go_guarded | go_step | go_upon | go_back | dsimp only))
      go_ret
      exact ⟨rfl, HP.out⟩
end Go.Proofs.YtgeabmmicofanaaGreatDoor
namespace Go.Proofs.YtgeabmmicofanaaGreatDoor
open Go.RowKit

def breakS (S : St) (z : Int) : St := { S with left := z.toNat }
/-- The store with this run gone. -/
def St.delRun (S : St) (k : Nat) : St := { S with runs := S.runs.filter fun q => q.1 != k }
theorem mem_delRun {S : St} {k : Nat} {q : Nat × RunD} : q ∈ (S.delRun k).runs ↔ q ∈ S.runs ∧ q.1 ≠ k := by
  simp [St.delRun]
theorem find_delRun (S : St) (k : Nat) (z : Int) : (S.delRun k).find z = if z = (k : Int) then none else S.find z := by
  unfold St.delRun St.find
  rw [List.find?_filter]
  split
  · rename_i h
    rw [List.find?_eq_none]
    intro q hq
    simp [h]; omega
  · rename_i h
    congr 1
    funext q
    by_cases hq : (q.1 : Int) = z
    · have : q.1 ≠ k := by omega
      simp [hq, this]
    · simp [hq]

section
variable {w w' : World} {b mb : Nat} {blk : Nat → Nat} {val : Nat → Value} {S : St}
theorem StoreI.delRun (h : StoreI w b mb blk val S) {k : Nat} {D : DataW Unit} (hlook : ∀ (z : Int) (zd : DataW Unit), D.atKey (.int .i64 z) zd = lookZ S blk z zd)
    (hm : w'.ownsMap Tryz.prog tInt ptrR mb S.made (D.del (.int .i64 (k : Int))))
    (hsame : ∀ j ∈ fpS b mb blk val S, j ≠ mb → w'.heap[j]? = w.heap[j]?) : StoreI w' b mb blk val (S.delRun k) := by
  have hbm : b ≠ mb := fun e => by
    obtain ⟨es, cl, h1⟩ := h.map_block
    rw [← e, h.cells] at h1; cases h1
  refine ⟨?_, ⟨_, hm, fun z zd => ?_⟩, fun q hq => ?_, fun q hq => ?_, fun q hq s hs hqs => ?_, ?_, fun q hq => ?_, h.sizes⟩
  · rw [hsame b (by simp [fpS]) hbm]; exact h.cells
  · by_cases hz : z = (k : Int)
    · subst hz
      rw [Maps.atKey_del_same]
      unfold lookZ
      rw [find_delRun, if_pos rfl]
    · rw [Maps.atKey_del_other (by simpa using hz), hlook z]
      unfold lookZ
      rw [find_delRun, if_neg hz]
  · rw [mem_delRun] at hq
    rw [hsame _ (mem_fpS.2 (.inr (.inr ⟨q, hq.1, .inl rfl⟩))) (Ne.symm (h.run_ne hq.1).2.1)]; exact h.run q hq.1
  · rw [mem_delRun] at hq
    exact ownsRow_block (h.row q hq.1) fun j hj => hsame j (mem_fpS.2 (.inr (.inr ⟨q, hq.1, .inr hj⟩))) (Ne.symm (h.row_ne hq.1 hj).2)
  · exact h.apart q (mem_delRun.1 hq).1 s (mem_delRun.1 hs).1 hqs
  · exact h.rising.filter _
  · exact h.inside q (mem_delRun.1 hq).1
end

/-- What Remove answers and leaves. -/
def removeP (S : St) (z : Int) : St × Nat :=
  match S.find z with
  | none => (S, 3)
  | some p => (({ S with used := S.used - p.2.text.length } : St).delRun p.1, 0)
end Go.Proofs.YtgeabmmicofanaaGreatDoor
namespace Go.Proofs.YtgeabmmicofanaaGreatDoor
open Go.RowKit

def lessS (S : St) (n : Nat) : St := { S with used := S.used - n }
theorem StoreI.less {w : World} {b mb : Nat} {blk : Nat → Nat} {val : Nat → Value} {S : St} (h : StoreI w b mb blk val S) {n : Nat} (hn : n ≤ S.used) :
    StoreI (w.setCell ⟨b, 1, none⟩ (.int .i64 ((S.used : Int) - (n : Int)))) b mb blk val (lessS S n) := by
  refine h.reset (S' := lessS S n) rfl (Nat.le_refl _) ⟨h.sizes.1, ?_, h.sizes.2.2.1, h.sizes.2.2.2.1, h.sizes.2.2.2.2⟩ 1 _ ?_
  · have := h.sizes.2.1
    show S.used - n ≤ S.cap
    omega
  · rw [← Int.ofNat_sub hn]; rfl

end Go.Proofs.YtgeabmmicofanaaGreatDoor
