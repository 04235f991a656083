/- runs: the store as data, and in memory. · runs: step, open, Size, Used, Peak, Made walked. -/
import Derived.Test.YtgeabmmicofanaaGreatDoorBuSpLaw07
import Derived.Test.YtgeabmmicofanaaGreatDoorBuSpLaw03
import Derived.Maps.OwnOps
import Derived.Maps.OwnSet
import Derived.Maps.Views
import Derived.Deep.QuietTactic
import Derived.BigQuiet
set_option linter.unusedSimpArgs false
set_option linter.unusedVariables false
namespace Go.Proofs.YtgeabmmicofanaaGreatDoor
open Go.RowKit

/-- A run; a store: its runs stand by rising numbers. -/
structure RunD where
  text : List UInt8
  sealed : Bool
  deriving Inhabited
structure St where
  cap : Nat
  used : Nat
  peak : Nat
  made : Nat
  left : Nat
  runs : List (Nat × RunD)

/-- The run with this number. -/
def St.find (S : St) (z : Int) : Option (Nat × RunD) := S.runs.find? fun p => decide ((p.1 : Int) = z)

abbrev tStore : TypeId := 44
abbrev tRun : TypeId := 95
abbrev tMapR : TypeId := 42
abbrev tInt : TypeId := 3
theorem keyedInt : Maps.Keyed Tryz.prog tInt := Maps.int_keyed Tryz.underlying3
theorem zeroRunP (w : World) : (zeroValue 92).run Tryz.prog w = .ok (.pointer none) w := by kernel_rfl

/-- How a pointer to a run reads: by its block's number. -/
def ptrR (v : Value) : Option (DataW Unit × List MemPlace) :=
  match v with
  | .pointer none => some (.lit (.int .i64 (-1)), [])
  | .pointer (some ⟨b, 0, none⟩) => some (.lit (.int .i64 (b : Int)), [])
  | _ => none
theorem ptrR_none : ptrR (.pointer none) = some (.lit (.int .i64 (-1)), []) := rfl
theorem ptrR_some (b : Nat) : ptrR (.pointer (some ⟨b, 0, none⟩)) = some (.lit (.int .i64 (b : Int)), []) := rfl
theorem ptrR_neg {v : Value} {ps : List MemPlace} (h : ptrR v = some (.lit (.int .i64 (-1)), ps)) : v = .pointer none := by
  unfold ptrR at h
  split at h
  · rfl
  · simp only [Option.some.injEq, Prod.mk.injEq, DataW.lit.injEq, Lit.int.injEq, true_and] at h; omega
  · cases h
theorem ptrR_nat {v : Value} {b : Nat} {ps : List MemPlace} (h : ptrR v = some (.lit (.int .i64 (b : Int)), ps)) : v = .pointer (some ⟨b, 0, none⟩) := by
  unfold ptrR at h
  split at h
  · simp only [Option.some.injEq, Prod.mk.injEq, DataW.lit.injEq, Lit.int.injEq, true_and] at h; omega
  · simp only [Option.some.injEq, Prod.mk.injEq, DataW.lit.injEq, Lit.int.injEq, true_and] at h
    obtain rfl := Int.ofNat.inj h.1
    rfl
  · cases h
theorem keyZ {z : Int} (h : -9223372036854775808 ≤ z ∧ z ≤ 9223372036854775807) : keyOf Tryz.prog tInt (.int .i64 z) = some (.int .i64 z) :=
  Maps.keyOf_int_mk Tryz.underlying3 (by simp [Lit.wf, IntKind.min, IntKind.max, IntKind.signed, IntKind.bits]; omega)

/-- What the map answers for a number. -/
def lookZ (S : St) (blk : Nat → Nat) (z : Int) (zd : DataW Unit) : DataW Unit := match S.find z with | some p => .lit (.int .i64 (blk p.1 : Int)) | none => zd

/-- The blocks of a store. -/
def fpS (b mb : Nat) (blk : Nat → Nat) (val : Nat → Value) (S : St) : List Nat := b :: mb :: S.runs.flatMap fun p => blk p.1 :: rowOf (val p.1)

/-- The store in block b. -/
structure StoreI (w : World) (b mb : Nat) (blk : Nat → Nat) (val : Nat → Value) (S : St) : Prop where
  cells : w.heap[b]? = some (.cells #[.int .i64 S.cap, .int .i64 S.used, .int .i64 S.peak, .int .i64 S.made, .int .i64 S.left, .map (some mb)] tStore (0, 0))
  map : ∃ D : DataW Unit, w.ownsMap Tryz.prog tInt ptrR mb S.made D ∧ ∀ (z : Int) (zd : DataW Unit), D.atKey (.int .i64 z) zd = lookZ S blk z zd
  run : ∀ p ∈ S.runs, w.heap[blk p.1]? = some (.cells #[val p.1, .bool p.2.sealed] tRun (0, 0))
  row : ∀ p ∈ S.runs, w.ownsRow 0 5 1 (val p.1) p.2.text.length (bvs p.2.text)
  apart : ∀ p ∈ S.runs, ∀ q ∈ S.runs, p.1 ≠ q.1 → blk p.1 ≠ blk q.1 ∧ ∀ k, (val p.1).ownBlock = some k → (val q.1).ownBlock ≠ some k
  rising : S.runs.Pairwise fun p q => p.1 < q.1
  inside : ∀ p ∈ S.runs, 1 ≤ p.1 ∧ p.1 ≤ S.made
  sizes : S.cap ≤ 67108864 ∧ S.used ≤ S.cap ∧ S.peak ≤ S.cap ∧ S.made ≤ 16777216 ∧ S.left ≤ 9223372036854775807

theorem ownsMap_block {w w' : World} {P : Program} {k : TypeId} {R : Value → Option (DataW Unit × List MemPlace)} {b n : Nat} {D : DataW Unit} (h : w.ownsMap P k R b n D) (hb : w'.heap[b]? = w.heap[b]?) : w'.ownsMap P k R b n D := by
  obtain ⟨es, clock, h1, F, h2, h3⟩ := h
  exact ⟨es, clock, by rw [hb]; exact h1, F, h2, h3⟩

section
variable {w w' : World} {b mb : Nat} {blk : Nat → Nat} {val : Nat → Value} {S : St}
theorem mem_fpS {k : Nat} : k ∈ fpS b mb blk val S ↔ k = b ∨ k = mb ∨ ∃ p ∈ S.runs, k = blk p.1 ∨ (val p.1).ownBlock = some k := by
  simp only [fpS, List.mem_cons, List.mem_flatMap, mem_rowOf]
theorem StoreI.of_block (h : StoreI w b mb blk val S) (hk : ∀ k ∈ fpS b mb blk val S, w'.heap[k]? = w.heap[k]?) : StoreI w' b mb blk val S := by
  refine ⟨by rw [hk b (by simp [fpS])]; exact h.cells, ?_, fun p hp => ?_, fun p hp => ?_, h.apart, h.rising, h.inside, h.sizes⟩
  · obtain ⟨D, h1, h2⟩ := h.map
    exact ⟨D, ownsMap_block h1 (hk mb (by simp [fpS])), h2⟩
  · rw [hk _ (mem_fpS.2 (.inr (.inr ⟨p, hp, .inl rfl⟩)))]; exact h.run p hp
  · exact ownsRow_block (h.row p hp) fun k e => hk k (mem_fpS.2 (.inr (.inr ⟨p, hp, .inr e⟩)))
theorem StoreI.lt (h : StoreI w b mb blk val S) : ∀ k ∈ fpS b mb blk val S, k < w.heap.size := by
  intro k hk
  rcases mem_fpS.1 hk with rfl | rfl | ⟨p, hp, rfl | e⟩
  · exact lt_of_heap h.cells
  · obtain ⟨D, h1, _⟩ := h.map; exact h1.lt
  · exact lt_of_heap (h.run p hp)
  · exact ((h.row p hp).lt k e).2
theorem StoreI.upd {fp : List Nat} (h : StoreI w b mb blk val S) (hu : Upd fp w w') (hd : ∀ k ∈ fpS b mb blk val S, k ∉ fp) : StoreI w' b mb blk val S :=
  h.of_block fun k hk => hu.block k (h.lt k hk) (hd k hk)
theorem StoreI.below (h : StoreI w b mb blk val S) (hb : Below w.heap.size w w') : StoreI w' b mb blk val S := h.upd (Upd.of_below hb []) (by simp)

/-- What a look-up answers. -/
theorem StoreI.look_none (h : StoreI w b mb blk val S) {z : Int} (hz : -9223372036854775808 ≤ z ∧ z ≤ 9223372036854775807) (hf : S.find z = none) :
    (Instr.lookup tMapR (.map (some mb)) (.int .i64 z) false).run Tryz.prog w = .ok (.pointer none) w := by
  obtain ⟨D, h1, h2⟩ := h.map
  obtain ⟨v, ps, hr, hv⟩ := h1.lookup keyedInt Tryz.underlying42 (zeroRunP w) ptrR_none (keyZ hz)
  rw [h2 z] at hv
  have e : lookZ S blk z (.lit (.int .i64 (-1))) = .lit (.int .i64 (-1)) := by unfold lookZ; rw [hf]
  rw [e] at hv
  rw [ptrR_neg hv] at hr
  exact hr
theorem StoreI.look_some (h : StoreI w b mb blk val S) {z : Int} (hz : -9223372036854775808 ≤ z ∧ z ≤ 9223372036854775807) {p : Nat × RunD} (hf : S.find z = some p) :
    (Instr.lookup tMapR (.map (some mb)) (.int .i64 z) false).run Tryz.prog w = .ok (.pointer (some ⟨blk p.1, 0, none⟩)) w := by
  obtain ⟨D, h1, h2⟩ := h.map
  obtain ⟨v, ps, hr, hv⟩ := h1.lookup keyedInt Tryz.underlying42 (zeroRunP w) ptrR_none (keyZ hz)
  rw [h2 z] at hv
  have e : lookZ S blk z (.lit (.int .i64 (-1))) = .lit (.int .i64 (blk p.1 : Int)) := by unfold lookZ; rw [hf]
  rw [e] at hv
  rw [ptrR_nat hv] at hr
  exact hr
theorem find_mem {S : St} {z : Int} {p : Nat × RunD} (h : S.find z = some p) : p ∈ S.runs ∧ (p.1 : Int) = z := by
  unfold St.find at h
  exact ⟨List.mem_of_find?_eq_some h, by simpa using List.find?_some h⟩
end

/-- The cells of the store that a walk reads. -/
structure StFacts (w : World) (b mb : Nat) (S : St) : Prop where
  c0 : w.cell? ⟨b, 0, none⟩ = some (.int .i64 S.cap)
  c1 : w.cell? ⟨b, 1, none⟩ = some (.int .i64 S.used)
  c2 : w.cell? ⟨b, 2, none⟩ = some (.int .i64 S.peak)
  c3 : w.cell? ⟨b, 3, none⟩ = some (.int .i64 S.made)
  c4 : w.cell? ⟨b, 4, none⟩ = some (.int .i64 S.left)
  c5 : w.cell? ⟨b, 5, none⟩ = some (.map (some mb))
  fz : ∀ k, w.frozen? ⟨b, k, none⟩ = false
  lt : b < w.heap.size
theorem StoreI.facts {w : World} {b mb : Nat} {blk : Nat → Nat} {val : Nat → Value} {S : St} (h : StoreI w b mb blk val S) : StFacts w b mb S := by
  have h1 := h.cells
  exact ⟨by simp [World.cell?, h1], by simp [World.cell?, h1], by simp [World.cell?, h1], by simp [World.cell?, h1], by simp [World.cell?, h1], by simp [World.cell?, h1], fun k => by simp [World.frozen?, h1], lt_of_heap h1⟩
end Go.Proofs.YtgeabmmicofanaaGreatDoor
namespace Go.Proofs.YtgeabmmicofanaaGreatDoor
open Go.RowKit

def stepS (S : St) : St := { S with left := S.left - 1 }
def stepC (S : St) : Nat := if S.left = 1 then 9 else 0
theorem StoreI.setLeft {w : World} {b mb : Nat} {blk : Nat → Nat} {val : Nat → Value} {S : St} (h : StoreI w b mb blk val S) {n : Nat} (hn : n ≤ 9223372036854775807) (z : Int) (hz : z = (n : Int)) :
    StoreI (w.setCell ⟨b, 4, none⟩ (.int .i64 z)) b mb blk val { S with left := n } := by
  subst hz
  have hne : ∀ k, k ≠ b → (w.setCell ⟨b, 4, none⟩ (.int .i64 (n : Int))).heap[k]? = w.heap[k]? := fun k hk => Below.heap_setCell _ _ _ _ hk
  have hnb : ∀ k o, w.heap[k]? = some o → (∀ cs, o ≠ .cells cs tStore (0, 0)) → k ≠ b := fun k o hk ho e => by
    subst e
    rw [h.cells] at hk
    cases hk
    exact ho _ rfl
  refine ⟨heap_setCell h.cells _, ?_, fun p hp => ?_, fun p hp => ?_, h.apart, h.rising, h.inside, ⟨h.sizes.1, h.sizes.2.1, h.sizes.2.2.1, h.sizes.2.2.2.1, hn⟩⟩
  · obtain ⟨D, h1, h2⟩ := h.map
    refine ⟨D, ownsMap_block h1 (hne _ ?_), h2⟩
    obtain ⟨es, clock, h3, _⟩ := h1
    exact hnb _ _ h3 (fun cs e => by cases e)
  · rw [hne _ (hnb _ _ (h.run p hp) (fun cs e => by cases e))]; exact h.run p hp
  · refine ownsRow_block (h.row p hp) fun k hk => hne k ?_
    rcases (h.row p hp).2 with ⟨hv, _⟩ | ⟨g, cap, cur, hv, _, hg, _⟩
    · rw [hv] at hk; simp [Value.ownBlock] at hk
    · rw [hv] at hk
      simp only [Value.ownBlock, Option.some.injEq] at hk
      subst hk
      exact hnb _ _ hg (fun cs e => by cases e)

theorem fails_ne {w : World} {ef : Nat → Nat × Nat} {fl : List (Nat × Nat)} (hF : Fails w ef fl) {x : Nat × Nat} (hx : x ∈ fl) {b mb : Nat} {blk : Nat → Nat} {val : Nat → Value} {S : St} (h : StoreI w b mb blk val S) : x.2 ≠ b := by
  intro e
  have h1 := hF.cell x hx
  rw [e] at h1
  have h2 := h.facts.c0.symm.trans h1
  cases h2

set_option maxHeartbeats 800000 in
theorem step_calls {w : World} {b mb : Nat} {blk : Nat → Nat} {val : Nat → Value} {S : St} (h : StoreI w b mb blk val S) {ef : Nat → Nat × Nat} {fl : List (Nat × Nat)} (hF : Fails w ef fl) (hx : (9, 3) ∈ fl) :
    Calls Tryz.prog 51 #[.pointer (some ⟨b, 0, none⟩)] w fun e w' => e = .returned (errV ef (stepC S)) ∧ StoreI w' b mb blk val (stepS S) ∧ Upd [b] w w' := by
  have hf := h.facts
  have c4 := hf.c4
  have fz := hf.fz
  have hbl := hf.lt
  have hleft := h.sizes.2.2.2.2
  have cg := hF.cell _ hx
  have hgb : ¬ 3 = b := fails_ne hF hx h
  have H := Lib.hid h
  clear hF hf h
  by_cases h0 : S.left = 0
  · have e1 : stepC S = 0 := by unfold stepC; rw [if_neg (by omega)]
    have e2 : stepS S = S := by unfold stepS; rw [show S.left - 1 = S.left by omega]
    rw [e1, e2]
    rw [h0] at c4
    have HH0 := Lib.hid h0
    clear h0 e1 e2
    go_enter Tryz.func51, Tryz.ntmps51
    (repeat' (first | (go_big_may; fail) | go_values | go_skip | go_guarded | go_step | go_upon | go_back | dsimp only))
    go_ret
    exact ⟨rfl, H.out, Upd.refl _ _⟩
  · obtain ⟨m, hm⟩ : ∃ m, S.left = m + 1 := ⟨S.left - 1, by omega⟩
    have e2 : stepS S = { S with left := m } := by unfold stepS; rw [show S.left - 1 = m by omega]
    rw [e2]
    have HS := Lib.hid (H.out.setLeft (n := m) (by omega) ((m : Int)) rfl)
    have HU := Lib.hid ((Upd.refl [b] w).setCell (p := ⟨b, 4, none⟩) (.inl (by simp)) (.int .i64 (m : Int)))
    rw [hm] at c4 hleft
    by_cases hm0 : m = 0
    · subst hm0
      have e1 : stepC S = 9 := by unfold stepC; rw [if_pos hm]
      rw [e1]
      clear hm e1 e2 h0
      go_enter Tryz.func51, Tryz.ntmps51
      (repeat' (first | (go_big_may; fail) | go_values | go_skip | go_guarded | go_step | go_upon | go_back | dsimp only))
      go_ret
      exact ⟨rfl, HS.out, HU.out⟩
    · have e1 : stepC S = 0 := by unfold stepC; rw [if_neg (by omega)]
      rw [e1]
      have hne : ((m : Int) == 0) = false := by rw [beq_eq_false_iff_ne]; omega
      have hm1 : 0 < (m : Int) + 1 := by omega
      clear hm e1 e2 h0
      go_enter Tryz.func51, Tryz.ntmps51
      (repeat' (first | (go_big_may; fail) | go_values | go_skip | go_guarded | go_step | go_upon | go_back | dsimp only))
      go_ret
      exact ⟨rfl, HS.out, HU.out⟩

/-- What 'open' answers. -/
def openC (S : St) (z : Int) : Nat := match S.find z with | none => 3 | some p => if p.2.sealed then 4 else 0
def openV (S : St) (blk : Nat → Nat) (z : Int) : Value := match S.find z with | none => .pointer none | some p => if p.2.sealed then .pointer none else .pointer (some ⟨blk p.1, 0, none⟩)
abbrev inI64 (z : Int) : Prop := -9223372036854775808 ≤ z ∧ z ≤ 9223372036854775807

set_option maxHeartbeats 800000 in
theorem open_calls {w : World} {b mb : Nat} {blk : Nat → Nat} {val : Nat → Value} {S : St} (h : StoreI w b mb blk val S) {ef : Nat → Nat × Nat} {fl : List (Nat × Nat)} (hF : Fails w ef fl) (hx3 : (3, 4) ∈ fl) (hx4 : (4, 5) ∈ fl) {z : Int} (hz : inI64 z) :
    Calls Tryz.prog 52 #[.pointer (some ⟨b, 0, none⟩), .int .i64 z] w fun e w' => e = .returned (.tuple #[openV S blk z, errV ef (openC S z)]) ∧ Below w.heap.size w w' := by
  have c5 := h.facts.c5
  have cg3 := hF.cell _ hx3
  have cg4 := hF.cell _ hx4
  have hd : ∀ n, Below w.heap.size w (w.drewN n) := fun n => below_dW w n
  have HD := Lib.hid hd
  clear hd hF hx3 hx4
  cases hf : S.find z with
  | none =>
    have hl := h.look_none hz hf
    have e1 : openV S blk z = .pointer none := by unfold openV; rw [hf]
    have e2 : openC S z = 3 := by unfold openC; rw [hf]
    rw [e1, e2]
    clear h hf e1 e2 hz cg4
    go_enter Tryz.func52, Tryz.ntmps52
    (repeat' (first | (go_big_may; fail) | go_values | go_skip | go_guarded | go_step | go_upon | go_back | dsimp only))
    go_quiet (fail)
    (repeat' (first | (go_big_may; fail) | go_values | go_skip | go_guarded | go_step | go_upon | go_back | dsimp only))
    go_ret2
    exact ⟨rfl, HD.out _⟩
  | some p =>
    have hl := h.look_some hz hf
    have hrun := h.run p (find_mem hf).1
    have r1 : w.cell? ⟨blk p.1, 1, none⟩ = some (.bool p.2.sealed) := by simp [World.cell?, hrun]
    cases hs : p.2.sealed
    · rw [hs] at r1
      have e1 : openV S blk z = .pointer (some ⟨blk p.1, 0, none⟩) := by unfold openV; rw [hf]; simp [hs]
      have e2 : openC S z = 0 := by unfold openC; rw [hf]; simp [hs]
      rw [e1, e2]
      clear h hf e1 e2 hz hrun cg3 cg4 hs
      generalize blk p.1 = rb at *
      go_enter Tryz.func52, Tryz.ntmps52
      (repeat' (first | (go_big_may; fail) | go_values | go_skip | go_guarded | go_step | go_upon | go_back | dsimp only))
      go_ret2
      exact ⟨rfl, Below.refl _ _⟩
    · rw [hs] at r1
      have e1 : openV S blk z = .pointer none := by unfold openV; rw [hf]; simp [hs]
      have e2 : openC S z = 4 := by unfold openC; rw [hf]; simp [hs]
      rw [e1, e2]
      clear h hf e1 e2 hz hrun cg3 hs
      generalize blk p.1 = rb at *
      go_enter Tryz.func52, Tryz.ntmps52
      (repeat' (first | (go_big_may; fail) | go_values | go_skip | go_guarded | go_step | go_upon | go_back | dsimp only))
      go_quiet (fail)
      (repeat' (first | (go_big_may; fail) | go_values | go_skip | go_guarded | go_step | go_upon | go_back | dsimp only))
      go_ret2
      exact ⟨rfl, HD.out _⟩

/-- What 'Size' answers. -/
def sizeN (S : St) (z : Int) : Nat := match S.find z with | none => 0 | some p => p.2.text.length
def sizeC (S : St) (z : Int) : Nat := match S.find z with | none => 3 | some _ => 0

set_option maxHeartbeats 800000 in
theorem Size_calls {w : World} {b mb : Nat} {blk : Nat → Nat} {val : Nat → Value} {S : St} (h : StoreI w b mb blk val S) {ef : Nat → Nat × Nat} {fl : List (Nat × Nat)} (hF : Fails w ef fl) (hx3 : (3, 4) ∈ fl) {z : Int} (hz : inI64 z) :
    Calls Tryz.prog 74 #[.pointer (some ⟨b, 0, none⟩), .int .i64 z] w fun e w' => e = .returned (.tuple #[.int .i64 (sizeN S z), errV ef (sizeC S z)]) ∧ Below w.heap.size w w' := by
  have c5 := h.facts.c5
  have cg3 := hF.cell _ hx3
  have hd : ∀ n, Below w.heap.size w (w.drewN n) := fun n => below_dW w n
  have HD := Lib.hid hd
  clear hd hF hx3
  cases hf : S.find z with
  | none =>
    have hl := h.look_none hz hf
    have e1 : sizeN S z = 0 := by unfold sizeN; rw [hf]
    have e2 : sizeC S z = 3 := by unfold sizeC; rw [hf]
    rw [e1, e2]
    clear h hf e1 e2 hz
    go_enter Tryz.func74, Tryz.ntmps74
    (repeat' (first | (go_big_may; fail) | go_values | go_skip | go_guarded | go_step | go_upon | go_back | dsimp only))
    go_quiet (fail)
    (repeat' (first | (go_big_may; fail) | go_values | go_skip | go_guarded | go_step | go_upon | go_back | dsimp only))
    go_ret2
    exact ⟨rfl, HD.out _⟩
  | some p =>
    have hl := h.look_some hz hf
    have hrun := h.run p (find_mem hf).1
    obtain ⟨ao, cap, hv, _, _⟩ := (RdRow.of_own (h.row p (find_mem hf).1)).shape
    have r0 : w.cell? ⟨blk p.1, 0, none⟩ = some (val p.1) := by simp [World.cell?, hrun]
    rw [hv] at r0
    have e1 : sizeN S z = p.2.text.length := by unfold sizeN; rw [hf]
    have e2 : sizeC S z = 0 := by unfold sizeC; rw [hf]
    rw [e1, e2]
    clear h hf e1 e2 hz hrun cg3 hv
    generalize blk p.1 = rb at *
    go_enter Tryz.func74, Tryz.ntmps74
    (repeat' (first | (go_big_may; fail) | go_values | go_skip | go_guarded | go_step | go_upon | go_back | dsimp only))
    go_ret2
    exact ⟨rfl, Below.refl _ _⟩

/-- A new store. -/
def newSt (c : Int) : St := ⟨(max 0 (min c 67108864)).toNat, 0, 0, 0, 0, []⟩
theorem newStore_mem (w : World) (z : Int) (n : Nat) (hz : z = n) (hn : n ≤ 67108864) :
    StoreI ((w.alloc (.map #[] 0)).alloc (.cells #[.int .i64 z, .int .i64 0, .int .i64 0, .int .i64 0, .int .i64 0, .map (some w.heap.size)] tStore)) (w.heap.size + 1) w.heap.size (fun _ => 0) (fun _ => .slice none 0 0) ⟨n, 0, 0, 0, 0, []⟩ := by
  subst hz
  refine ⟨?_, ⟨.map [], (World.ownsMap_made w Tryz.prog tInt ptrR).alloc _, fun z zd => rfl⟩, by simp, by simp, by simp, List.Pairwise.nil, by simp, ⟨hn, by simp, by simp, by simp, by simp⟩⟩
  have := heap_alloc_new (w.alloc (.map #[] 0)) (.cells #[.int .i64 (n : Int), .int .i64 0, .int .i64 0, .int .i64 0, .int .i64 0, .map (some w.heap.size)] tStore)
  simpa using this
set_option maxHeartbeats 400000 in
theorem New_calls (w : World) (c : Int) (hc : inI64 c) :
    Calls Tryz.prog 4 #[.int .i64 c] w fun e w' => e = .returned (.pointer (some ⟨w.heap.size + 1, 0, none⟩)) ∧ StoreI w' (w.heap.size + 1) w.heap.size (fun _ => 0) (fun _ => .slice none 0 0) (newSt c) ∧ Below w.heap.size w w' := by
  have hmm := @run_makeMap Tryz.prog
  obtain ⟨hc1, hc2⟩ := hc
  go_enter Tryz.func4, Tryz.ntmps4
  (repeat' (first | (go_big_may; fail) | go_values | go_skip | go_guarded | go_step | go_upon | go_back | dsimp only))
  go_ret
  refine ⟨rfl, newStore_mem w _ _ ?_ (by omega), ((Below.refl _ _).alloc (Nat.le_refl _) _).alloc (by simp) _⟩
  by_cases h1 : 67108864 < c
  · rw [if_pos h1, if_pos (by omega)]; omega
  · rw [if_neg h1]
    by_cases h2 : 0 < c
    · rw [if_pos h2]; omega
    · rw [if_neg h2]; omega

/-- One run more. -/
def createS (S : St) : St := { S with made := S.made + 1, runs := S.runs ++ [(S.made + 1, ⟨[], false⟩)] }
def upTo {α : Type} (f : Nat → α) (n : Nat) (x : α) : Nat → α := fun k => if k = n then x else f k

theorem find_createS {w : World} {b mb : Nat} {blk : Nat → Nat} {val : Nat → Value} {S : St} (h : StoreI w b mb blk val S) (nb : Nat) (z : Int) (zd : DataW Unit) : lookZ (createS S) (upTo blk (S.made + 1) nb) z zd = if z = (S.made : Int) + 1 then .lit (.int .i64 (nb : Int)) else lookZ S blk z zd := by
  have hin := h.inside
  unfold lookZ createS St.find
  rw [List.find?_append]
  by_cases hz : z = (S.made : Int) + 1
  · rw [if_pos hz]
    have hn : S.runs.find? (fun p => decide ((p.1 : Int) = z)) = none := by
      rw [List.find?_eq_none]
      intro p hp
      have := hin p hp
      simp; omega
    rw [hn]
    simp [hz, upTo]
  · rw [if_neg hz]
    cases hf : S.runs.find? (fun p => decide ((p.1 : Int) = z)) with
    | none => simp [show ¬ ((S.made : Int) + 1 = z) by omega]
    | some p =>
      have := hin p (List.mem_of_find?_eq_some hf)
      simp only [Option.some_or]
      unfold upTo
      rw [if_neg (by omega)]

/-- A cell of the store written: its runs stay. -/
theorem StoreI.reset {w : World} {b mb : Nat} {blk : Nat → Nat} {val : Nat → Value} {S S' : St} (h : StoreI w b mb blk val S) (hr : S'.runs = S.runs) (hmade : S.made ≤ S'.made)
    (hsz : S'.cap ≤ 67108864 ∧ S'.used ≤ S'.cap ∧ S'.peak ≤ S'.cap ∧ S'.made ≤ 16777216 ∧ S'.left ≤ 9223372036854775807) (o : Nat) (v : Value)
    (hc : (#[.int .i64 S.cap, .int .i64 S.used, .int .i64 S.peak, .int .i64 S.made, .int .i64 S.left, .map (some mb)] : Array Value).setIfInBounds o v = #[.int .i64 S'.cap, .int .i64 S'.used, .int .i64 S'.peak, .int .i64 S'.made, .int .i64 S'.left, .map (some mb)]) :
    StoreI (w.setCell ⟨b, o, none⟩ v) b mb blk val S' := by
  have hne : ∀ k, k ≠ b → (w.setCell ⟨b, o, none⟩ v).heap[k]? = w.heap[k]? := fun k hk => Below.heap_setCell _ _ _ _ hk
  have hnb : ∀ k o, w.heap[k]? = some o → (∀ cs, o ≠ .cells cs tStore (0, 0)) → k ≠ b := fun k o hk ho e => by
    subst e
    rw [h.cells] at hk
    cases hk
    exact ho _ rfl
  refine ⟨by rw [← hc]; exact heap_setCell h.cells _, ?_, fun p hp => ?_, fun p hp => ?_, ?_, ?_, fun p hp => ?_, hsz⟩
  · obtain ⟨D, h1, h2⟩ := h.map
    refine ⟨D, ownsMap_block (h1.mono hmade) (hne _ ?_), fun z zd => ?_⟩
    · obtain ⟨es, clock, h3, _⟩ := h1
      exact hnb _ _ h3 (fun cs e => by cases e)
    · rw [h2 z]; unfold lookZ St.find; rw [hr]
  · rw [hr] at hp
    rw [hne _ (hnb _ _ (h.run p hp) (fun cs e => by cases e))]; exact h.run p hp
  · rw [hr] at hp
    refine ownsRow_block (h.row p hp) fun k hk => hne k ?_
    rcases (h.row p hp).2 with ⟨hv, _⟩ | ⟨g, cap, cur, hv, _, hg, _⟩
    · rw [hv] at hk; simp [Value.ownBlock] at hk
    · rw [hv] at hk
      simp only [Value.ownBlock, Option.some.injEq] at hk
      subst hk
      exact hnb _ _ hg (fun cs e => by cases e)
  · rw [hr]; exact h.apart
  · rw [hr]; exact h.rising
  · rw [hr] at hp
    have := h.inside p hp
    omega

theorem create_run {w : World} {b mb : Nat} {blk : Nat → Nat} {val : Nat → Value} {S : St} (h : StoreI w b mb blk val S) (hm : S.made < 16777216) (z : Int) (hz : z = (S.made : Int) + 1) :
    ∃ w2, (Instr.mapUpdate tMapR (.map (some mb)) (.int .i64 z) (.pointer (some ⟨w.heap.size, 0, none⟩))).run Tryz.prog ((w.setCell ⟨b, 3, none⟩ (.int .i64 z)).alloc (.cells #[.slice none 0 0, .bool false] tRun)) = .ok () w2 ∧
      StoreI w2 b mb (upTo blk (S.made + 1) w.heap.size) (upTo val (S.made + 1) (.slice none 0 0)) (createS S) ∧ Upd [b, mb] w w2 := by
  have hb := lt_of_heap h.cells
  have hmb : mb < w.heap.size := by obtain ⟨D, h1, _⟩ := h.map; exact h1.lt
  have hbm : b ≠ mb := fun e => by
    obtain ⟨D, ⟨es, clock, h1, _⟩, _⟩ := h.map
    rw [← e, h.cells] at h1
    cases h1
  obtain ⟨W, hW⟩ : ∃ W, (w.setCell ⟨b, 3, none⟩ (.int .i64 z)).alloc (.cells #[.slice none 0 0, .bool false] tRun) = W := ⟨_, rfl⟩
  have hS1 : StoreI (w.setCell ⟨b, 3, none⟩ (.int .i64 z)) b mb blk val { S with made := S.made + 1 } :=
    h.reset (S' := { S with made := S.made + 1 }) rfl (Nat.le_succ _) ⟨h.sizes.1, h.sizes.2.1, h.sizes.2.2.1, hm, h.sizes.2.2.2.2⟩ 3 _ (by subst hz; rfl)
  have hsz : (w.setCell ⟨b, 3, none⟩ (.int .i64 z)).heap.size = w.heap.size := by simp [World.setCell]
  have hold : ∀ k, k < w.heap.size → k ≠ b → W.heap[k]? = w.heap[k]? := fun k hk hne => by
    rw [← hW, heap_alloc_old _ _ (by rw [hsz]; exact hk), Below.heap_setCell _ _ _ _ hne]
  have hnew : W.heap[w.heap.size]? = some (.cells #[.slice none 0 0, .bool false] tRun (0, 0)) := by
    have := heap_alloc_new (w.setCell ⟨b, 3, none⟩ (.int .i64 z)) (.cells #[.slice none 0 0, .bool false] tRun)
    rw [hsz, hW] at this
    exact this
  have hSW : StoreI W b mb blk val { S with made := S.made + 1 } := by
    rw [← hW]; exact hS1.below ((Below.refl _ _).alloc (Nat.le_refl _) _)
  have hmbn : ∀ k o, W.heap[k]? = some o → (∀ es clock, o ≠ .map es clock) → some k ≠ some mb := fun k o hk ho e => by
    cases e
    obtain ⟨D, ⟨es, clock, h3, _⟩, _⟩ := hSW.map
    rw [h3] at hk
    cases hk
    exact ho _ _ rfl
  obtain ⟨D, h1, h2⟩ := h.map
  have h1W : W.ownsMap Tryz.prog tInt ptrR mb S.made D := ownsMap_block h1 (hold mb hmb (fun e => hbm e.symm))
  have hzz : -9223372036854775808 ≤ z ∧ z ≤ 9223372036854775807 := by omega
  obtain ⟨w2, hrun, hown, hg⟩ := h1W.update keyedInt Tryz.underlying42 (by unfold maxLen; omega) (keyZ hzz) (ptrR_some w.heap.size)
  refine ⟨w2, by rw [hW]; exact hrun, ⟨?_, ⟨_, hown, fun y zd => ?_⟩, fun p hp => ?_, fun p hp => ?_, fun p hp q hq hne => ?_, ?_, fun p hp => ?_, ⟨h.sizes.1, h.sizes.2.1, h.sizes.2.2.1, hm, h.sizes.2.2.2.2⟩⟩, ?_⟩
  · rw [hg.block b (lt_of_heap hSW.cells) (by simp [hbm])]; exact hSW.cells
  · rw [find_createS h]
    by_cases hy : y = z
    · subst hy
      rw [if_pos hz, Maps.atKey_put_same h1.isMap (by trivial)]
    · rw [if_neg (by omega), Maps.atKey_put_other (by simp [hy]), h2 y]
  · rcases List.mem_append.1 hp with hp | hp
    · have hi := h.inside p hp
      have e : upTo blk (S.made + 1) w.heap.size p.1 = blk p.1 := by unfold upTo; rw [if_neg (by omega)]
      have e2 : upTo val (S.made + 1) (.slice none 0 0) p.1 = val p.1 := by unfold upTo; rw [if_neg (by omega)]
      have hr := hSW.run p hp
      rw [e, e2, hg.block _ (lt_of_heap hr) (hmbn _ _ hr (fun _ _ e => by cases e))]
      exact hr
    · simp only [List.mem_singleton] at hp
      subst hp
      have e : upTo blk (S.made + 1) w.heap.size (S.made + 1) = w.heap.size := by unfold upTo; rw [if_pos rfl]
      have e2 : upTo val (S.made + 1) (.slice none 0 0) (S.made + 1) = .slice none 0 0 := by unfold upTo; rw [if_pos rfl]
      show w2.heap[upTo blk (S.made + 1) w.heap.size (S.made + 1)]? = some (.cells #[upTo val (S.made + 1) (.slice none 0 0) (S.made + 1), .bool false] tRun (0, 0))
      rw [e, e2, hg.block _ (lt_of_heap hnew) (by simp; omega)]
      exact hnew
  · rcases List.mem_append.1 hp with hp | hp
    · have hi := h.inside p hp
      have e2 : upTo val (S.made + 1) (.slice none 0 0) p.1 = val p.1 := by unfold upTo; rw [if_neg (by omega)]
      rw [e2]
      refine ownsRow_block (hSW.row p hp) fun k hk => hg.block k ((hSW.row p hp).lt k hk).2 ?_
      rcases (hSW.row p hp).2 with ⟨hv, _⟩ | ⟨g, cap, cur, hv, _, hgg, _⟩
      · rw [hv] at hk; simp [Value.ownBlock] at hk
      · rw [hv] at hk
        simp only [Value.ownBlock, Option.some.injEq] at hk
        subst hk
        exact hmbn _ _ hgg (fun _ _ e => by cases e)
    · simp only [List.mem_singleton] at hp
      subst hp
      have e2 : upTo val (S.made + 1) (.slice none 0 0) (S.made + 1) = .slice none 0 0 := by unfold upTo; rw [if_pos rfl]
      show w2.ownsRow 0 5 1 (upTo val (S.made + 1) (.slice none 0 0) (S.made + 1)) 0 (bvs [])
      rw [e2]
      exact World.ownsRow_nil _ _ _ _
  · have key : ∀ p, p ∈ S.runs → upTo blk (S.made + 1) w.heap.size p.1 = blk p.1 ∧ upTo val (S.made + 1) (.slice none 0 0) p.1 = val p.1 ∧ blk p.1 < w.heap.size := fun p hp => by
      have hi := h.inside p hp
      exact ⟨by unfold upTo; rw [if_neg (by omega)], by unfold upTo; rw [if_neg (by omega)], lt_of_heap (h.run p hp)⟩
    have keyn : upTo blk (S.made + 1) w.heap.size (S.made + 1) = w.heap.size ∧ upTo val (S.made + 1) (.slice none 0 0) (S.made + 1) = .slice none 0 0 := ⟨by unfold upTo; rw [if_pos rfl], by unfold upTo; rw [if_pos rfl]⟩
    rcases List.mem_append.1 hp with hp | hp <;> rcases List.mem_append.1 hq with hq | hq
    · rw [(key p hp).1, (key q hq).1, (key p hp).2.1, (key q hq).2.1]
      exact h.apart p hp q hq hne
    · simp only [List.mem_singleton] at hq
      subst hq
      rw [(key p hp).1, (key p hp).2.1, keyn.1, keyn.2]
      exact ⟨by have := (key p hp).2.2; omega, fun k _ => by simp [Value.ownBlock]⟩
    · simp only [List.mem_singleton] at hp
      subst hp
      rw [(key q hq).1, (key q hq).2.1, keyn.1, keyn.2]
      exact ⟨by have := (key q hq).2.2; omega, fun k e => by simp [Value.ownBlock] at e⟩
    · simp only [List.mem_singleton] at hp hq
      subst hp
      subst hq
      exact absurd rfl hne
  · refine List.pairwise_append.2 ⟨h.rising, List.pairwise_singleton _ _, fun p hp q hq => ?_⟩
    simp only [List.mem_singleton] at hq
    subst hq
    have := h.inside p hp
    show p.1 < S.made + 1
    omega
  · rcases List.mem_append.1 hp with hp | hp
    · have := h.inside p hp
      show 1 ≤ p.1 ∧ p.1 ≤ S.made + 1
      omega
    · simp only [List.mem_singleton] at hp
      subst hp
      show 1 ≤ S.made + 1 ∧ S.made + 1 ≤ S.made + 1
      omega
  · have h1 : Upd [b, mb] w W := by
      rw [← hW]; exact ((Upd.refl _ w).setCell (p := ⟨b, 3, none⟩) (.inl (by simp)) _).alloc _
    exact h1.grown hg fun k e => by cases e; exact .inl (by simp)
end Go.Proofs.YtgeabmmicofanaaGreatDoor
