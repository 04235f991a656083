/- runs: the store as data, and in memory. -/
import Derived.Test.YtkffeaeacfhobaaDoorSent
import Derived.Test.YtkffeaeacfhobaaDoorField
import Derived.Maps.OwnOps
import Derived.Maps.OwnSet
import Derived.Maps.Views
import Derived.Deep.QuietTactic
import Derived.BigQuiet
namespace Go.Proofs.YtkffeaeacfhobaaDoor
open Go.RowKit

/-- A run; a store: its runs stand by rising numbers. -/
structure RunD where
  text : List UInt8
  sealed : Bool
  deriving Inhabited
structure St where
  cap : Nat
  used : Nat
  peak : Nat
  made : Nat
  left : Nat
  runs : List (Nat × RunD)

/-- The run with this number. -/
def St.find (S : St) (z : Int) : Option (Nat × RunD) := S.runs.find? fun p => decide ((p.1 : Int) = z)

abbrev tStore : TypeId := 83
abbrev tRun : TypeId := 100
abbrev tMapR : TypeId := 81
abbrev tInt : TypeId := 3
theorem keyedInt : Maps.Keyed Tryd.prog tInt := Maps.int_keyed Tryd.underlying3
theorem zeroRunP (w : World) : (zeroValue 98).run Tryd.prog w = .ok (.pointer none) w := by kernel_rfl

/-- How a pointer to a run reads: by its block's number. -/
def ptrR (v : Value) : Option (DataW Unit × List MemPlace) :=
  match v with
  | .pointer none => some (.lit (.int .i64 (-1)), [])
  | .pointer (some ⟨b, 0, none⟩) => some (.lit (.int .i64 (b : Int)), [])
  | _ => none
theorem ptrR_none : ptrR (.pointer none) = some (.lit (.int .i64 (-1)), []) := rfl
theorem ptrR_some (b : Nat) : ptrR (.pointer (some ⟨b, 0, none⟩)) = some (.lit (.int .i64 (b : Int)), []) := rfl
theorem ptrR_neg {v : Value} {ps : List MemPlace} (h : ptrR v = some (.lit (.int .i64 (-1)), ps)) : v = .pointer none := by
  unfold ptrR at h
  split at h
  · rfl
  · simp only [Option.some.injEq, Prod.mk.injEq, DataW.lit.injEq, Lit.int.injEq, true_and] at h; omega
  · cases h
theorem ptrR_nat {v : Value} {b : Nat} {ps : List MemPlace} (h : ptrR v = some (.lit (.int .i64 (b : Int)), ps)) : v = .pointer (some ⟨b, 0, none⟩) := by
  unfold ptrR at h
  split at h
  · simp only [Option.some.injEq, Prod.mk.injEq, DataW.lit.injEq, Lit.int.injEq, true_and] at h; omega
  · simp only [Option.some.injEq, Prod.mk.injEq, DataW.lit.injEq, Lit.int.injEq, true_and] at h
    obtain rfl := Int.ofNat.inj h.1
    rfl
  · cases h
theorem keyZ {z : Int} (h : -9223372036854775808 ≤ z ∧ z ≤ 9223372036854775807) : keyOf Tryd.prog tInt (.int .i64 z) = some (.int .i64 z) :=
  Maps.keyOf_int_mk Tryd.underlying3 (by simp [Lit.wf, IntKind.min, IntKind.max, IntKind.signed, IntKind.bits]; omega)

/-- What the map answers for a number. -/
def lookZ (S : St) (blk : Nat → Nat) (z : Int) (zd : DataW Unit) : DataW Unit := match S.find z with | some p => .lit (.int .i64 (blk p.1 : Int)) | none => zd

/-- The blocks of a store. -/
def fpS (b mb : Nat) (blk : Nat → Nat) (val : Nat → Value) (S : St) : List Nat := b :: mb :: S.runs.flatMap fun p => blk p.1 :: rowOf (val p.1)

/-- The store in block b. -/
structure StoreI (w : World) (b mb : Nat) (blk : Nat → Nat) (val : Nat → Value) (S : St) : Prop where
  cells : w.heap[b]? = some (.cells #[.int .i64 S.cap, .int .i64 S.used, .int .i64 S.peak, .int .i64 S.made, .int .i64 S.left, .map (some mb)] tStore (0, 0))
  map : ∃ D : DataW Unit, w.ownsMap Tryd.prog tInt ptrR mb S.made D ∧ ∀ (z : Int) (zd : DataW Unit), D.atKey (.int .i64 z) zd = lookZ S blk z zd
  run : ∀ p ∈ S.runs, w.heap[blk p.1]? = some (.cells #[val p.1, .bool p.2.sealed] tRun (0, 0))
  row : ∀ p ∈ S.runs, w.ownsRow 0 5 1 (val p.1) p.2.text.length (bvs p.2.text)
  apart : ∀ p ∈ S.runs, ∀ q ∈ S.runs, p.1 ≠ q.1 → blk p.1 ≠ blk q.1 ∧ ∀ k, (val p.1).ownBlock = some k → (val q.1).ownBlock ≠ some k
  rising : S.runs.Pairwise fun p q => p.1 < q.1
  inside : ∀ p ∈ S.runs, 1 ≤ p.1 ∧ p.1 ≤ S.made
  sizes : S.cap ≤ 67108864 ∧ S.used ≤ S.cap ∧ S.peak ≤ S.cap ∧ S.made ≤ 16777216 ∧ S.left ≤ 9223372036854775807

theorem ownsMap_block {w w' : World} {P : Program} {k : TypeId} {R : Value → Option (DataW Unit × List MemPlace)} {b n : Nat} {D : DataW Unit} (h : w.ownsMap P k R b n D) (hb : w'.heap[b]? = w.heap[b]?) : w'.ownsMap P k R b n D := by
  obtain ⟨es, clock, h1, F, h2, h3⟩ := h
  exact ⟨es, clock, by rw [hb]; exact h1, F, h2, h3⟩

section
variable {w w' : World} {b mb : Nat} {blk : Nat → Nat} {val : Nat → Value} {S : St}
theorem mem_fpS {k : Nat} : k ∈ fpS b mb blk val S ↔ k = b ∨ k = mb ∨ ∃ p ∈ S.runs, k = blk p.1 ∨ (val p.1).ownBlock = some k := by
  simp only [fpS, List.mem_cons, List.mem_flatMap, mem_rowOf]
theorem StoreI.of_block (h : StoreI w b mb blk val S) (hk : ∀ k ∈ fpS b mb blk val S, w'.heap[k]? = w.heap[k]?) : StoreI w' b mb blk val S := by
  refine ⟨by rw [hk b (by simp [fpS])]; exact h.cells, ?_, fun p hp => ?_, fun p hp => ?_, h.apart, h.rising, h.inside, h.sizes⟩
  · obtain ⟨D, h1, h2⟩ := h.map
    exact ⟨D, ownsMap_block h1 (hk mb (by simp [fpS])), h2⟩
  · rw [hk _ (mem_fpS.2 (.inr (.inr ⟨p, hp, .inl rfl⟩)))]; exact h.run p hp
  · exact ownsRow_block (h.row p hp) fun k e => hk k (mem_fpS.2 (.inr (.inr ⟨p, hp, .inr e⟩)))
theorem StoreI.lt (h : StoreI w b mb blk val S) : ∀ k ∈ fpS b mb blk val S, k < w.heap.size := by
  intro k hk
  rcases mem_fpS.1 hk with rfl | rfl | ⟨p, hp, rfl | e⟩
  · exact lt_of_heap h.cells
  · obtain ⟨D, h1, _⟩ := h.map; exact h1.lt
  · exact lt_of_heap (h.run p hp)
  · exact ((h.row p hp).lt k e).2
theorem StoreI.upd {fp : List Nat} (h : StoreI w b mb blk val S) (hu : Upd fp w w') (hd : ∀ k ∈ fpS b mb blk val S, k ∉ fp) : StoreI w' b mb blk val S :=
  h.of_block fun k hk => hu.block k (h.lt k hk) (hd k hk)
theorem StoreI.below (h : StoreI w b mb blk val S) (hb : Below w.heap.size w w') : StoreI w' b mb blk val S := h.upd (Upd.of_below hb []) (by simp)

/-- What a look-up answers. -/
theorem StoreI.look_none (h : StoreI w b mb blk val S) {z : Int} (hz : -9223372036854775808 ≤ z ∧ z ≤ 9223372036854775807) (hf : S.find z = none) :
    (Instr.lookup tMapR (.map (some mb)) (.int .i64 z) false).run Tryd.prog w = .ok (.pointer none) w := by
  obtain ⟨D, h1, h2⟩ := h.map
  obtain ⟨v, ps, hr, hv⟩ := h1.lookup keyedInt Tryd.underlying81 (zeroRunP w) ptrR_none (keyZ hz)
  rw [h2 z] at hv
  have e : lookZ S blk z (.lit (.int .i64 (-1))) = .lit (.int .i64 (-1)) := by unfold lookZ; rw [hf]
  rw [e] at hv
  rw [ptrR_neg hv] at hr
  exact hr
theorem StoreI.look_some (h : StoreI w b mb blk val S) {z : Int} (hz : -9223372036854775808 ≤ z ∧ z ≤ 9223372036854775807) {p : Nat × RunD} (hf : S.find z = some p) :
    (Instr.lookup tMapR (.map (some mb)) (.int .i64 z) false).run Tryd.prog w = .ok (.pointer (some ⟨blk p.1, 0, none⟩)) w := by
  obtain ⟨D, h1, h2⟩ := h.map
  obtain ⟨v, ps, hr, hv⟩ := h1.lookup keyedInt Tryd.underlying81 (zeroRunP w) ptrR_none (keyZ hz)
  rw [h2 z] at hv
  have e : lookZ S blk z (.lit (.int .i64 (-1))) = .lit (.int .i64 (blk p.1 : Int)) := by unfold lookZ; rw [hf]
  rw [e] at hv
  rw [ptrR_nat hv] at hr
  exact hr
theorem find_mem {S : St} {z : Int} {p : Nat × RunD} (h : S.find z = some p) : p ∈ S.runs ∧ (p.1 : Int) = z := by
  unfold St.find at h
  exact ⟨List.mem_of_find?_eq_some h, by simpa using List.find?_some h⟩
end

/-- The cells of the store that a walk reads. -/
structure StFacts (w : World) (b mb : Nat) (S : St) : Prop where
  c0 : w.cell? ⟨b, 0, none⟩ = some (.int .i64 S.cap)
  c1 : w.cell? ⟨b, 1, none⟩ = some (.int .i64 S.used)
  c2 : w.cell? ⟨b, 2, none⟩ = some (.int .i64 S.peak)
  c3 : w.cell? ⟨b, 3, none⟩ = some (.int .i64 S.made)
  c4 : w.cell? ⟨b, 4, none⟩ = some (.int .i64 S.left)
  c5 : w.cell? ⟨b, 5, none⟩ = some (.map (some mb))
  fz : ∀ k, w.frozen? ⟨b, k, none⟩ = false
  lt : b < w.heap.size
theorem StoreI.facts {w : World} {b mb : Nat} {blk : Nat → Nat} {val : Nat → Value} {S : St} (h : StoreI w b mb blk val S) : StFacts w b mb S := by
  have h1 := h.cells
  exact ⟨by simp [World.cell?, h1], by simp [World.cell?, h1], by simp [World.cell?, h1], by simp [World.cell?, h1], by simp [World.cell?, h1], by simp [World.cell?, h1], fun k => by simp [World.frozen?, h1], lt_of_heap h1⟩
end Go.Proofs.YtkffeaeacfhobaaDoor
