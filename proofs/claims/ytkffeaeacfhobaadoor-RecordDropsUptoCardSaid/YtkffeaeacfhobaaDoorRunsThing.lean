/- runs: a store as a thing in memory, and its calls. -/
import Derived.Test.YtkffeaeacfhobaaDoorRunsSpec
import Derived.Test.YtkffeaeacfhobaaDoorRunsLive
import Derived.Test.YtkffeaeacfhobaaDoorSep
namespace Go.Proofs.YtkffeaeacfhobaaDoor
open Go.RowKit

def StoreT (b : Nat) (S : St) : Thing := fun w fp => ∃ mb blk val, StoreI w b mb blk val S ∧ fp = fpS b mb blk val S
/-- A row of ints of the call's own. -/
def RowT (v : Value) (l : List Int) : Thing := fun w fp => w.ownsRow 0 tInt 1 v l.length (intsV l) ∧ fp = rowOf v
/-- A block of cells. -/
def CellT (k : Nat) (cs : Array Value) (T : TypeId) : Thing := fun w fp => w.heap[k]? = some (.cells cs T (0, 0)) ∧ fp = [k]

theorem StoreT.stable (b : Nat) (S : St) : Stable (StoreT b S) :=
  ⟨fun w fp h => by obtain ⟨mb, blk, val, h1, rfl⟩ := h; exact h1.lt, fun w w' fp h hs => by obtain ⟨mb, blk, val, h1, rfl⟩ := h; exact ⟨mb, blk, val, h1.of_block hs, rfl⟩⟩
theorem RowT.stable (v : Value) (l : List Int) : Stable (RowT v l) :=
  ⟨fun w fp h k hk => by obtain ⟨h1, rfl⟩ := h; exact (h1.lt k (mem_rowOf.1 hk)).2, fun w w' fp h hs => by obtain ⟨h1, rfl⟩ := h; exact ⟨ownsRow_block h1 fun k hk => hs k (mem_rowOf.2 hk), rfl⟩⟩
theorem CellT.stable (k : Nat) (cs : Array Value) (T : TypeId) : Stable (CellT k cs T) :=
  ⟨fun w fp h j hj => by obtain ⟨h1, rfl⟩ := h; rw [List.mem_singleton] at hj; subst hj; exact lt_of_heap h1, fun w w' fp h hs => by obtain ⟨h1, rfl⟩ := h; exact ⟨(hs k (by simp)).trans h1, rfl⟩⟩

theorem left_of_post {w w' : World} {b mb : Nat} {blk : Nat → Nat} {val : Nat → Value} {S S' : St} (h : StPost w b mb blk val S S' w') : Left w (fpS b mb blk val S) (StoreT b S') w' := by
  obtain ⟨blk', val', h1, h2, h3⟩ := h
  exact ⟨_, ⟨mb, blk', val', h1, rfl⟩, h2, h3⟩

section
variable {W w : World} {R : Thing}
theorem At.cell {k : Nat} {cs : Array Value} {T : TypeId} (h : At W w (Both (CellT k cs T) R)) : w.heap[k]? = some (.cells cs T (0, 0)) ∧ W.heap.size ≤ k := by
  obtain ⟨_, fp, ⟨f, g, ⟨h1, rfl⟩, _, _, h4⟩, h5⟩ := h
  exact ⟨h1, h5 k ((h4 k).2 (.inl (by simp)))⟩
theorem At.setCell {k : Nat} {cs : Array Value} {T : TypeId} (h : At W w (Both (CellT k cs T) R)) (hR : Stable R) (o : Nat) (v : Value) : At W (w.setCell ⟨k, o, none⟩ v) (Both (CellT k (cs.setIfInBounds o v) T) R) := by
  obtain ⟨fp, h1, h2, h3⟩ := h.step
  refine h3 hR _ _ ?_
  obtain ⟨h1, rfl⟩ := h1
  exact ⟨[k], ⟨heap_setCell h1 v, rfl⟩, (Upd.refl _ _).setCell (.inl (by simp)) v, fun j hj => .inl hj⟩
theorem At.newCell {Φ : Thing} (h : At W w Φ) (hs : Stable Φ) (cs : Array Value) (T : TypeId) : At W (w.alloc (.cells cs T)) (Both (CellT w.heap.size cs T) Φ) :=
  h.add hs ((Below.refl _ _).alloc (Nat.le_refl _) _) (fp := [w.heap.size]) ⟨heap_alloc_new _ _, rfl⟩ (by simp)
theorem At.row {v : Value} {l : List Int} (h : At W w (Both (RowT v l) R)) : w.ownsRow 0 tInt 1 v l.length (intsV l) := by
  obtain ⟨_, fp, ⟨f, g, ⟨h1, rfl⟩, _⟩, _⟩ := h
  exact h1
theorem At.newRow {Φ : Thing} {w' : World} {v : Value} {l : List Int} (h : At W w Φ) (hs : Stable Φ) (hb : Below w.heap.size w w') (hr : w'.ownsRow w.heap.size tInt 1 v l.length (intsV l)) : At W w' (Both (RowT v l) Φ) :=
  h.add hs hb (fp := rowOf v) ⟨ownsRow_base hr (Nat.zero_le _), rfl⟩ (fun k hk => (hr.lt k (mem_rowOf.1 hk)).1)
theorem At.noRow {Φ : Thing} (h : At W w Φ) (hs : Stable Φ) : At W w (Both (RowT (.slice none 0 0) []) Φ) :=
  h.newRow hs (Below.refl _ _) (World.ownsRow_nil _ _ _ _)

variable {b : Nat} {S : St} {ef : Nat → Nat × Nat}
theorem At.store (h : At W w (Both (StoreT b S) R)) : ∃ mb blk val, StoreI w b mb blk val S ∧ ∀ k ∈ fpS b mb blk val S, W.heap.size ≤ k := by
  obtain ⟨_, fp, ⟨f, g, ⟨mb, blk, val, h1, rfl⟩, _, _, h4⟩, h5⟩ := h
  exact ⟨mb, blk, val, h1, fun k hk => h5 k ((h4 k).2 (.inl hk))⟩
theorem At.read {Φ : Thing} {w' : World} (h : At W w Φ) (hs : Stable Φ) (hb : Below w.heap.size w w') : At W w' Φ := h.mono hs hb

theorem Create_at (h : At W w (Both (StoreT b S) R)) (hR : Stable R) (hF : Fails W ef failsAll) :
    Calls Tryd.prog 28 #[.pointer (some ⟨b, 0, none⟩)] w fun e w' => e = .returned (.tuple #[.int .i64 (createP S).2.1, errV ef (createP S).2.2]) ∧ At W w' (Both (StoreT b (createP S).1) R) :=
  h.calls hR fun fp hp _ => by
    obtain ⟨mb, blk, val, h1, rfl⟩ := hp
    exact (Create_calls h1 (hF.below h.below) (by decide) (by decide)).mono fun e w' ⟨he, hp⟩ => ⟨he, left_of_post hp⟩
theorem Seal_at (h : At W w (Both (StoreT b S) R)) (hR : Stable R) (hF : Fails W ef failsAll) {z : Int} (hz : inI64 z) :
    Calls Tryd.prog 31 #[.pointer (some ⟨b, 0, none⟩), .int .i64 z] w fun e w' => e = .returned (errV ef (sealP S z).2) ∧ At W w' (Both (StoreT b (sealP S z).1) R) :=
  h.calls hR fun fp hp h2 => by
    obtain ⟨mb, blk, val, h1, rfl⟩ := hp
    exact (Seal_calls h1 (hF.below h.below) (by decide) (by decide) (by decide) (fails_upd hF h.below (h2 b (by simp [fpS]))) hz).mono fun e w' ⟨he, hp⟩ => ⟨he, left_of_post hp⟩
theorem Append_at (h : At W w (Both (StoreT b S) R)) (hR : Stable R) (hF : Fails W ef failsAll) {z : Int} (hz : inI64 z)
    (hle : ∀ p, S.find z = some p → p.2.text.length ≤ S.used) {ss : List (List UInt8)} {v : Value} (hv : ∀ w', Upd [b] w w' → RdRow w' v ss.length 1 (strs ss)) (hlen : (cat ss).length ≤ 140737488355328) :
    Calls Tryd.prog 53 #[.pointer (some ⟨b, 0, none⟩), .int .i64 z, v] w fun e w' => e = .returned (errV ef (appendP S z (cat ss)).2) ∧ At W w' (Both (StoreT b (appendP S z (cat ss)).1) R) :=
  h.calls hR fun fp hp h2 => by
    obtain ⟨mb, blk, val, h1, rfl⟩ := hp
    exact (Append_calls h1 (hF.below h.below) (by decide) (by decide) (by decide) (by decide) (fails_upd hF h.below (h2 b (by simp [fpS]))) hz hle (fun w' hu => Join_calls ss v w' (hv w' hu) hlen)).mono fun e w' ⟨he, hp⟩ => ⟨he, left_of_post hp⟩
theorem Remove_at (h : At W w (Both (StoreT b S) R)) (hR : Stable R) (hF : Fails W ef failsAll) {z : Int} (hz : inI64 z) (hle : ∀ p, S.find z = some p → p.2.text.length ≤ S.used) :
    Calls Tryd.prog 42 #[.pointer (some ⟨b, 0, none⟩), .int .i64 z] w fun e w' => e = .returned (errV ef (removeP S z).2) ∧ At W w' (Both (StoreT b (removeP S z).1) R) :=
  h.calls hR fun fp hp _ => by
    obtain ⟨mb, blk, val, h1, rfl⟩ := hp
    exact (Remove_calls h1 (hF.below h.below) (by decide) hz hle).mono fun e w' ⟨he, hp⟩ => ⟨he, left_of_post hp⟩
theorem Break_at (h : At W w (Both (StoreT b S) R)) (hR : Stable R) {z : Int} (hz : inI64 z) :
    Calls Tryd.prog 17 #[.pointer (some ⟨b, 0, none⟩), .int .i64 z] w fun e w' => e = .returned (.tuple #[]) ∧ At W w' (Both (StoreT b (breakS S z)) R) :=
  h.calls hR fun fp hp _ => by
    obtain ⟨mb, blk, val, h1, rfl⟩ := hp
    exact (Break_calls h1 hz).mono fun e w' ⟨he, hp⟩ => ⟨he, left_of_post hp⟩
theorem New_at {Φ : Thing} (h : At W w Φ) (hs : Stable Φ) {c : Int} (hc : inI64 c) :
    Calls Tryd.prog 7 #[.int .i64 c] w fun e w' => e = .returned (.pointer (some ⟨w.heap.size + 1, 0, none⟩)) ∧ At W w' (Both (StoreT (w.heap.size + 1) (newSt c)) Φ) := by
  refine (New_calls w c hc).mono ?_
  rintro e w' ⟨rfl, h1, h2⟩
  refine ⟨rfl, h.add hs h2 ⟨_, _, _, h1, rfl⟩ fun k hk => ?_⟩
  simp [fpS, newSt] at hk
  omega
theorem Used_at (h : At W w (Both (StoreT b S) R)) :
    Calls Tryd.prog 25 #[.pointer (some ⟨b, 0, none⟩)] w fun e w' => e = .returned (.int .i64 S.used) ∧ w = w' := by
  obtain ⟨mb, blk, val, h1, _⟩ := h.store
  exact Used_calls h1
theorem Size_at (h : At W w (Both (StoreT b S) R)) (hR : Stable R) (hF : Fails W ef failsAll) {z : Int} (hz : inI64 z) :
    Calls Tryd.prog 13 #[.pointer (some ⟨b, 0, none⟩), .int .i64 z] w fun e w' => e = .returned (.tuple #[.int .i64 (sizeN S z), errV ef (sizeC S z)]) ∧ At W w' (Both (StoreT b S) R) := by
  obtain ⟨mb, blk, val, h1, _⟩ := h.store
  exact (Size_calls h1 (hF.below h.below) (by decide) hz).mono fun e w' ⟨he, hb⟩ => ⟨he, h.mono ((StoreT.stable b S).both hR) hb⟩
theorem Read_at (h : At W w (Both (StoreT b S) R)) (hR : Stable R) (hF : Fails W ef failsAll) {z a n : Int} (hz : inI64 z) (ha : inI64 a) (hn : inI64 n) :
    Calls Tryd.prog 14 #[.pointer (some ⟨b, 0, none⟩), .int .i64 z, .int .i64 a, .int .i64 n] w fun e w' => e = .returned (.tuple #[.string ⟨(readT S z a n).toArray⟩, errV ef (readC S z a n)]) ∧ At W w' (Both (StoreT b S) R) := by
  obtain ⟨mb, blk, val, h1, _⟩ := h.store
  exact (Read_calls h1 (hF.below h.below) (by decide) (by decide) (by decide) hz ha hn).mono fun e w' ⟨he, hb⟩ => ⟨he, h.mono ((StoreT.stable b S).both hR) hb⟩
theorem Live_at (h : At W w (Both (StoreT b S) R)) (hR : Stable R) :
    Calls Tryd.prog 21 #[.pointer (some ⟨b, 0, none⟩)] w fun e w' => ∃ v, e = .returned v ∧ At W w' (Both (RowT v S.keys) (Both (StoreT b S) R)) := by
  obtain ⟨mb, blk, val, h1, _⟩ := h.store
  exact (Live_calls h1).mono fun e w' ⟨v, he, hr, hb⟩ => ⟨v, he, h.newRow ((StoreT.stable b S).both hR) hb hr⟩
end
end Go.Proofs.YtkffeaeacfhobaaDoor
