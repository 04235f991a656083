/- runs: the contracts to use: a store of the call's own. -/
import Derived.Test.YtkffeaeacfhobaaDoorRunsAppend
import Derived.Test.YtkffeaeacfhobaaDoorJoin
namespace Go.Proofs.YtkffeaeacfhobaaDoor
open Go.RowKit

/-- In w a store that holds S lies in block b, all of it made since W. -/
structure HoldS (W w : World) (b : Nat) (S : St) : Prop where
  below : Below W.heap.size W w
  store : ∃ mb blk val, StoreI w b mb blk val S ∧ ∀ k ∈ fpS b mb blk val S, W.heap.size ≤ k

theorem HoldS.mono {W w w' : World} {b : Nat} {S : St} (h : HoldS W w b S) (hb : Below w.heap.size w w') : HoldS W w' b S := by
  obtain ⟨mb, blk, val, h1, h2⟩ := h.store
  exact ⟨h.below.trans (hb.mono h.below.size), mb, blk, val, h1.below hb, h2⟩
theorem HoldS.post {W w w' : World} {b mb : Nat} {blk : Nat → Nat} {val : Nat → Value} {S S' : St} (hb : Below W.heap.size W w) (h2 : ∀ k ∈ fpS b mb blk val S, W.heap.size ≤ k)
    (hp : StPost w b mb blk val S S' w') : HoldS W w' b S' := by
  obtain ⟨blk', val', h1, hu, hg⟩ := hp
  refine ⟨hb.trans (hu.below hb.size h2), mb, blk', val', h1, fun k hk => ?_⟩
  rcases hg k hk with h | h
  · exact h2 k h
  · exact Nat.le_trans hb.size h
theorem fails_upd {W w : World} {ef : Nat → Nat × Nat} {fl : List (Nat × Nat)} (hF : Fails W ef fl) (hb : Below W.heap.size W w) {b : Nat} (hB : W.heap.size ≤ b) : ∀ w', Upd [b] w w' → Fails w' ef fl := fun w' hu =>
  hF.below (hb.trans (hu.below hb.size (by simpa using hB)))

section
variable {W w : World} {b : Nat} {S : St} {ef : Nat → Nat × Nat} {fl : List (Nat × Nat)}
theorem Create_s (h : HoldS W w b S) (hF : Fails W ef fl) (hx9 : (9, 11) ∈ fl) (hx8 : (8, 10) ∈ fl) :
    Calls Tryd.prog 28 #[.pointer (some ⟨b, 0, none⟩)] w fun e w' => e = .returned (.tuple #[.int .i64 (createP S).2.1, errV ef (createP S).2.2]) ∧ HoldS W w' b (createP S).1 := by
  obtain ⟨mb, blk, val, h1, h2⟩ := h.store
  refine (Create_calls h1 (hF.below h.below) hx9 hx8).mono ?_
  rintro e w' ⟨rfl, hp⟩
  exact ⟨rfl, HoldS.post h.below h2 hp⟩
theorem Seal_s (h : HoldS W w b S) (hF : Fails W ef fl) (hx9 : (9, 11) ∈ fl) (hx3 : (3, 5) ∈ fl) (hx4 : (4, 8) ∈ fl) {z : Int} (hz : inI64 z) :
    Calls Tryd.prog 31 #[.pointer (some ⟨b, 0, none⟩), .int .i64 z] w fun e w' => e = .returned (errV ef (sealP S z).2) ∧ HoldS W w' b (sealP S z).1 := by
  obtain ⟨mb, blk, val, h1, h2⟩ := h.store
  refine (Seal_calls h1 (hF.below h.below) hx9 hx3 hx4 (fails_upd hF h.below (h2 b (by simp [fpS]))) hz).mono ?_
  rintro e w' ⟨rfl, hp⟩
  exact ⟨rfl, HoldS.post h.below h2 hp⟩
theorem Append_s (h : HoldS W w b S) (hF : Fails W ef fl) (hx9 : (9, 11) ∈ fl) (hx3 : (3, 5) ∈ fl) (hx4 : (4, 8) ∈ fl) (hx7 : (7, 9) ∈ fl) {z : Int} (hz : inI64 z)
    (hle : ∀ p, S.find z = some p → p.2.text.length ≤ S.used) {ss : List (List UInt8)} {v : Value} (hv : ∀ w', Upd [b] w w' → RdRow w' v ss.length 1 (strs ss)) (hlen : (cat ss).length ≤ 140737488355328) :
    Calls Tryd.prog 53 #[.pointer (some ⟨b, 0, none⟩), .int .i64 z, v] w fun e w' => e = .returned (errV ef (appendP S z (cat ss)).2) ∧ HoldS W w' b (appendP S z (cat ss)).1 := by
  obtain ⟨mb, blk, val, h1, h2⟩ := h.store
  refine (Append_calls h1 (hF.below h.below) hx9 hx3 hx4 hx7 (fails_upd hF h.below (h2 b (by simp [fpS]))) hz hle (fun w' hu => Join_calls ss v w' (hv w' hu) hlen)).mono ?_
  rintro e w' ⟨rfl, hp⟩
  exact ⟨rfl, HoldS.post h.below h2 hp⟩
theorem Remove_s (h : HoldS W w b S) (hF : Fails W ef fl) (hx3 : (3, 5) ∈ fl) {z : Int} (hz : inI64 z) (hle : ∀ p, S.find z = some p → p.2.text.length ≤ S.used) :
    Calls Tryd.prog 42 #[.pointer (some ⟨b, 0, none⟩), .int .i64 z] w fun e w' => e = .returned (errV ef (removeP S z).2) ∧ HoldS W w' b (removeP S z).1 := by
  obtain ⟨mb, blk, val, h1, h2⟩ := h.store
  refine (Remove_calls h1 (hF.below h.below) hx3 hz hle).mono ?_
  rintro e w' ⟨rfl, hp⟩
  exact ⟨rfl, HoldS.post h.below h2 hp⟩
theorem Break_s (h : HoldS W w b S) {z : Int} (hz : inI64 z) :
    Calls Tryd.prog 17 #[.pointer (some ⟨b, 0, none⟩), .int .i64 z] w fun e w' => e = .returned (.tuple #[]) ∧ HoldS W w' b (breakS S z) := by
  obtain ⟨mb, blk, val, h1, h2⟩ := h.store
  refine (Break_calls h1 hz).mono ?_
  rintro e w' ⟨rfl, hp⟩
  exact ⟨rfl, HoldS.post h.below h2 hp⟩
theorem New_s (hb : Below W.heap.size W w) {c : Int} (hc : inI64 c) :
    Calls Tryd.prog 7 #[.int .i64 c] w fun e w' => e = .returned (.pointer (some ⟨w.heap.size + 1, 0, none⟩)) ∧ HoldS W w' (w.heap.size + 1) (newSt c) := by
  refine (New_calls w c hc).mono ?_
  rintro e w' ⟨rfl, h1, h2⟩
  refine ⟨rfl, hb.trans (h2.mono hb.size), _, _, _, h1, fun k hk => ?_⟩
  have := hb.size
  rcases mem_fpS.1 hk with rfl | rfl | ⟨q, hq, _⟩
  · omega
  · exact this
  · simp [newSt] at hq
theorem Used_s (h : HoldS W w b S) :
    Calls Tryd.prog 25 #[.pointer (some ⟨b, 0, none⟩)] w fun e w' => e = .returned (.int .i64 S.used) ∧ w = w' := by
  obtain ⟨mb, blk, val, h1, h2⟩ := h.store
  exact Used_calls h1
theorem Size_s (h : HoldS W w b S) (hF : Fails W ef fl) (hx3 : (3, 5) ∈ fl) {z : Int} (hz : inI64 z) :
    Calls Tryd.prog 13 #[.pointer (some ⟨b, 0, none⟩), .int .i64 z] w fun e w' => e = .returned (.tuple #[.int .i64 (sizeN S z), errV ef (sizeC S z)]) ∧ Below w.heap.size w w' := by
  obtain ⟨mb, blk, val, h1, h2⟩ := h.store
  exact Size_calls h1 (hF.below h.below) hx3 hz
end
end Go.Proofs.YtkffeaeacfhobaaDoor
