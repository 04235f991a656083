/- runs: the calls of a store where the failure of Read is not told of. -/
import Derived.Test.YtkffeaeacfhobaaDoorRunsThing
namespace Go.Proofs.YtkffeaeacfhobaaDoor
open Go.RowKit

def fails7 : List (Nat × Nat) := [(1, 2), (3, 5), (4, 8), (5, 6), (7, 9), (8, 10), (9, 11)]
section
variable {W w : World} {R : Thing} {b : Nat} {S : St} {ef : Nat → Nat × Nat}
theorem Create_7 (h : At W w (Both (StoreT b S) R)) (hR : Stable R) (hF : Fails W ef fails7) :
    Calls Tryd.prog 28 #[.pointer (some ⟨b, 0, none⟩)] w fun e w' => e = .returned (.tuple #[.int .i64 (createP S).2.1, errV ef (createP S).2.2]) ∧ At W w' (Both (StoreT b (createP S).1) R) :=
  h.calls hR fun fp hp _ => by
    obtain ⟨mb, blk, val, h1, rfl⟩ := hp
    exact (Create_calls h1 (hF.below h.below) (by decide) (by decide)).mono fun e w' ⟨he, hp⟩ => ⟨he, left_of_post hp⟩
theorem Seal_7 (h : At W w (Both (StoreT b S) R)) (hR : Stable R) (hF : Fails W ef fails7) {z : Int} (hz : inI64 z) :
    Calls Tryd.prog 31 #[.pointer (some ⟨b, 0, none⟩), .int .i64 z] w fun e w' => e = .returned (errV ef (sealP S z).2) ∧ At W w' (Both (StoreT b (sealP S z).1) R) :=
  h.calls hR fun fp hp h2 => by
    obtain ⟨mb, blk, val, h1, rfl⟩ := hp
    exact (Seal_calls h1 (hF.below h.below) (by decide) (by decide) (by decide) (fails_upd hF h.below (h2 b (by simp [fpS]))) hz).mono fun e w' ⟨he, hp⟩ => ⟨he, left_of_post hp⟩
theorem Append_7 (h : At W w (Both (StoreT b S) R)) (hR : Stable R) (hF : Fails W ef fails7) {z : Int} (hz : inI64 z)
    (hle : ∀ p, S.find z = some p → p.2.text.length ≤ S.used) {ss : List (List UInt8)} {v : Value} (hv : ∀ w', Upd [b] w w' → RdRow w' v ss.length 1 (strs ss)) (hlen : (cat ss).length ≤ 140737488355328) :
    Calls Tryd.prog 53 #[.pointer (some ⟨b, 0, none⟩), .int .i64 z, v] w fun e w' => e = .returned (errV ef (appendP S z (cat ss)).2) ∧ At W w' (Both (StoreT b (appendP S z (cat ss)).1) R) :=
  h.calls hR fun fp hp h2 => by
    obtain ⟨mb, blk, val, h1, rfl⟩ := hp
    exact (Append_calls h1 (hF.below h.below) (by decide) (by decide) (by decide) (by decide) (fails_upd hF h.below (h2 b (by simp [fpS]))) hz hle (fun w' hu => Join_calls ss v w' (hv w' hu) hlen)).mono fun e w' ⟨he, hp⟩ => ⟨he, left_of_post hp⟩
theorem Remove_7 (h : At W w (Both (StoreT b S) R)) (hR : Stable R) (hF : Fails W ef fails7) {z : Int} (hz : inI64 z) (hle : ∀ p, S.find z = some p → p.2.text.length ≤ S.used) :
    Calls Tryd.prog 42 #[.pointer (some ⟨b, 0, none⟩), .int .i64 z] w fun e w' => e = .returned (errV ef (removeP S z).2) ∧ At W w' (Both (StoreT b (removeP S z).1) R) :=
  h.calls hR fun fp hp _ => by
    obtain ⟨mb, blk, val, h1, rfl⟩ := hp
    exact (Remove_calls h1 (hF.below h.below) (by decide) hz hle).mono fun e w' ⟨he, hp⟩ => ⟨he, left_of_post hp⟩
theorem Size_7 (h : At W w (Both (StoreT b S) R)) (hR : Stable R) (hF : Fails W ef fails7) {z : Int} (hz : inI64 z) :
    Calls Tryd.prog 13 #[.pointer (some ⟨b, 0, none⟩), .int .i64 z] w fun e w' => e = .returned (.tuple #[.int .i64 (sizeN S z), errV ef (sizeC S z)]) ∧ At W w' (Both (StoreT b S) R) := by
  obtain ⟨mb, blk, val, h1, _⟩ := h.store
  exact (Size_calls h1 (hF.below h.below) (by decide) hz).mono fun e w' ⟨he, hb⟩ => ⟨he, h.mono ((StoreT.stable b S).both hR) hb⟩
end
end Go.Proofs.YtkffeaeacfhobaaDoor
