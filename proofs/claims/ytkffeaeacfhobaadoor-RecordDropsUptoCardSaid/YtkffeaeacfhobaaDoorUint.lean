/- record.Uint walked. -/
import Derived.Test.YtkffeaeacfhobaaDoorRows
import Derived.Test.YtkffeaeacfhobaaDoorPlain
import Derived.Test.YtkffeaeacfhobaaDoorBuilder
namespace Go.Proofs.YtkffeaeacfhobaaDoor
open Go.RowKit



theorem bv_lt (m : Nat) (h : m < 128) : Value.int .u8 (m : Int) = bv (UInt8.ofNat m) := by
  have : (UInt8.ofNat m).toNat = m := by simp; omega
  simp [bv, this]
theorem bits_or_128 : ∀ x : Nat, x < 256 → bits BinOp.or IntKind.u8 (x : Int) 128 = ((x % 128 + 128 : Nat) : Int) := by decide +kernel
theorem bv_or (m : Nat) : Value.int .u8 (bits BinOp.or IntKind.u8 ((m : Int) % 256) 128) = bv (UInt8.ofNat (m % 128 + 128)) := by
  have h1 : ((m : Int) % 256) = ((m % 256 : Nat) : Int) := by omega
  have h2 : (UInt8.ofNat (m % 128 + 128)).toNat = m % 128 + 128 := by simp; omega
  rw [h1, bits_or_128 _ (by omega), bv, h2]
  congr 1
  omega

set_option maxRecDepth 100000 in
set_option maxHeartbeats 400000 in
theorem Uint_calls (n : Nat) (hn : n < 18446744073709551616) (w : World) :
    Calls Tryd.prog 35 #[.int .u64 n] w fun e w' => e = .returned (.string ⟨(uintL n).toArray⟩) ∧ Below w.heap.size w w' := by
  obtain ⟨i0, hi, hz0, hz1, hz2⟩ := info_parts info_u8
  go_enter Tryd.func35, Tryd.ntmps35
  go_wp2_with fail
  go_loopw [0, 3] (fun x v wr => ∃ m k l, x = .int .u64 (m : Nat) ∧ m < 18446744073709551616 ∧ UintAt n m k l ∧ wr.ownsRow w.heap.size 5 1 v k (bvs l) ∧ Below w.heap.size w wr) (fun x _ _ => (intOf x).toNat)
  case atStart => exact ⟨n, 0, [], rfl, hn, UintAt.start n, World.ownsRow_nil _ _ _ _, Below.refl _ _⟩
  case round =>
    obtain ⟨m, k, l, rfl, hm, hat, hown, hbel⟩ := hrel
    have hB : w.heap.size ≤ wr.heap.size := hbel.size
    have hk := hat.le hn
    by_cases hlt : m < 128
    · (repeat' (first | (go_big_may; first | (at_builtin; go_must (refine wpList_append_byte rfl _ _ 91 5 rfl Tryd.underlying91 info_u8 rfl hown (UInt8.ofNat m) (bv_lt m hlt) rfl (by omega) (by omega) ?_); intro v1 w1 hown1 hgrow1) | (with_reducible (show wpList _ _ _ ({ dst := _, op := Op.convert 91 9 _, type := _, pos := _, after := _, guard := _ } :: _) _ _); refine wpList_string_own rfl 91 9 5 _ rfl Tryd.underlying91 Tryd.underlying5 Tryd.underlying9 _ _ _ rfl hown1 ?_)) | go_values | go_skip | go_guarded | go_step | go_upon | go_back | dsimp only))
      go_ret
      exact ⟨by rw [hat.done hlt]; rfl, grownOwn hbel hB hown hgrow1⟩
    · (repeat' (first | (go_big_may; (at_builtin; go_must (refine wpList_append_byte rfl _ _ 91 5 rfl Tryd.underlying91 info_u8 rfl hown (UInt8.ofNat (m % 128 + 128)) (bv_or m) rfl (by omega) (by omega) ?_); intro v1 w1 hown1 hgrow1)) | go_values | go_skip | go_guarded | go_step | go_upon | go_back | dsimp only))
      go_roundw
      case rel => exact ⟨m / 128, k + 1, _, by go_num, by omega, hat.next hlt, hown1, grownOwn hbel hB hown hgrow1⟩
      case measure => simp [intOf] <;> omega

end Go.Proofs.YtkffeaeacfhobaaDoor
