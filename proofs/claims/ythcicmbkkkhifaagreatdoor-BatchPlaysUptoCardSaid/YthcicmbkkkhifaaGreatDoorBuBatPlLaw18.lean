/- record.ReadUint walked. -/
import Derived.Test.YthcicmbkkkhifaaGreatDoorBuBatPlLaw09
import Derived.Test.YthcicmbkkkhifaaGreatDoorBuBatPlLaw08
import Derived.Lib.Hide
import Derived.Lib.VarintBits
import Derived.Laws.Bits64b
set_option linter.unusedSimpArgs false
set_option linter.unusedVariables false
namespace Go.Proofs.YthcicmbkkkhifaaGreatDoor
open Go.RowKit

open Lib in
/-- What the round makes of n and the byte c. -/
def accU (n : Nat) (c : UInt8) (k : Nat) : Int :=
  bits BinOp.or IntKind.u64 (n : Int) (IntKind.u64.wrap (IntKind.u64.wrap (bits BinOp.and IntKind.u8 (c.toNat : Int) 127) * 2 ^ (7 * k)))

theorem accU_nat (n : Nat) (c : UInt8) (k : Nat) (hn : n < 18446744073709551616) : accU n c k = ((n ||| (c.toNat % 128 * 2 ^ (7 * k)) % 18446744073709551616 : Nat) : Int) := by
  have hc := c.toNat_lt
  unfold accU
  rw [u8_and127 (x := (c.toNat : Int)) (by omega) (by omega), IntKind.wrap_u64, IntKind.wrap_u64]
  have e1 : ((c.toNat : Int) % 128 % 18446744073709551616 * 2 ^ (7 * k)) % 18446744073709551616 = (((c.toNat % 128 * 2 ^ (7 * k)) % 18446744073709551616 : Nat) : Int) := by
    have : (c.toNat : Int) % 128 % 18446744073709551616 = ((c.toNat % 128 : Nat) : Int) := by omega
    rw [this, Int.natCast_emod (c.toNat % 128 * 2 ^ (7 * k)), Int.natCast_mul, Int.natCast_pow]
    rfl
  rw [e1, bits_or_u64_nat _ _ hn (by omega)]

theorem accU_lt (n : Nat) (c : UInt8) (k : Nat) (hn : n < 18446744073709551616) : n ||| (c.toNat % 128 * 2 ^ (7 * k)) % 18446744073709551616 < 18446744073709551616 := by
  have h : (18446744073709551616 : Nat) = 2 ^ 64 := by decide
  rw [h]
  rw [h] at hn
  exact Nat.or_lt_two_pow hn (Nat.mod_lt _ (by decide))

theorem accU_add (n : Nat) (c : UInt8) (k : Nat) (hn : n < 128 ^ k) (hk : k ≤ 8 ∨ k = 9 ∧ c.toNat ≤ 1) :
    n ||| (c.toNat % 128 * 2 ^ (7 * k)) % 18446744073709551616 = n + c.toNat % 128 * 128 ^ k := by
  have hp : (128 : Nat) ^ k = 2 ^ (7 * k) := by rw [Nat.pow_mul]
  have hlt : c.toNat % 128 * 2 ^ (7 * k) < 18446744073709551616 := by
    have hc := Nat.mod_lt c.toNat (show 128 > 0 by decide)
    rcases hk with hk | ⟨rfl, hk⟩
    · have h1 : (2 : Nat) ^ (7 * k) ≤ 2 ^ 56 := Nat.pow_le_pow_right (by decide) (by omega)
      have h2 : c.toNat % 128 * 2 ^ (7 * k) ≤ 127 * 2 ^ 56 := Nat.mul_le_mul (by omega) h1
      exact Nat.lt_of_le_of_lt h2 (by decide)
    · have h2 : c.toNat % 128 * 2 ^ (7 * 9) ≤ 1 * 2 ^ 63 := Nat.mul_le_mul (by omega) (by decide)
      exact Nat.lt_of_le_of_lt h2 (by decide)
  rw [Nat.mod_eq_of_lt hlt, hp, Nat.or_comm, Nat.mul_comm, ← Nat.two_pow_add_eq_or_of_lt (by rw [← hp]; exact hn), Nat.add_comm]

/-- The loop at its k-th round. -/
def RdAt (l : List UInt8) (k n : Nat) : Prop := k ≤ 10 ∧ k ≤ l.length ∧ (∀ j, j < k → ∀ c, l[j]? = some c → 128 ≤ c.toNat) ∧ n < 18446744073709551616 ∧ (k ≤ 9 → n = valU (l.take k))

theorem take_snoc? {α : Type} {l : List α} {k : Nat} {c : α} (h : l[k]? = some c) : l.take (k + 1) = l.take k ++ [c] := by
  obtain ⟨hk, rfl⟩ := List.getElem?_eq_some_iff.1 h
  rw [List.take_succ_eq_append_getElem hk]

theorem RdAt.acc {l : List UInt8} {k n : Nat} {c : UInt8} (h : RdAt l k n) (hc : l[k]? = some c) (hk : k ≤ 8 ∨ k = 9 ∧ c.toNat ≤ 1) : accU n c k = ((valU (l.take (k + 1)) : Nat) : Int) := by
  obtain ⟨_, h2, _, h4, h5⟩ := h
  have hk9 : k ≤ 9 := by omega
  have hl : (l.take k).length = k := List.length_take_of_le h2
  rw [accU_nat n c k h4, accU_add n c k (by rw [h5 hk9]; have := valU_lt (l.take k); rwa [hl] at this) hk, take_snoc? hc, valU_snoc, hl, h5 hk9]

theorem RdAt.step {l : List UInt8} {k n : Nat} {c : UInt8} (h : RdAt l k n) (hc : l[k]? = some c) (h127 : (127 : Int) < c.toNat) (hk : k < 10) : ∃ m : Nat, accU n c k = m ∧ RdAt l (k + 1) m := by
  have hlt : k < l.length := (List.getElem?_eq_some_iff.1 hc).1
  refine ⟨_, accU_nat n c k h.2.2.2.1, by omega, by omega, ?_, accU_lt n c k h.2.2.2.1, ?_⟩
  · intro j hj d hd
    by_cases e : j = k
    · subst e; rw [hc] at hd; cases hd; omega
    · exact h.2.2.1 j (by omega) d hd
  · intro h9
    have := h.acc hc (.inl (by omega))
    rw [accU_nat n c k h.2.2.2.1] at this
    omega

theorem RdAt.lead {l : List UInt8} {k n : Nat} {c : UInt8} (h : RdAt l k n) (hc : l[k]? = some c) (h127 : (c.toNat : Int) ≤ 127) : lead l = k :=
  Nat.le_antisymm (lead_stop hc (by omega)) (lead_ge h.2.1 h.2.2.1)
theorem RdAt.ok {l : List UInt8} {k n : Nat} {c : UInt8} (h : RdAt l k n) (hc : l[k]? = some c) (h127 : (c.toNat : Int) ≤ 127) (hk : k < 10) (hf : ¬ ((k = 9 ∧ 1 < c.toNat) ∨ (0 < k ∧ c.toNat = 0))) : rdU l = (valU (l.take (k + 1)), k + 1, 0) ∧ accU n c k = ((valU (l.take (k + 1)) : Nat) : Int) := by
  refine ⟨?_, h.acc hc (by omega)⟩
  unfold rdU
  rw [h.lead hc h127, if_neg (by omega), hc]
  simp only [if_neg hf]
end Go.Proofs.YthcicmbkkkhifaaGreatDoor
