/- record.ReadUint walked. -/
import Derived.Test.YtgeabmmicofanaaGreatDoorBuSpLaw12
import Derived.Test.YtgeabmmicofanaaGreatDoorBuSpLaw11
import Derived.Lib.Hide
import Derived.Lib.VarintBits
import Derived.Laws.Bits64b
set_option linter.unusedSimpArgs false
set_option linter.unusedVariables false
namespace Go.Proofs.YtgeabmmicofanaaGreatDoor
open Go.RowKit

open Lib in
/-- What the round makes of n and the byte c. -/
def accU (n : Nat) (c : UInt8) (k : Nat) : Int :=
  bits BinOp.or IntKind.u64 (n : Int) (IntKind.u64.wrap (IntKind.u64.wrap (bits BinOp.and IntKind.u8 (c.toNat : Int) 127) * 2 ^ (7 * k)))

theorem accU_nat (n : Nat) (c : UInt8) (k : Nat) (hn : n < 18446744073709551616) : accU n c k = ((n ||| (c.toNat % 128 * 2 ^ (7 * k)) % 18446744073709551616 : Nat) : Int) := by
  have hc := c.toNat_lt
  unfold accU
  rw [u8_and127 (x := (c.toNat : Int)) (by omega) (by omega), IntKind.wrap_u64, IntKind.wrap_u64]
  have e1 : ((c.toNat : Int) % 128 % 18446744073709551616 * 2 ^ (7 * k)) % 18446744073709551616 = (((c.toNat % 128 * 2 ^ (7 * k)) % 18446744073709551616 : Nat) : Int) := by
    have : (c.toNat : Int) % 128 % 18446744073709551616 = ((c.toNat % 128 : Nat) : Int) := by omega
    rw [this, Int.natCast_emod (c.toNat % 128 * 2 ^ (7 * k)), Int.natCast_mul, Int.natCast_pow]
    rfl
  rw [e1, bits_or_u64_nat _ _ hn (by omega)]

theorem accU_lt (n : Nat) (c : UInt8) (k : Nat) (hn : n < 18446744073709551616) : n ||| (c.toNat % 128 * 2 ^ (7 * k)) % 18446744073709551616 < 18446744073709551616 := by
  have h : (18446744073709551616 : Nat) = 2 ^ 64 := by decide
  rw [h]
  rw [h] at hn
  exact Nat.or_lt_two_pow hn (Nat.mod_lt _ (by decide))

theorem accU_add (n : Nat) (c : UInt8) (k : Nat) (hn : n < 128 ^ k) (hk : k ≤ 8 ∨ k = 9 ∧ c.toNat ≤ 1) :
    n ||| (c.toNat % 128 * 2 ^ (7 * k)) % 18446744073709551616 = n + c.toNat % 128 * 128 ^ k := by
  have hp : (128 : Nat) ^ k = 2 ^ (7 * k) := by rw [Nat.pow_mul]
  have hlt : c.toNat % 128 * 2 ^ (7 * k) < 18446744073709551616 := by
    have hc := Nat.mod_lt c.toNat (show 128 > 0 by decide)
    rcases hk with hk | ⟨rfl, hk⟩
    · have h1 : (2 : Nat) ^ (7 * k) ≤ 2 ^ 56 := Nat.pow_le_pow_right (by decide) (by omega)
      have h2 : c.toNat % 128 * 2 ^ (7 * k) ≤ 127 * 2 ^ 56 := Nat.mul_le_mul (by omega) h1
      exact Nat.lt_of_le_of_lt h2 (by decide)
    · have h2 : c.toNat % 128 * 2 ^ (7 * 9) ≤ 1 * 2 ^ 63 := Nat.mul_le_mul (by omega) (by decide)
      exact Nat.lt_of_le_of_lt h2 (by decide)
  rw [Nat.mod_eq_of_lt hlt, hp, Nat.or_comm, Nat.mul_comm, ← Nat.two_pow_add_eq_or_of_lt (by rw [← hp]; exact hn), Nat.add_comm]

/-- The loop at its k-th round. -/
def RdAt (l : List UInt8) (k n : Nat) : Prop := k ≤ 10 ∧ k ≤ l.length ∧ (∀ j, j < k → ∀ c, l[j]? = some c → 128 ≤ c.toNat) ∧ n < 18446744073709551616 ∧ (k ≤ 9 → n = valU (l.take k))

theorem take_snoc? {α : Type} {l : List α} {k : Nat} {c : α} (h : l[k]? = some c) : l.take (k + 1) = l.take k ++ [c] := by
  obtain ⟨hk, rfl⟩ := List.getElem?_eq_some_iff.1 h
  rw [List.take_succ_eq_append_getElem hk]

theorem RdAt.acc {l : List UInt8} {k n : Nat} {c : UInt8} (h : RdAt l k n) (hc : l[k]? = some c) (hk : k ≤ 8 ∨ k = 9 ∧ c.toNat ≤ 1) : accU n c k = ((valU (l.take (k + 1)) : Nat) : Int) := by
  obtain ⟨_, h2, _, h4, h5⟩ := h
  have hk9 : k ≤ 9 := by omega
  have hl : (l.take k).length = k := List.length_take_of_le h2
  rw [accU_nat n c k h4, accU_add n c k (by rw [h5 hk9]; have := valU_lt (l.take k); rwa [hl] at this) hk, take_snoc? hc, valU_snoc, hl, h5 hk9]

theorem RdAt.step {l : List UInt8} {k n : Nat} {c : UInt8} (h : RdAt l k n) (hc : l[k]? = some c) (h127 : (127 : Int) < c.toNat) (hk : k < 10) : ∃ m : Nat, accU n c k = m ∧ RdAt l (k + 1) m := by
  have hlt : k < l.length := (List.getElem?_eq_some_iff.1 hc).1
  refine ⟨_, accU_nat n c k h.2.2.2.1, by omega, by omega, ?_, accU_lt n c k h.2.2.2.1, ?_⟩
  · intro j hj d hd
    by_cases e : j = k
    · subst e; rw [hc] at hd; cases hd; omega
    · exact h.2.2.1 j (by omega) d hd
  · intro h9
    have := h.acc hc (.inl (by omega))
    rw [accU_nat n c k h.2.2.2.1] at this
    omega

theorem RdAt.lead {l : List UInt8} {k n : Nat} {c : UInt8} (h : RdAt l k n) (hc : l[k]? = some c) (h127 : (c.toNat : Int) ≤ 127) : lead l = k :=
  Nat.le_antisymm (lead_stop hc (by omega)) (lead_ge h.2.1 h.2.2.1)
theorem RdAt.form {l : List UInt8} {k n : Nat} {c : UInt8} (h : RdAt l k n) (hc : l[k]? = some c) (h127 : (c.toNat : Int) ≤ 127) (hk : k < 10) (hf : (k = 9 ∧ 1 < c.toNat) ∨ (0 < k ∧ c.toNat = 0)) : rdU l = (0, 0, 61) := by
  unfold rdU
  rw [h.lead hc h127, if_neg (by omega), hc]
  simp only [if_pos hf]
theorem RdAt.ok {l : List UInt8} {k n : Nat} {c : UInt8} (h : RdAt l k n) (hc : l[k]? = some c) (h127 : (c.toNat : Int) ≤ 127) (hk : k < 10) (hf : ¬ ((k = 9 ∧ 1 < c.toNat) ∨ (0 < k ∧ c.toNat = 0))) : rdU l = (valU (l.take (k + 1)), k + 1, 0) ∧ accU n c k = ((valU (l.take (k + 1)) : Nat) : Int) := by
  refine ⟨?_, h.acc hc (by omega)⟩
  unfold rdU
  rw [h.lead hc h127, if_neg (by omega), hc]
  simp only [if_neg hf]
theorem RdAt.short {l : List UInt8} {k n : Nat} (h : RdAt l k n) (hl : l.length = k) (hk : k < 10) : rdU l = (0, 0, 60) := by
  have : Go.Proofs.YtgeabmmicofanaaGreatDoor.lead l = k := Nat.le_antisymm (hl ▸ lead_le l) (lead_ge h.2.1 h.2.2.1)
  unfold rdU
  rw [this, if_neg (by omega), List.getElem?_eq_none (by omega)]
theorem RdAt.long {l : List UInt8} {k n : Nat} (h : RdAt l k n) (hk : k = 10) : rdU l = (0, 0, 61) := by
  have : k ≤ Go.Proofs.YtgeabmmicofanaaGreatDoor.lead l := lead_ge h.2.1 h.2.2.1
  unfold rdU
  rw [if_pos (by omega)]

theorem rdAt_in {l : List UInt8} {a : Nat} (ha : a < l.length) : rdAt l a = if (rdU (l.drop a)).2.2 = 0 then ((rdU (l.drop a)).1, (a : Int) + (rdU (l.drop a)).2.1, 0) else (0, 0, (rdU (l.drop a)).2.2) := by
  unfold rdAt
  rw [if_neg (by omega)]
  rfl

theorem ret3 {k1 k2 k3 : IntKind} {a b c a' b' c' : Int} (h1 : a = a') (h2 : b = b') (h3 : c = c') : Ending.returned (.tuple #[.int k1 a, .int k2 b, .int k3 c]) = Ending.returned (.tuple #[.int k1 a', .int k2 b', .int k3 c']) := by rw [h1, h2, h3]

set_option maxHeartbeats 400000 in
theorem ReadUint_in (s : ByteArray) (a : Nat) (w : World) (hs : s.size ≤ 9223372036854775807) (ha : a < s.size) :
    Calls Tryz.prog 91 #[.string s, .int .i64 a] w fun e w' => e = .returned (.tuple #[.int .u64 (rdAt s.data.toList a).1, .int .i64 (rdAt s.data.toList a).2.1, .int .i64 (rdAt s.data.toList a).2.2]) ∧ w = w' := by
  have HR := Lib.hid (rdAt_in (l := s.data.toList) (a := a) (by simpa using ha))
  have hc : ∀ k (h : a + k < s.size), (s.data.toList.drop a)[k]? = some s[a + k] := by
    intro k h
    rw [List.getElem?_drop, List.getElem?_eq_getElem (by simpa using h)]
    rfl
  have HC := Lib.hid hc
  have hlen : (s.data.toList.drop a).length = s.size - a := by simp
  have HL := Lib.hid hlen
  clear hc hlen
  go_enter Tryz.func91, Tryz.ntmps91
  (repeat' (first | (go_big_may; fail) | go_values | go_skip | go_guarded | go_step | go_upon | go_back | dsimp only))
  go_loop [4, 17] (fun x i => ∃ k n : Nat, x = .int .u64 n ∧ i = .int .i64 k ∧ RdAt (s.data.toList.drop a) k n) (fun _ i => 10 - (intOf i).toNat)
  case atStart => exact ⟨0, 0, rfl, rfl, by simp [RdAt, valU]⟩
  case round =>
    obtain ⟨k, n, rfl, rfl, hrel⟩ := hrel
    have hk : k ≤ 10 := hrel.1
    have hn : n < 18446744073709551616 := hrel.2.2.2.1
    by_cases h10 : k < 10
    · by_cases hsh : a + k < s.size
      · have hB := s[a + k].toNat_lt
        have hi1 : (0 : Int) ≤ (a : Int) + k := by omega
        have hi2 : (a : Int) + k < (s.size : Int) := by omega
        have H := Lib.hid (HC.out k hsh)
        (repeat' (first | (go_big_may; fail) | go_values | go_skip | go_guarded | go_step | go_upon | go_back | dsimp only))
        · go_round
          case rel =>
            obtain ⟨m, hm, hm2⟩ := hrel.step H.out (by assumption) h10
            exact ⟨k + 1, m, by rw [← hm]; rfl, by go_num, hm2⟩
          case measure => simp [intOf] <;> omega
        all_goals go_ret3
        all_goals refine ⟨?_, rfl⟩
        all_goals rw [HR.out]
        · rw [hrel.form H.out (by assumption) h10 (.inl (by omega))]; rfl
        · rename_i h; rw [hrel.form H.out (by assumption) h10 (.inr (by have := eq_of_beq h; omega))]; rfl
        · rename_i h; have h := ne_of_beq_false h
          rw [(hrel.ok H.out (by assumption) h10 (by omega)).1]
          exact ret3 (hrel.ok H.out (by assumption) h10 (by omega)).2 (by simp; omega) rfl
        · rename_i h; rw [hrel.form H.out (by assumption) h10 (.inr (by have := eq_of_beq h; omega))]; rfl
        · rename_i h; have h := ne_of_beq_false h
          rw [(hrel.ok H.out (by assumption) h10 (by omega)).1]
          exact ret3 (hrel.ok H.out (by assumption) h10 (by omega)).2 (by simp; omega) rfl
        · rw [(hrel.ok H.out (by assumption) h10 (by omega)).1]
          exact ret3 (hrel.ok H.out (by assumption) h10 (by omega)).2 (by simp; omega) rfl
      · (repeat' (first | (go_big_may; fail) | go_values | go_skip | go_guarded | go_step | go_upon | go_back | dsimp only))
        go_ret3
        refine ⟨?_, rfl⟩
        rw [HR.out, hrel.short (by have := HL.out; have := hrel.2.1; omega) h10]; rfl
    · (repeat' (first | (go_big_may; fail) | go_values | go_skip | go_guarded | go_step | go_upon | go_back | dsimp only))
      go_ret3
      refine ⟨?_, rfl⟩
      rw [HR.out, hrel.long (by omega)]; rfl

set_option maxHeartbeats 400000 in
theorem ReadUint_out (s : ByteArray) (at_ : Int) (w : World) (hs : s.size ≤ 9223372036854775807) (ha : at_ < 0 ∨ (s.size : Int) ≤ at_) :
    Calls Tryz.prog 91 #[.string s, .int .i64 at_] w fun e w' => e = .returned (.tuple #[.int .u64 0, .int .i64 0, .int .i64 60]) ∧ w = w' := by
  by_cases h0 : at_ < 0
  all_goals
    go_enter Tryz.func91, Tryz.ntmps91
    (repeat' (first | (go_big_may; fail) | go_values | go_skip | go_guarded | go_step | go_upon | go_back | dsimp only))
    go_ret3
    exact ⟨rfl, rfl⟩

/-- record.ReadUint, at every place. -/
theorem ReadUint_calls (s : ByteArray) (at_ : Int) (w : World) (hs : s.size ≤ 9223372036854775807) :
    Calls Tryz.prog 91 #[.string s, .int .i64 at_] w fun e w' => e = .returned (.tuple #[.int .u64 (rdAt s.data.toList at_).1, .int .i64 (rdAt s.data.toList at_).2.1, .int .i64 (rdAt s.data.toList at_).2.2]) ∧ w = w' := by
  by_cases h : at_ < 0 ∨ (s.size : Int) ≤ at_
  · refine (ReadUint_out s at_ w hs h).mono ?_
    rintro e w' ⟨rfl, rfl⟩
    have : rdAt s.data.toList at_ = (0, 0, 60) := by
      unfold rdAt
      rw [if_pos (by simpa using h)]
    rw [this]
    exact ⟨rfl, rfl⟩
  · obtain ⟨a, rfl⟩ := Int.eq_ofNat_of_zero_le (show 0 ≤ at_ by omega)
    exact ReadUint_in s a w hs (by omega)

end Go.Proofs.YtgeabmmicofanaaGreatDoor
