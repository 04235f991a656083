/- record.ReadUint walked. · record.next, Unframe walked. · The document's answers of layer 6 walked: Uint, ReadUint, Heads, Unframe. · hornbookref06.ReadUint walked. -/
import Derived.Test.YtadokkffmekndaaGreatDoorBuMgAgLaw24
import Derived.Test.YtadokkffmekndaaGreatDoorBuMgAgLaw14
import Derived.Lib.Hide
import Derived.Lib.VarintBits
import Derived.Laws.Bits64b
import Derived.Lib.Strings
set_option linter.unusedSimpArgs false
set_option linter.unusedVariables false
namespace Go.Proofs.YtadokkffmekndaaGreatDoor
open Go.RowKit

open Lib in
/-- What the round makes of n and the byte c. -/
def accU (n : Nat) (c : UInt8) (k : Nat) : Int :=
  bits BinOp.or IntKind.u64 (n : Int) (IntKind.u64.wrap (IntKind.u64.wrap (bits BinOp.and IntKind.u8 (c.toNat : Int) 127) * 2 ^ (7 * k)))

theorem accU_nat (n : Nat) (c : UInt8) (k : Nat) (hn : n < 18446744073709551616) : accU n c k = ((n ||| (c.toNat % 128 * 2 ^ (7 * k)) % 18446744073709551616 : Nat) : Int) := by
  have hc := c.toNat_lt
  unfold accU
  rw [u8_and127 (x := (c.toNat : Int)) (by omega) (by omega), IntKind.wrap_u64, IntKind.wrap_u64]
  have e1 : ((c.toNat : Int) % 128 % 18446744073709551616 * 2 ^ (7 * k)) % 18446744073709551616 = (((c.toNat % 128 * 2 ^ (7 * k)) % 18446744073709551616 : Nat) : Int) := by
    have : (c.toNat : Int) % 128 % 18446744073709551616 = ((c.toNat % 128 : Nat) : Int) := by omega
    rw [this, Int.natCast_emod (c.toNat % 128 * 2 ^ (7 * k)), Int.natCast_mul, Int.natCast_pow]
    rfl
  rw [e1, bits_or_u64_nat _ _ hn (by omega)]

theorem accU_lt (n : Nat) (c : UInt8) (k : Nat) (hn : n < 18446744073709551616) : n ||| (c.toNat % 128 * 2 ^ (7 * k)) % 18446744073709551616 < 18446744073709551616 := by
  have h : (18446744073709551616 : Nat) = 2 ^ 64 := by decide
  rw [h]
  rw [h] at hn
  exact Nat.or_lt_two_pow hn (Nat.mod_lt _ (by decide))

theorem accU_add (n : Nat) (c : UInt8) (k : Nat) (hn : n < 128 ^ k) (hk : k ≤ 8 ∨ k = 9 ∧ c.toNat ≤ 1) :
    n ||| (c.toNat % 128 * 2 ^ (7 * k)) % 18446744073709551616 = n + c.toNat % 128 * 128 ^ k := by
  have hp : (128 : Nat) ^ k = 2 ^ (7 * k) := by rw [Nat.pow_mul]
  have hlt : c.toNat % 128 * 2 ^ (7 * k) < 18446744073709551616 := by
    have hc := Nat.mod_lt c.toNat (show 128 > 0 by decide)
    rcases hk with hk | ⟨rfl, hk⟩
    · have h1 : (2 : Nat) ^ (7 * k) ≤ 2 ^ 56 := Nat.pow_le_pow_right (by decide) (by omega)
      have h2 : c.toNat % 128 * 2 ^ (7 * k) ≤ 127 * 2 ^ 56 := Nat.mul_le_mul (by omega) h1
      exact Nat.lt_of_le_of_lt h2 (by decide)
    · have h2 : c.toNat % 128 * 2 ^ (7 * 9) ≤ 1 * 2 ^ 63 := Nat.mul_le_mul (by omega) (by decide)
      exact Nat.lt_of_le_of_lt h2 (by decide)
  rw [Nat.mod_eq_of_lt hlt, hp, Nat.or_comm, Nat.mul_comm, ← Nat.two_pow_add_eq_or_of_lt (by rw [← hp]; exact hn), Nat.add_comm]

/-- The loop at its k-th round. -/
def RdAt (l : List UInt8) (k n : Nat) : Prop := k ≤ 10 ∧ k ≤ l.length ∧ (∀ j, j < k → ∀ c, l[j]? = some c → 128 ≤ c.toNat) ∧ n < 18446744073709551616 ∧ (k ≤ 9 → n = valU (l.take k))

theorem take_snoc? {α : Type} {l : List α} {k : Nat} {c : α} (h : l[k]? = some c) : l.take (k + 1) = l.take k ++ [c] := by
  obtain ⟨hk, rfl⟩ := List.getElem?_eq_some_iff.1 h
  rw [List.take_succ_eq_append_getElem hk]

theorem RdAt.acc {l : List UInt8} {k n : Nat} {c : UInt8} (h : RdAt l k n) (hc : l[k]? = some c) (hk : k ≤ 8 ∨ k = 9 ∧ c.toNat ≤ 1) : accU n c k = ((valU (l.take (k + 1)) : Nat) : Int) := by
  obtain ⟨_, h2, _, h4, h5⟩ := h
  have hk9 : k ≤ 9 := by omega
  have hl : (l.take k).length = k := List.length_take_of_le h2
  rw [accU_nat n c k h4, accU_add n c k (by rw [h5 hk9]; have := valU_lt (l.take k); rwa [hl] at this) hk, take_snoc? hc, valU_snoc, hl, h5 hk9]

theorem RdAt.step {l : List UInt8} {k n : Nat} {c : UInt8} (h : RdAt l k n) (hc : l[k]? = some c) (h127 : (127 : Int) < c.toNat) (hk : k < 10) : ∃ m : Nat, accU n c k = m ∧ RdAt l (k + 1) m := by
  have hlt : k < l.length := (List.getElem?_eq_some_iff.1 hc).1
  refine ⟨_, accU_nat n c k h.2.2.2.1, by omega, by omega, ?_, accU_lt n c k h.2.2.2.1, ?_⟩
  · intro j hj d hd
    by_cases e : j = k
    · subst e; rw [hc] at hd; cases hd; omega
    · exact h.2.2.1 j (by omega) d hd
  · intro h9
    have := h.acc hc (.inl (by omega))
    rw [accU_nat n c k h.2.2.2.1] at this
    omega

theorem RdAt.lead {l : List UInt8} {k n : Nat} {c : UInt8} (h : RdAt l k n) (hc : l[k]? = some c) (h127 : (c.toNat : Int) ≤ 127) : lead l = k :=
  Nat.le_antisymm (lead_stop hc (by omega)) (lead_ge h.2.1 h.2.2.1)
theorem RdAt.form {l : List UInt8} {k n : Nat} {c : UInt8} (h : RdAt l k n) (hc : l[k]? = some c) (h127 : (c.toNat : Int) ≤ 127) (hk : k < 10) (hf : (k = 9 ∧ 1 < c.toNat) ∨ (0 < k ∧ c.toNat = 0)) : rdU l = (0, 0, 61) := by
  unfold rdU
  rw [h.lead hc h127, if_neg (by omega), hc]
  simp only [if_pos hf]
theorem RdAt.ok {l : List UInt8} {k n : Nat} {c : UInt8} (h : RdAt l k n) (hc : l[k]? = some c) (h127 : (c.toNat : Int) ≤ 127) (hk : k < 10) (hf : ¬ ((k = 9 ∧ 1 < c.toNat) ∨ (0 < k ∧ c.toNat = 0))) : rdU l = (valU (l.take (k + 1)), k + 1, 0) ∧ accU n c k = ((valU (l.take (k + 1)) : Nat) : Int) := by
  refine ⟨?_, h.acc hc (by omega)⟩
  unfold rdU
  rw [h.lead hc h127, if_neg (by omega), hc]
  simp only [if_neg hf]
theorem RdAt.short {l : List UInt8} {k n : Nat} (h : RdAt l k n) (hl : l.length = k) (hk : k < 10) : rdU l = (0, 0, 60) := by
  have : Go.Proofs.YtadokkffmekndaaGreatDoor.lead l = k := Nat.le_antisymm (hl ▸ lead_le l) (lead_ge h.2.1 h.2.2.1)
  unfold rdU
  rw [this, if_neg (by omega), List.getElem?_eq_none (by omega)]
theorem RdAt.long {l : List UInt8} {k n : Nat} (h : RdAt l k n) (hk : k = 10) : rdU l = (0, 0, 61) := by
  have : k ≤ Go.Proofs.YtadokkffmekndaaGreatDoor.lead l := lead_ge h.2.1 h.2.2.1
  unfold rdU
  rw [if_pos (by omega)]

theorem rdAt_in {l : List UInt8} {a : Nat} (ha : a < l.length) : rdAt l a = if (rdU (l.drop a)).2.2 = 0 then ((rdU (l.drop a)).1, (a : Int) + (rdU (l.drop a)).2.1, 0) else (0, 0, (rdU (l.drop a)).2.2) := by
  unfold rdAt
  rw [if_neg (by omega)]
  rfl

theorem ret3 {k1 k2 k3 : IntKind} {a b c a' b' c' : Int} (h1 : a = a') (h2 : b = b') (h3 : c = c') : Ending.returned (.tuple #[.int k1 a, .int k2 b, .int k3 c]) = Ending.returned (.tuple #[.int k1 a', .int k2 b', .int k3 c']) := by rw [h1, h2, h3]

set_option maxHeartbeats 400000 in
theorem ReadUint_in (s : ByteArray) (a : Nat) (w : World) (hs : s.size ≤ 9223372036854775807) (ha : a < s.size) :
    Calls Tryz.prog 75 #[.string s, .int .i64 a] w fun e w' => e = .returned (.tuple #[.int .u64 (rdAt s.data.toList a).1, .int .i64 (rdAt s.data.toList a).2.1, .int .i64 (rdAt s.data.toList a).2.2]) ∧ w = w' := by
  have HR := Lib.hid (rdAt_in (l := s.data.toList) (a := a) (by simpa using ha))
  have hc : ∀ k (h : a + k < s.size), (s.data.toList.drop a)[k]? = some s[a + k] := by
    intro k h
    rw [List.getElem?_drop, List.getElem?_eq_getElem (by simpa using h)]
    rfl
  have HC := Lib.hid hc
  have hlen : (s.data.toList.drop a).length = s.size - a := by simp
  have HL := Lib.hid hlen
  clear hc hlen
  go_enter Tryz.func75, Tryz.ntmps75
  (repeat' (first | (go_big_may; fail) | go_values | go_skip | go_guarded | go_step | go_upon | go_back | dsimp only))
  go_loop [4, 17] (fun x i => ∃ k n : Nat, x = .int .u64 n ∧ i = .int .i64 k ∧ RdAt (s.data.toList.drop a) k n) (fun _ i => 10 - (intOf i).toNat)
  case atStart => exact ⟨0, 0, rfl, rfl, by simp [RdAt, valU]⟩
  case round =>
    obtain ⟨k, n, rfl, rfl, hrel⟩ := hrel
    have hk : k ≤ 10 := hrel.1
    have hn : n < 18446744073709551616 := hrel.2.2.2.1
    by_cases h10 : k < 10
    · by_cases hsh : a + k < s.size
      · have hB := s[a + k].toNat_lt
        have hi1 : (0 : Int) ≤ (a : Int) + k := by omega
        have hi2 : (a : Int) + k < (s.size : Int) := by omega
        have H := Lib.hid (HC.out k hsh)
        (repeat' (first | (go_big_may; fail) | go_values | go_skip | go_guarded | go_step | go_upon | go_back | dsimp only))
        · go_round
          case rel =>
            obtain ⟨m, hm, hm2⟩ := hrel.step H.out (by assumption) h10
            exact ⟨k + 1, m, by rw [← hm]; rfl, by go_num, hm2⟩
          case measure => simp [intOf] <;> omega
        all_goals go_ret3
        all_goals refine ⟨?_, rfl⟩
        all_goals rw [HR.out]
        · rw [hrel.form H.out (by assumption) h10 (.inl (by omega))]; rfl
        · rename_i h; rw [hrel.form H.out (by assumption) h10 (.inr (by have := eq_of_beq h; omega))]; rfl
        · rename_i h; have h := ne_of_beq_false h
          rw [(hrel.ok H.out (by assumption) h10 (by omega)).1]
          exact ret3 (hrel.ok H.out (by assumption) h10 (by omega)).2 (by simp; omega) rfl
        · rename_i h; rw [hrel.form H.out (by assumption) h10 (.inr (by have := eq_of_beq h; omega))]; rfl
        · rename_i h; have h := ne_of_beq_false h
          rw [(hrel.ok H.out (by assumption) h10 (by omega)).1]
          exact ret3 (hrel.ok H.out (by assumption) h10 (by omega)).2 (by simp; omega) rfl
        · rw [(hrel.ok H.out (by assumption) h10 (by omega)).1]
          exact ret3 (hrel.ok H.out (by assumption) h10 (by omega)).2 (by simp; omega) rfl
      · (repeat' (first | (go_big_may; fail) | go_values | go_skip | go_guarded | go_step | go_upon | go_back | dsimp only))
        go_ret3
        refine ⟨?_, rfl⟩
        rw [HR.out, hrel.short (by have := HL.out; have := hrel.2.1; omega) h10]; rfl
    · (repeat' (first | (go_big_may; fail) | go_values | go_skip | go_guarded | go_step | go_upon | go_back | dsimp only))
      go_ret3
      refine ⟨?_, rfl⟩
      rw [HR.out, hrel.long (by omega)]; rfl

set_option maxHeartbeats 400000 in
theorem ReadUint_out (s : ByteArray) (at_ : Int) (w : World) (hs : s.size ≤ 9223372036854775807) (ha : at_ < 0 ∨ (s.size : Int) ≤ at_) :
    Calls Tryz.prog 75 #[.string s, .int .i64 at_] w fun e w' => e = .returned (.tuple #[.int .u64 0, .int .i64 0, .int .i64 60]) ∧ w = w' := by
  by_cases h0 : at_ < 0
  all_goals
    go_enter Tryz.func75, Tryz.ntmps75
    (repeat' (first | (go_big_may; fail) | go_values | go_skip | go_guarded | go_step | go_upon | go_back | dsimp only))
    go_ret3
    exact ⟨rfl, rfl⟩

/-- record.ReadUint, at every place. -/
theorem ReadUint_calls (s : ByteArray) (at_ : Int) (w : World) (hs : s.size ≤ 9223372036854775807) :
    Calls Tryz.prog 75 #[.string s, .int .i64 at_] w fun e w' => e = .returned (.tuple #[.int .u64 (rdAt s.data.toList at_).1, .int .i64 (rdAt s.data.toList at_).2.1, .int .i64 (rdAt s.data.toList at_).2.2]) ∧ w = w' := by
  by_cases h : at_ < 0 ∨ (s.size : Int) ≤ at_
  · refine (ReadUint_out s at_ w hs h).mono ?_
    rintro e w' ⟨rfl, rfl⟩
    have : rdAt s.data.toList at_ = (0, 0, 60) := by
      unfold rdAt
      rw [if_pos (by simpa using h)]
    rw [this]
    exact ⟨rfl, rfl⟩
  · obtain ⟨a, rfl⟩ := Int.eq_ofNat_of_zero_le (show 0 ≤ at_ by omega)
    exact ReadUint_in s a w hs (by omega)

end Go.Proofs.YtadokkffmekndaaGreatDoor
namespace Go.Proofs.YtadokkffmekndaaGreatDoor
open Go.RowKit

theorem ReadUint_is (s : ByteArray) (at_ : Int) (w : World) (hs : s.size ≤ 9223372036854775807) {n : Nat} {k : Int} {er : Nat} (hr : rdAt s.data.toList at_ = (n, k, er)) :
    Calls Tryz.prog 75 #[.string s, .int .i64 at_] w fun e w' => e = .returned (.tuple #[.int .u64 n, .int .i64 k, .int .i64 er]) ∧ w = w' := by
  have := ReadUint_calls s at_ w hs
  rwa [hr] at this

theorem nextAt_of {l : List UInt8} {a : Int} {n : Nat} {k : Int} {er : Nat} (hr : rdAt l a = (n, k, er)) :
    nextAt l a = if er ≠ 0 then ([], 0, er) else if 255 < n then ([], 0, 62) else if (l.length : Int) - k < n then ([], 0, 60) else ((l.drop k.toNat).take n, k + n, 0) := by
  unfold nextAt; rw [hr]

set_option maxHeartbeats 400000 in
theorem next_calls (s : ByteArray) (at_ : Int) (w : World) (hs : s.size ≤ 9223372036854775807) :
    Calls Tryz.prog 55 #[.string s, .int .i64 at_] w fun e w' => e = .returned (.tuple #[.string ⟨(nextAt s.data.toList at_).1.toArray⟩, .int .i64 (nextAt s.data.toList at_).2.1, .int .i64 (nextAt s.data.toList at_).2.2]) ∧ w = w' := by
  obtain ⟨n, k, er, hr⟩ : ∃ n k er, rdAt s.data.toList at_ = (n, k, er) := ⟨_, _, _, rfl⟩
  have HN := Lib.hid (nextAt_of hr)
  have HR := Lib.hid hr
  have hok : er = 0 → 0 ≤ k ∧ k ≤ s.size ∧ n < 18446744073709551616 := by
    intro h
    have := rdAt_ok (l := s.data.toList) (a := at_) (by rw [hr]; exact h)
    rw [hr] at this
    simp at this
    omega
  have HK := Lib.hid hok
  clear hr hok
  by_cases her : er = 0
  · subst her
    obtain ⟨hk0, hk1, hn1⟩ := HK.out rfl
    obtain ⟨k, rfl⟩ := Int.eq_ofNat_of_zero_le hk0
    clear HK
    go_enter Tryz.func55, Tryz.ntmps55
    (repeat' (first | (go_big_may; (go_at_call 75; refine (ReadUint_is s at_ _ hs HR.out).mono ?_; rintro e w' ⟨rfl, rfl⟩)) | go_values | go_skip | go_guarded | go_step | go_upon | go_back | dsimp only))
    all_goals go_ret3
    · exact ⟨by rw [HN.out]; simp only [ne_eq, not_true_eq_false, if_false]; rw [if_pos (by omega)]; rfl, rfl⟩
    · exact ⟨by rw [HN.out]; simp only [ne_eq, not_true_eq_false, if_false]; rw [if_neg (by omega), if_pos (by simp; omega)]; rfl, rfl⟩
    · refine ⟨?_, rfl⟩
      rw [HN.out]; simp only [ne_eq, not_true_eq_false, if_false]; rw [if_neg (by omega), if_neg (by simp; omega)]
      rw [show (k : Int).toNat = k from rfl]
      have hx : s.extract k (k + n) = ⟨((s.data.toList.drop k).take n).toArray⟩ := by rw [Lib.extract_eq, Nat.add_sub_cancel_left]
      rw [← hx]
      rfl
  · have hb : ((er : Int) != 0) = true := by simpa using her
    go_enter Tryz.func55, Tryz.ntmps55
    (repeat' (first | (go_big_may; (go_at_call 75; refine (ReadUint_is s at_ _ hs HR.out).mono ?_; rintro e w' ⟨rfl, rfl⟩)) | go_values | go_skip | go_guarded | go_step | go_upon | go_back | dsimp only))
    go_ret3
    exact ⟨by rw [HN.out, if_pos her]; rfl, rfl⟩

/-- What Unframe answers. -/
def unfL (l : List UInt8) : List (List UInt8) × Nat := if (headsL l).2 = 0 then headsL l else ([], (headsL l).2)

/-- A result of strings and an error. -/
def StrsErr (w : World) (l : List (List UInt8) × Nat) (e : Ending) (w' : World) : Prop :=
  ∃ v, e = .returned (.tuple #[v, .int .i64 l.2]) ∧ w'.ownsRow w.heap.size 9 1 v l.1.length (strs l.1) ∧ Below w.heap.size w w'

theorem StrsErr.mk {w w' : World} {l l' : List (List UInt8)} {er : Nat} {x : List (List UInt8) × Nat} {v : Value} (hx : x = (l, er)) (hl : l = l') (ho : w'.ownsRow w.heap.size 9 1 v l'.length (strs l')) (hb : Below w.heap.size w w') :
    StrsErr w x (.returned (.tuple #[v, .int .i64 er])) w' := by
  subst hx; subst hl; exact ⟨v, rfl, ho, hb⟩
end Go.Proofs.YtadokkffmekndaaGreatDoor
namespace Go.Proofs.YtadokkffmekndaaGreatDoor
open Go.RowKit

end Go.Proofs.YtadokkffmekndaaGreatDoor
namespace Go.Proofs.YtadokkffmekndaaGreatDoor
open Go.RowKit

def RdLead (l : List UInt8) (k : Nat) : Prop := k ≤ 10 ∧ k ≤ l.length ∧ (∀ j, j < k → ∀ c, l[j]? = some c → 128 ≤ c.toNat)
theorem RdLead.at {l : List UInt8} {k : Nat} (h : RdLead l k) : ∃ n, RdAt l k n := by
  by_cases h9 : k ≤ 9
  · refine ⟨valU (l.take k), h.1, h.2.1, h.2.2, ?_, fun _ => rfl⟩
    have h1 := valU_lt (l.take k)
    have h2 : (128 : Nat) ^ (l.take k).length ≤ 128 ^ 9 := Nat.pow_le_pow_right (by decide) (by rw [List.length_take]; omega)
    have h3 : (128 : Nat) ^ 9 < 18446744073709551616 := by decide
    omega
  · exact ⟨0, h.1, h.2.1, h.2.2, by decide, fun h => absurd h h9⟩
theorem RdLead.step {l : List UInt8} {k : Nat} {c : UInt8} (h : RdLead l k) (hc : l[k]? = some c) (h128 : (128 : Int) ≤ c.toNat) (hk : k < 10) : RdLead l (k + 1) := by
  have hlt : k < l.length := (List.getElem?_eq_some_iff.1 hc).1
  refine ⟨by omega, by omega, ?_⟩
  intro j hj d hd
  by_cases e : j = k
  · subst e; rw [hc] at hd; cases hd; omega
  · exact h.2.2 j (by omega) d hd

end Go.Proofs.YtadokkffmekndaaGreatDoor
