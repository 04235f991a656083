/- record.next, Unframe walked. · The document's answers of layer 6 walked: Uint, ReadUint, Heads, Unframe. · hornbookref06.ReadUint walked. -/
import Derived.Test.YtgeabmmicofanaaGreatDoorBuSpLaw20
import Derived.Test.YtgeabmmicofanaaGreatDoorBuSpLaw12
import Derived.Lib.Strings
set_option linter.unusedSimpArgs false
set_option linter.unusedVariables false
namespace Go.Proofs.YtgeabmmicofanaaGreatDoor
open Go.RowKit

theorem ReadUint_is (s : ByteArray) (at_ : Int) (w : World) (hs : s.size ≤ 9223372036854775807) {n : Nat} {k : Int} {er : Nat} (hr : rdAt s.data.toList at_ = (n, k, er)) :
    Calls Tryz.prog 91 #[.string s, .int .i64 at_] w fun e w' => e = .returned (.tuple #[.int .u64 n, .int .i64 k, .int .i64 er]) ∧ w = w' := by
  have := ReadUint_calls s at_ w hs
  rwa [hr] at this

theorem nextAt_of {l : List UInt8} {a : Int} {n : Nat} {k : Int} {er : Nat} (hr : rdAt l a = (n, k, er)) :
    nextAt l a = if er ≠ 0 then ([], 0, er) else if 255 < n then ([], 0, 62) else if (l.length : Int) - k < n then ([], 0, 60) else ((l.drop k.toNat).take n, k + n, 0) := by
  unfold nextAt; rw [hr]

set_option maxHeartbeats 400000 in
theorem next_calls (s : ByteArray) (at_ : Int) (w : World) (hs : s.size ≤ 9223372036854775807) :
    Calls Tryz.prog 76 #[.string s, .int .i64 at_] w fun e w' => e = .returned (.tuple #[.string ⟨(nextAt s.data.toList at_).1.toArray⟩, .int .i64 (nextAt s.data.toList at_).2.1, .int .i64 (nextAt s.data.toList at_).2.2]) ∧ w = w' := by
  obtain ⟨n, k, er, hr⟩ : ∃ n k er, rdAt s.data.toList at_ = (n, k, er) := ⟨_, _, _, rfl⟩
  have HN := Lib.hid (nextAt_of hr)
  have HR := Lib.hid hr
  have hok : er = 0 → 0 ≤ k ∧ k ≤ s.size ∧ n < 18446744073709551616 := by
    intro h
    have := rdAt_ok (l := s.data.toList) (a := at_) (by rw [hr]; exact h)
    rw [hr] at this
    simp at this
    omega
  have HK := Lib.hid hok
  clear hr hok
  by_cases her : er = 0
  · subst her
    obtain ⟨hk0, hk1, hn1⟩ := HK.out rfl
    obtain ⟨k, rfl⟩ := Int.eq_ofNat_of_zero_le hk0
    clear HK
    go_enter Tryz.func76, Tryz.ntmps76
    (repeat' (first | (go_big_may; (go_at_call 91; refine (ReadUint_is s at_ _ hs HR.out).mono ?_; rintro e w' ⟨rfl, rfl⟩)) | go_values | go_skip | go_guarded | go_step | go_upon | go_back | dsimp only))
    all_goals go_ret3
    · exact ⟨by rw [HN.out]; simp only [ne_eq, not_true_eq_false, if_false]; rw [if_pos (by omega)]; rfl, rfl⟩
    · exact ⟨by rw [HN.out]; simp only [ne_eq, not_true_eq_false, if_false]; rw [if_neg (by omega), if_pos (by simp; omega)]; rfl, rfl⟩
    · refine ⟨?_, rfl⟩
      rw [HN.out]; simp only [ne_eq, not_true_eq_false, if_false]; rw [if_neg (by omega), if_neg (by simp; omega)]
      rw [show (k : Int).toNat = k from rfl]
      have hx : s.extract k (k + n) = ⟨((s.data.toList.drop k).take n).toArray⟩ := by rw [Lib.extract_eq, Nat.add_sub_cancel_left]
      rw [← hx]
      rfl
  · have hb : ((er : Int) != 0) = true := by simpa using her
    go_enter Tryz.func76, Tryz.ntmps76
    (repeat' (first | (go_big_may; (go_at_call 91; refine (ReadUint_is s at_ _ hs HR.out).mono ?_; rintro e w' ⟨rfl, rfl⟩)) | go_values | go_skip | go_guarded | go_step | go_upon | go_back | dsimp only))
    go_ret3
    exact ⟨by rw [HN.out, if_pos her]; rfl, rfl⟩

theorem info_str : (Tryz.prog.info? 9).map (fun i => (i.zero, i.size, i.bytes)) = some (some (.string ⟨#[]⟩), 1, 16) := by kernel_rfl

/-- What Unframe answers. -/
def unfL (l : List UInt8) : List (List UInt8) × Nat := if (headsL l).2 = 0 then headsL l else ([], (headsL l).2)

/-- A result of strings and an error. -/
def StrsErr (w : World) (l : List (List UInt8) × Nat) (e : Ending) (w' : World) : Prop :=
  ∃ v, e = .returned (.tuple #[v, .int .i64 l.2]) ∧ w'.ownsRow w.heap.size 9 1 v l.1.length (strs l.1) ∧ Below w.heap.size w w'

theorem StrsErr.mk {w w' : World} {l l' : List (List UInt8)} {er : Nat} {x : List (List UInt8) × Nat} {v : Value} (hx : x = (l, er)) (hl : l = l') (ho : w'.ownsRow w.heap.size 9 1 v l'.length (strs l')) (hb : Below w.heap.size w w') :
    StrsErr w x (.returned (.tuple #[v, .int .i64 er])) w' := by
  subst hx; subst hl; exact ⟨v, rfl, ho, hb⟩
end Go.Proofs.YtgeabmmicofanaaGreatDoor
namespace Go.Proofs.YtgeabmmicofanaaGreatDoor
open Go.RowKit

theorem ret_str {l l' : List UInt8} (h : l = l') : Ending.returned (.string ⟨l.toArray⟩) = Ending.returned (.string ⟨l'.toArray⟩) := by rw [h]

/-- 'string([]byte{b})': a block that was laid just ahead. -/
theorem wpList_string_new {P : Program} {w : World} {ops : Array Oper} {rest : List Oper} {o : Oper} {a : Act} {Q : Exit → Act → World → Prop} (hgd : o.guard = none)
    (src dst e : TypeId) (x : Operand) (ho : o.op = .convert src dst x) (hs : P.underlying src = some (.slice e)) (he : P.underlying e = some (.int .u8)) (hd : P.underlying dst = some .string)
    {u : Value} (b : UInt8) (hu : u = bv b) (hx : a.eval x = .slice (some ⟨w.heap.size, 0, none⟩) 1 1)
    (hK : wpList P ops Q rest (a.put o.dst (.string ⟨#[b]⟩)) (w.alloc (.cells #[u] e))) : wpList P ops Q (o :: rest) a (w.alloc (.cells #[u] e)) := by
  subst hu
  have hown : (w.alloc (.cells #[bv b] e)).ownsRow w.heap.size e 1 (.slice (some ⟨w.heap.size, 0, none⟩) 1 1) 1 (bvs [b]) :=
    ⟨rfl, .inr ⟨w.heap.size, 1, #[bv b], rfl, Nat.le_refl _, heap_alloc_new w _, Nat.le_refl _, by simp [maxLen], rfl, rfl⟩⟩
  exact wpList_string_own hgd src dst e x ho hs he hd _ 1 [b] hx hown hK

set_option maxHeartbeats 800000 in
set_option maxRecDepth 100000 in
theorem refUint_calls (n : Nat) (hn : n < 18446744073709551616) : ∀ w : World,
    Calls Tryz.prog 68 #[.int .u64 n] w fun e w' => e = .returned (.string ⟨(uintL n).toArray⟩) ∧ Below w.heap.size w w' := by
  induction n using Nat.strongRecOn with
  | ind n ih =>
    intro w
    by_cases hlt : n < 128
    · have hv : Value.int .u8 ((n : Int) % 128) = bv (UInt8.ofNat n) := by rw [← bv_lt n hlt]; congr 1; omega
      have HV := Lib.hid hv
      clear hv ih
      go_enter Tryz.func68, Tryz.ntmps68
      (repeat' (first | (go_big_may; (with_reducible (show wpList _ _ _ ({ dst := _, op := Op.convert 93 9 _, type := _, pos := _, after := _, guard := _ } :: _) _ _); go_must (refine wpList_string_new rfl 93 9 5 _ rfl Tryz.underlying93 Tryz.underlying5 Tryz.underlying9 (UInt8.ofNat n) (HV.out) rfl ?_))) | go_values | go_skip | go_guarded | go_step | go_upon | go_back | dsimp only))
      go_ret
      exact ⟨ret_str (uintL_lt hlt).symm, (Below.refl _ _).alloc (Nat.le_refl _) _⟩
    · have HI := Lib.hid (fun w => ih (n / 128) (by omega) (by omega) w)
      obtain ⟨c, hc⟩ : ∃ c, c = UInt8.ofNat (n % 128 + 128) := ⟨_, rfl⟩
      have hv : Value.int .u8 ((n : Int) % 128 + 128) = bv c := by
        have h2 : (UInt8.ofNat (n % 128 + 128)).toNat = n % 128 + 128 := by simp; omega
        rw [bv, hc, h2]; congr 1
      have HV := Lib.hid hv
      have HC := Lib.hid hc
      have hl := uintL_length10 (n := n / 128) (by omega)
      have hcat : ∀ wx : World, (Op.stringOp .add ⟨#[c]⟩ ⟨(uintL (n / 128)).toArray⟩).run Tryz.prog wx = .ok (.string ⟨(c :: uintL (n / 128)).toArray⟩) wx :=
        fun wx => run_string_add_lists wx [c] _ (by simp) (by omega)
      clear ih hv hc hl
      go_enter Tryz.func68, Tryz.ntmps68
      (repeat' (first | (go_big_may; first | (go_at_call 68; refine (HI.out _).mono ?_; rintro e w1 ⟨rfl, hb1⟩) | (with_reducible (show wpList _ _ _ ({ dst := _, op := Op.convert 93 9 _, type := _, pos := _, after := _, guard := _ } :: _) _ _); go_must (refine wpList_string_new rfl 93 9 5 _ rfl Tryz.underlying93 Tryz.underlying5 Tryz.underlying9 (c) (HV.out) rfl ?_))) | go_values | go_skip | go_guarded | go_step | go_upon | go_back | dsimp only))
      go_ret
      exact ⟨ret_str (by rw [uintL_ge hlt, HC.out]), hb1.alloc hb1.size _⟩

end Go.Proofs.YtgeabmmicofanaaGreatDoor
namespace Go.Proofs.YtgeabmmicofanaaGreatDoor
open Go.RowKit

def RdLead (l : List UInt8) (k : Nat) : Prop := k ≤ 10 ∧ k ≤ l.length ∧ (∀ j, j < k → ∀ c, l[j]? = some c → 128 ≤ c.toNat)
theorem RdLead.at {l : List UInt8} {k : Nat} (h : RdLead l k) : ∃ n, RdAt l k n := by
  by_cases h9 : k ≤ 9
  · refine ⟨valU (l.take k), h.1, h.2.1, h.2.2, ?_, fun _ => rfl⟩
    have h1 := valU_lt (l.take k)
    have h2 : (128 : Nat) ^ (l.take k).length ≤ 128 ^ 9 := Nat.pow_le_pow_right (by decide) (by rw [List.length_take]; omega)
    have h3 : (128 : Nat) ^ 9 < 18446744073709551616 := by decide
    omega
  · exact ⟨0, h.1, h.2.1, h.2.2, by decide, fun h => absurd h h9⟩
theorem RdLead.step {l : List UInt8} {k : Nat} {c : UInt8} (h : RdLead l k) (hc : l[k]? = some c) (h128 : (128 : Int) ≤ c.toNat) (hk : k < 10) : RdLead l (k + 1) := by
  have hlt : k < l.length := (List.getElem?_eq_some_iff.1 hc).1
  refine ⟨by omega, by omega, ?_⟩
  intro j hj d hd
  by_cases e : j = k
  · subst e; rw [hc] at hd; cases hd; omega
  · exact h.2.2 j (by omega) d hd

/-- One digit more, from the top down. -/
theorem horner {l : List UInt8} {k j : Nat} {c : UInt8} (h : RdLead l k) (hj : j < k) (hc : l[j]? = some c) : valU ((l.take (k + 1)).drop j) = (c.toNat - 128) + 128 * valU ((l.take (k + 1)).drop (j + 1)) ∧ 128 ≤ c.toNat := by
  have h128 := h.2.2 j hj c hc
  have hlt := c.toNat_lt
  have hx : (l.take (k + 1))[j]? = some c := by rw [List.getElem?_take_of_lt (by omega)]; exact hc
  rw [valU_cons_at hx]
  exact ⟨by omega, h128⟩
theorem horner_top {l : List UInt8} {k : Nat} {c : UInt8} (hc : l[k]? = some c) (h128 : c.toNat < 128) : valU ((l.take (k + 1)).drop k) = c.toNat := by
  have hx : (l.take (k + 1))[k]? = some c := by rw [List.getElem?_take_of_lt (by omega)]; exact hc
  rw [valU_cons_at hx, List.drop_eq_nil_of_le (by rw [List.length_take]; omega)]
  simp [valU]; omega

set_option maxRecDepth 100000 in
set_option maxHeartbeats 800000 in
theorem refReadUint_in (s : ByteArray) (a : Nat) (w : World) (hs : s.size ≤ 9223372036854775807) (ha : a < s.size) :
    Calls Tryz.prog 69 #[.string s, .int .i64 a] w fun e w' => e = .returned (.tuple #[.int .u64 (rdAt s.data.toList a).1, .int .i64 (rdAt s.data.toList a).2.1, .int .i64 (rdAt s.data.toList a).2.2]) ∧ w = w' := by
  have HR := Lib.hid (rdAt_in (l := s.data.toList) (a := a) (by simpa using ha))
  have hc : ∀ k (h : a + k < s.size), (s.data.toList.drop a)[k]? = some s[a + k] := by
    intro k h
    rw [List.getElem?_drop, List.getElem?_eq_getElem (by simpa using h)]
    rfl
  have HC := Lib.hid hc
  have hlen : (s.data.toList.drop a).length = s.size - a := by simp
  have HL := Lib.hid hlen
  clear hc hlen
  have hg1 : decide (s.size ≤ a) = false := by simp; omega
  have hg0 : decide ((a : Int) < 0) = false := by simp
  go_enter Tryz.func69, Tryz.ntmps69
  (repeat' (first | (go_big_may; fail) | go_values | go_skip | go_guarded | go_step | go_upon | go_back | dsimp only))
  go_loop [7] (fun i => ∃ k : Nat, i = .int .i64 k ∧ RdLead (s.data.toList.drop a) k) (fun i => 10 - (intOf i).toNat)
  case atStart => exact ⟨0, rfl, by simp [RdLead]⟩
  case round =>
    obtain ⟨k, rfl, hrel0⟩ := hrel
    have hk : k ≤ 10 := hrel0.1
    obtain ⟨n0, hrd⟩ := hrel0.at
    by_cases h10 : k < 10
    · have hb10 : ((k : Int) == 10) = false := by rw [beq_eq_false_iff_ne]; omega
      by_cases hsh : a + k < s.size
      · have hB := s[a + k].toNat_lt
        have hi1 : (0 : Int) ≤ (a : Int) + k := by omega
        have hi2 : (a : Int) + k < (s.size : Int) := by omega
        have hi3 : (k : Int) < (s.size : Int) - a := by omega
        have H := Lib.hid (HC.out k hsh)
        by_cases h128 : (128 : Int) ≤ s[a + k].toNat
        · (repeat' (first | (go_big_may; fail) | go_values | go_skip | go_guarded | go_step | go_upon | go_back | dsimp only))
          go_round
          case rel => exact ⟨k + 1, by go_num, hrel0.step H.out h128 h10⟩
          case measure => simp [intOf] <;> omega
        · have h127 : (s[a + k].toNat : Int) ≤ 127 := by omega
          by_cases hf1 : k = 9 ∧ 1 < s[a + k].toNat
          · obtain ⟨h9, h1⟩ := hf1
            have h9b : ((k : Int) == 9) = true := by simp; omega
            have h1b : (1 : Int) < s[a + k].toNat := by omega
            have H9 := Lib.hid h9
            clear h9
            (repeat' (first | (go_big_may; fail) | go_values | go_skip | go_guarded | go_step | go_upon | go_back | dsimp only))
            go_ret3
            exact ⟨by rw [HR.out, hrd.form H.out h127 h10 (.inl ⟨H9.out, h1⟩)]; rfl, rfl⟩
          · by_cases hf2 : 0 < k ∧ s[a + k].toNat = 0
            · obtain ⟨h0, hz⟩ := hf2
              have hzb : ((s[a + k].toNat : Int) == 0) = true := by simp; omega
              have h1b : (s[a + k].toNat : Int) ≤ 1 := by omega
              have HZ := Lib.hid hz
              clear hz
              (repeat' (first | (go_big_may; fail) | go_values | go_skip | go_guarded | go_step | go_upon | go_back | dsimp only))
              all_goals go_ret3
              all_goals exact ⟨by rw [HR.out, hrd.form H.out h127 h10 (.inr ⟨h0, HZ.out⟩)]; rfl, rfl⟩
            · have hok := hrd.ok H.out h127 h10 (by omega)
              have HO := Lib.hid hok.1
              have hv64 := (rdU_ok (l := s.data.toList.drop a) (by rw [hok.1])).2.2.2.1
              rw [hok.1] at hv64
              have HT := Lib.hid (horner_top H.out (by omega))
              have HV := Lib.hid hv64
              clear hok hv64
              have hways : (((k : Int) == 9) = true ∧ (s[a + k].toNat : Int) ≤ 1 ∧ (0 : Int) < k ∧ ((s[a + k].toNat : Int) == 0) = false) ∨ (((k : Int) == 9) = false ∧ (0 : Int) < k ∧ ((s[a + k].toNat : Int) == 0) = false) ∨ (((k : Int) == 9) = false ∧ (k : Int) ≤ 0) := by
                simp only [beq_iff_eq, beq_eq_false_iff_ne]
                omega
              clear hf1 hf2
              rcases hways with ⟨w1, w2, w3, w4⟩ | ⟨w1, w2, w3⟩ | ⟨w1, w2⟩
              all_goals
                (repeat' (first | (go_big_may; fail) | go_values | go_skip | go_guarded | go_step | go_upon | go_back | dsimp only))
                go_loop [9, 10] (fun x i => ∃ (j : Nat) (z : Int) (N : Nat), j ≤ k ∧ i = .int .i64 z ∧ z + 1 = j ∧ x = .int .u64 N ∧ N = valU (((s.data.toList.drop a).take (k + 1)).drop j)) (fun _ i => (intOf i + 1).toNat)
                case atStart => exact ⟨k, (k : Int) - 1, _, Nat.le_refl _, rfl, by omega, rfl, HT.out.symm⟩
                case round =>
                  obtain ⟨j, z, N, hj, rfl, hz, rfl, hN⟩ := hrel
                  by_cases h0 : j = 0
                  · have hz0 : z < 0 := by omega
                    subst h0
                    have HN := Lib.hid hN
                    clear hN hz
                    (repeat' (first | (go_big_may; fail) | go_values | go_skip | go_guarded | go_step | go_upon | go_back | dsimp only))
                    go_ret3
                    refine ⟨?_, rfl⟩
                    rw [HR.out, HO.out]
                    exact ret3 (by rw [HN.out]; rfl) (by simp; omega) rfl
                  · obtain ⟨i, rfl⟩ : ∃ i, j = i + 1 := ⟨j - 1, by omega⟩
                    obtain rfl : z = i := by omega
                    have hik : a + i < s.size := by omega
                    obtain ⟨hh, h128i⟩ := horner hrel0 (show i < k by omega) (HC.out i hik)
                    have hle := valU_drop ((s.data.toList.drop a).take (k + 1)) i
                    have hv := HV.out
                    rw [hh, ← hN] at hle
                    have hb1 : (128 : Int) ≤ s[a + i].toNat := by omega
                    have hb2 : (s[a + i].toNat : Int) < 256 := by have := s[a + i].toNat_lt; omega
                    have hb3 : (N : Int) * 128 + (s[a + i].toNat - 128) < 18446744073709551616 := by dsimp only at hv; omega
                    have hb4 : (N : Int) * 128 < 18446744073709551616 := by omega
                    have hi5 : (0 : Int) ≤ (a : Int) + i := by omega
                    have hi6 : (a : Int) + i < (s.size : Int) := by omega
                    rw [← hN] at hh
                    have HH := Lib.hid hh
                    clear hh hN hv hle hz
                    (repeat' (first | (go_big_may; fail) | go_values | go_skip | go_guarded | go_step | go_upon | go_back | dsimp only))
                    go_round
                    case rel => exact ⟨i, (i : Int) - 1, (s[a + i].toNat - 128) + 128 * N, by omega, rfl, by omega, by congr 1; omega, HH.out.symm⟩
                    case measure => simp [intOf] <;> omega
      · have hi3 : (s.size : Int) - a ≤ k := by omega
        (repeat' (first | (go_big_may; fail) | go_values | go_skip | go_guarded | go_step | go_upon | go_back | dsimp only))
        go_ret3
        refine ⟨?_, rfl⟩
        rw [HR.out, hrd.short (by have := HL.out; have := hrel0.2.1; omega) h10]; rfl
    · have hk10 : k = 10 := by omega
      subst hk10
      (repeat' (first | (go_big_may; fail) | go_values | go_skip | go_guarded | go_step | go_upon | go_back | dsimp only))
      go_ret3
      refine ⟨?_, rfl⟩
      rw [HR.out, hrd.long rfl]; rfl

set_option maxHeartbeats 400000 in
theorem refReadUint_out (s : ByteArray) (at_ : Int) (w : World) (hs : s.size ≤ 9223372036854775807) (ha : at_ < 0 ∨ (s.size : Int) ≤ at_) :
    Calls Tryz.prog 69 #[.string s, .int .i64 at_] w fun e w' => e = .returned (.tuple #[.int .u64 0, .int .i64 0, .int .i64 60]) ∧ w = w' := by
  by_cases h0 : at_ < 0
  all_goals
    go_enter Tryz.func69, Tryz.ntmps69
    (repeat' (first | (go_big_may; fail) | go_values | go_skip | go_guarded | go_step | go_upon | go_back | dsimp only))
    go_ret3
    exact ⟨rfl, rfl⟩

theorem refReadUint_calls (s : ByteArray) (at_ : Int) (w : World) (hs : s.size ≤ 9223372036854775807) :
    Calls Tryz.prog 69 #[.string s, .int .i64 at_] w fun e w' => e = .returned (.tuple #[.int .u64 (rdAt s.data.toList at_).1, .int .i64 (rdAt s.data.toList at_).2.1, .int .i64 (rdAt s.data.toList at_).2.2]) ∧ w = w' := by
  by_cases h : at_ < 0 ∨ (s.size : Int) ≤ at_
  · refine (refReadUint_out s at_ w hs h).mono ?_
    rintro e w' ⟨rfl, rfl⟩
    have : rdAt s.data.toList at_ = (0, 0, 60) := by
      unfold rdAt
      rw [if_pos (by simpa using h)]
    rw [this]
    exact ⟨rfl, rfl⟩
  · obtain ⟨a, rfl⟩ := Int.eq_ofNat_of_zero_le (show 0 ≤ at_ by omega)
    exact refReadUint_in s a w hs (by omega)

theorem refReadUint_is (s : ByteArray) (at_ : Int) (w : World) (hs : s.size ≤ 9223372036854775807) {n : Nat} {k : Int} {er : Nat} (hr : rdAt s.data.toList at_ = (n, k, er)) :
    Calls Tryz.prog 69 #[.string s, .int .i64 at_] w fun e w' => e = .returned (.tuple #[.int .u64 n, .int .i64 k, .int .i64 er]) ∧ w = w' := by
  have := refReadUint_calls s at_ w hs
  rwa [hr] at this

set_option maxHeartbeats 1600000 in
theorem Heads_calls (s : ByteArray) (w : World) (hs : s.size ≤ 8796093022208) :
    Calls Tryz.prog 49 #[.string s] w (StrsErr w (headsL s.data.toList)) := by
  have hlen : s.data.toList.length = s.size := by simp
  have HL := Lib.hid hlen
  clear hlen
  go_enter Tryz.func49, Tryz.ntmps49
  (repeat' (first | (go_big_may; fail) | go_values | go_skip | go_guarded | go_step | go_upon | go_back | dsimp only))
  go_loopw [4, 5] (fun v i wr => ∃ a acc, i = .int .i64 (a : Nat) ∧ HeadsAt s.data.toList a acc ∧ wr.ownsRow w.heap.size 9 1 v acc.length (strs acc) ∧ Below w.heap.size w wr) (fun _ i _ => s.size - (intOf i).toNat)
  case atStart => exact ⟨0, [], rfl, HeadsAt.start _, World.ownsRow_nil _ _ _ _, Below.refl _ _⟩
  case round =>
    obtain ⟨a, acc, rfl, hat, hown, hbel⟩ := hrel
    have hB : w.heap.size ≤ wr.heap.size := hbel.size
    have ha : a ≤ s.size := by have := HL.out; have := hat.1; omega
    have hacc : acc.length ≤ a := hat.2.1
    by_cases hlt : a < s.size
    · obtain ⟨n, k, er, hr⟩ : ∃ n k er, rdAt s.data.toList a = (n, k, er) := ⟨_, _, _, rfl⟩
      have HR := Lib.hid hr
      have HN := Lib.hid (nextAt_of hr)
      have hx : a < s.data.toList.length := by rw [HL.out]; exact hlt
      by_cases her : er = 0
      · subst her
        have hok := rdAt_ok (l := s.data.toList) (a := a) (by rw [hr])
        rw [hr] at hok
        obtain ⟨_, hn64, hk1, _, hk2⟩ := hok
        rw [HL.out] at hk2
        dsimp only at hk1 hk2 hn64
        obtain ⟨k, rfl⟩ := Int.eq_ofNat_of_zero_le (show 0 ≤ k by omega)
        have HX := Lib.hid hx
        clear hr hx
        by_cases h255 : 255 < n
        · (repeat' (first | (go_big_may; (go_at_call 69; go_must (refine (refReadUint_is s a _ (by omega) HR.out).mono ?_); rintro e w' ⟨rfl, rfl⟩)) | go_values | go_skip | go_guarded | go_step | go_upon | go_back | dsimp only))
          go_ret2
          have e : nextAt s.data.toList a = ([], 0, 62) := by rw [HN.out, if_neg (by simp), if_pos h255]
          have hf := hat.fault HX.out (by rw [e]; decide)
          rw [e] at hf
          exact StrsErr.mk hf rfl hown hbel
        · by_cases h60 : (s.size : Int) - k < n
          · (repeat' (first | (go_big_may; (go_at_call 69; go_must (refine (refReadUint_is s a _ (by omega) HR.out).mono ?_); rintro e w' ⟨rfl, rfl⟩)) | go_values | go_skip | go_guarded | go_step | go_upon | go_back | dsimp only))
            go_ret2
            have e : nextAt s.data.toList a = ([], 0, 60) := by rw [HN.out, if_neg (by simp), if_neg h255, if_pos (by rw [HL.out]; exact h60)]
            have hf := hat.fault HX.out (by rw [e]; decide)
            rw [e] at hf
            exact StrsErr.mk hf rfl hown hbel
          · have e : nextAt s.data.toList a = ((s.data.toList.drop k).take n, ((k + n : Nat) : Int), 0) := by rw [HN.out, if_neg (by simp), if_neg h255, if_neg (by rw [HL.out]; exact h60)]; rfl
            have hnx := hat.next HX.out (by rw [e])
            rw [e] at hnx
            have HZ := Lib.hid hnx
            have hex : s.extract k (k + n) = ⟨((s.data.toList.drop k).take n).toArray⟩ := by rw [Lib.extract_eq, Nat.add_sub_cancel_left]
            have HE := Lib.hid hex
            have hkn : k + n ≤ s.size := by omega
            clear e hnx hat hex
            (repeat' (first | (go_big_may; first | (go_at_call 69; go_must (refine (refReadUint_is s a _ (by omega) HR.out).mono ?_); rintro e w' ⟨rfl, rfl⟩) | (at_builtin; go_must (refine wpList_append_new rfl _ _ 32 9 rfl Tryz.underlying32 info_str rfl (by decide) rfl hown rfl rfl (one_str _) (by omega) (by unfold maxLen; omega) (by omega) ?_); intro v1 w1 hown1 hgrow1 _)) | go_values | go_skip | go_guarded | go_step | go_upon | go_back | dsimp only))
            go_roundw
            case rel => exact ⟨k + n, acc ++ [(s.data.toList.drop k).take n], by go_num, HZ.out, by rw [HE.out] at hown1; simpa using hown1, grownOwn hbel hB hown hgrow1⟩
            case measure => simp [intOf] <;> omega
      · have hb : ((er : Int) != 0) = true := by simpa using her
        have hf := hat.fault hx (by rw [nextAt_of hr, if_pos her]; exact her)
        rw [nextAt_of hr, if_pos her] at hf
        have HX := Lib.hid hf
        clear hr hx hf
        (repeat' (first | (go_big_may; (go_at_call 69; go_must (refine (refReadUint_is s a _ (by omega) HR.out).mono ?_); rintro e w' ⟨rfl, rfl⟩)) | go_values | go_skip | go_guarded | go_step | go_upon | go_back | dsimp only))
        go_ret2
        exact StrsErr.mk HX.out rfl hown hbel
    · (repeat' (first | (go_big_may; fail) | go_values | go_skip | go_guarded | go_step | go_upon | go_back | dsimp only))
      go_ret2
      exact StrsErr.mk (hat.done (by rw [HL.out]; exact hlt)) rfl hown hbel

end Go.Proofs.YtgeabmmicofanaaGreatDoor
