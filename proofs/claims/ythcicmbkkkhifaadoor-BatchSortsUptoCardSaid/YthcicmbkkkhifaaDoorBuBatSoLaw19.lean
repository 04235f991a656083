/- record.next, Unframe walked. -/
import Derived.Test.YthcicmbkkkhifaaDoorBuBatSoLaw18
import Derived.Lib.Strings
set_option linter.unusedSimpArgs false
set_option linter.unusedVariables false
namespace Go.Proofs.YthcicmbkkkhifaaDoor
open Go.RowKit

theorem ReadUint_is (s : ByteArray) (at_ : Int) (w : World) (hs : s.size ≤ 9223372036854775807) {n : Nat} {k : Int} {er : Nat} (hr : rdAt s.data.toList at_ = (n, k, er)) :
    Calls Tryd.prog 39 #[.string s, .int .i64 at_] w fun e w' => e = .returned (.tuple #[.int .u64 n, .int .i64 k, .int .i64 er]) ∧ w = w' := by
  have := ReadUint_calls s at_ w hs
  rwa [hr] at this

theorem nextAt_of {l : List UInt8} {a : Int} {n : Nat} {k : Int} {er : Nat} (hr : rdAt l a = (n, k, er)) :
    nextAt l a = if er ≠ 0 then ([], 0, er) else if 255 < n then ([], 0, 62) else if (l.length : Int) - k < n then ([], 0, 60) else ((l.drop k.toNat).take n, k + n, 0) := by
  unfold nextAt; rw [hr]

set_option maxHeartbeats 400000 in
theorem next_calls (s : ByteArray) (at_ : Int) (w : World) (hs : s.size ≤ 9223372036854775807) :
    Calls Tryd.prog 28 #[.string s, .int .i64 at_] w fun e w' => e = .returned (.tuple #[.string ⟨(nextAt s.data.toList at_).1.toArray⟩, .int .i64 (nextAt s.data.toList at_).2.1, .int .i64 (nextAt s.data.toList at_).2.2]) ∧ w = w' := by
  obtain ⟨n, k, er, hr⟩ : ∃ n k er, rdAt s.data.toList at_ = (n, k, er) := ⟨_, _, _, rfl⟩
  have HN := Lib.hid (nextAt_of hr)
  have HR := Lib.hid hr
  have hok : er = 0 → 0 ≤ k ∧ k ≤ s.size ∧ n < 18446744073709551616 := by
    intro h
    have := rdAt_ok (l := s.data.toList) (a := at_) (by rw [hr]; exact h)
    rw [hr] at this
    simp at this
    omega
  have HK := Lib.hid hok
  clear hr hok
  by_cases her : er = 0
  · subst her
    obtain ⟨hk0, hk1, hn1⟩ := HK.out rfl
    obtain ⟨k, rfl⟩ := Int.eq_ofNat_of_zero_le hk0
    clear HK
    go_enter Tryd.func28, Tryd.ntmps28
    (repeat' (first | (go_big_may; (go_at_call 39; refine (ReadUint_is s at_ _ hs HR.out).mono ?_; rintro e w' ⟨rfl, rfl⟩)) | go_values | go_skip | go_guarded | go_step | go_upon | go_back | dsimp only))
    all_goals go_ret3
    · exact ⟨by rw [HN.out]; simp only [ne_eq, not_true_eq_false, if_false]; rw [if_pos (by omega)]; rfl, rfl⟩
    · exact ⟨by rw [HN.out]; simp only [ne_eq, not_true_eq_false, if_false]; rw [if_neg (by omega), if_pos (by simp; omega)]; rfl, rfl⟩
    · refine ⟨?_, rfl⟩
      rw [HN.out]; simp only [ne_eq, not_true_eq_false, if_false]; rw [if_neg (by omega), if_neg (by simp; omega)]
      rw [show (k : Int).toNat = k from rfl]
      have hx : s.extract k (k + n) = ⟨((s.data.toList.drop k).take n).toArray⟩ := by rw [Lib.extract_eq, Nat.add_sub_cancel_left]
      rw [← hx]
      rfl
  · have hb : ((er : Int) != 0) = true := by simpa using her
    go_enter Tryd.func28, Tryd.ntmps28
    (repeat' (first | (go_big_may; (go_at_call 39; refine (ReadUint_is s at_ _ hs HR.out).mono ?_; rintro e w' ⟨rfl, rfl⟩)) | go_values | go_skip | go_guarded | go_step | go_upon | go_back | dsimp only))
    go_ret3
    exact ⟨by rw [HN.out, if_pos her]; rfl, rfl⟩

theorem next_is (s : ByteArray) (at_ : Int) (w : World) (hs : s.size ≤ 9223372036854775807) {r : List UInt8} {k : Int} {er : Nat} (hr : nextAt s.data.toList at_ = (r, k, er)) :
    Calls Tryd.prog 28 #[.string s, .int .i64 at_] w fun e w' => e = .returned (.tuple #[.string ⟨r.toArray⟩, .int .i64 k, .int .i64 er]) ∧ w = w' := by
  have := next_calls s at_ w hs
  rwa [hr] at this

theorem info_str : (Tryd.prog.info? 9).map (fun i => (i.zero, i.size, i.bytes)) = some (some (.string ⟨#[]⟩), 1, 16) := by kernel_rfl

/-- What Unframe answers. -/
def unfL (l : List UInt8) : List (List UInt8) × Nat := if (headsL l).2 = 0 then headsL l else ([], (headsL l).2)

/-- A result of strings and an error. -/
def StrsErr (w : World) (l : List (List UInt8) × Nat) (e : Ending) (w' : World) : Prop :=
  ∃ v, e = .returned (.tuple #[v, .int .i64 l.2]) ∧ w'.ownsRow w.heap.size 9 1 v l.1.length (strs l.1) ∧ Below w.heap.size w w'

theorem StrsErr.mk {w w' : World} {l l' : List (List UInt8)} {er : Nat} {x : List (List UInt8) × Nat} {v : Value} (hx : x = (l, er)) (hl : l = l') (ho : w'.ownsRow w.heap.size 9 1 v l'.length (strs l')) (hb : Below w.heap.size w w') :
    StrsErr w x (.returned (.tuple #[v, .int .i64 er])) w' := by
  subst hx; subst hl; exact ⟨v, rfl, ho, hb⟩
theorem unfL_ok {l : List UInt8} {acc : List (List UInt8)} (h : headsL l = (acc, 0)) : unfL l = (acc, 0) := by unfold unfL; rw [h]; rfl
theorem unfL_err {l : List UInt8} {acc : List (List UInt8)} {er : Nat} (h : headsL l = (acc, er)) (he : er ≠ 0) : unfL l = ([], er) := by unfold unfL; rw [h]; exact if_neg he

set_option maxHeartbeats 800000 in
theorem Unframe_calls (s : ByteArray) (w : World) (hs : s.size ≤ 8796093022208) :
    Calls Tryd.prog 18 #[.string s] w (StrsErr w (unfL s.data.toList)) := by
  have hlen : s.data.toList.length = s.size := by simp
  have HL := Lib.hid hlen
  clear hlen
  go_enter Tryd.func18, Tryd.ntmps18
  (repeat' (first | (go_big_may; fail) | go_values | go_skip | go_guarded | go_step | go_upon | go_back | dsimp only))
  go_loopw [4, 5] (fun v i wr => ∃ a acc, i = .int .i64 (a : Nat) ∧ HeadsAt s.data.toList a acc ∧ wr.ownsRow w.heap.size 9 1 v acc.length (strs acc) ∧ Below w.heap.size w wr) (fun _ i _ => s.size - (intOf i).toNat)
  case atStart => exact ⟨0, [], rfl, HeadsAt.start _, World.ownsRow_nil _ _ _ _, Below.refl _ _⟩
  case round =>
    obtain ⟨a, acc, rfl, hat, hown, hbel⟩ := hrel
    have hB : w.heap.size ≤ wr.heap.size := hbel.size
    have ha : a ≤ s.size := by have := HL.out; have := hat.1; omega
    have hacc : acc.length ≤ a := hat.2.1
    by_cases hlt : a < s.size
    · obtain ⟨r, k, er, hr⟩ : ∃ r k er, nextAt s.data.toList a = (r, k, er) := ⟨_, _, _, rfl⟩
      have HN := Lib.hid hr
      have hx : a < s.data.toList.length := by rw [HL.out]; exact hlt
      by_cases her : er = 0
      · subst her
        have hok := nextAt_ok (l := s.data.toList) (a := a) (by rw [hr])
        have hnx := hat.next hx (by rw [hr])
        rw [hr] at hok hnx
        obtain ⟨_, hk1, hk2, hk3⟩ := hok
        rw [HL.out] at hk2
        dsimp only at hk1 hk2 hk3
        obtain ⟨k, rfl⟩ := Int.eq_ofNat_of_zero_le (show 0 ≤ k by omega)
        clear hr hx
        have HX := Lib.hid hnx
        clear hnx hat
        (repeat' (first | (go_big_may; first | (go_at_call 28; refine (next_is s a _ (by omega) HN.out).mono ?_; rintro e w' ⟨rfl, rfl⟩) | (at_builtin; go_must (refine wpList_append_new rfl _ _ 22 9 rfl Tryd.underlying22 info_str rfl (by decide) rfl hown rfl rfl (one_str _) (by omega) (by unfold maxLen; omega) (by omega) ?_); intro v1 w1 hown1 hgrow1 _)) | go_values | go_skip | go_guarded | go_step | go_upon | go_back | dsimp only))
        go_roundw
        case rel => exact ⟨k, acc ++ [r], rfl, HX.out, by simpa using hown1, grownOwn hbel hB hown hgrow1⟩
        case measure => simp [intOf] <;> omega
      · have hb : ((er : Int) != 0) = true := by simpa using her
        have hf := hat.fault hx (by rw [hr]; exact her)
        rw [hr] at hf
        have HX := Lib.hid hf
        clear hr hx hf
        (repeat' (first | (go_big_may; go_at_call 28; refine (next_is s a _ (by omega) HN.out).mono ?_; rintro e w' ⟨rfl, rfl⟩) | go_values | go_skip | go_guarded | go_step | go_upon | go_back | dsimp only))
        go_ret2
        exact StrsErr.mk (unfL_err HX.out her) rfl (World.ownsRow_nil _ _ _ _) hbel
    · (repeat' (first | (go_big_may; fail) | go_values | go_skip | go_guarded | go_step | go_upon | go_back | dsimp only))
      go_ret2
      exact StrsErr.mk (unfL_ok (hat.done (by rw [HL.out]; exact hlt))) rfl hown hbel
end Go.Proofs.YthcicmbkkkhifaaDoor
