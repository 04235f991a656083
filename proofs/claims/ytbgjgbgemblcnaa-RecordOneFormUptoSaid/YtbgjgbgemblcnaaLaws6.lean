/- The laws of layer 6 walked: RecordNumbers, RecordFrames, RecordNumbersRead. -/
import Derived.Test.YtbgjgbgemblcnaaLaw6
import Derived.Test.YtbgjgbgemblcnaaOpen
import Derived.Deep.RegionHeld3
namespace Go.Proofs.Ytbgjgbgemblcnaa
open Go.RowKit

set_option maxHeartbeats 400000 in
theorem recordNumbers_walk (w : World) (n : Nat) (hn : n < 18446744073709551616) :
    Calls Try.prog 3 #[.int .u64 n] w fun e w' => e = .returned (.bool true) ∧ Below w.heap.size w w' := by
  go_enter Try.func3, Try.ntmps3
  (repeat' (first | (go_big_may; fail) | go_values | go_skip | go_guarded | go_step | go_upon | go_back | dsimp only))
  refine (wakes_calls _).mono ?_
  rintro e w1 ⟨rfl, hb1⟩
  (repeat' (first | (go_big_may; fail) | go_values | go_skip | go_guarded | go_step | go_upon | go_back | dsimp only))
  refine (Uint_calls n hn _).mono ?_
  rintro e w2 ⟨rfl, hb2⟩
  (repeat' (first | (go_big_may; fail) | go_values | go_skip | go_guarded | go_step | go_upon | go_back | dsimp only))
  refine (refUint_calls n hn _).mono ?_
  rintro e w3 ⟨rfl, hb3⟩
  (repeat' (first | (go_big_may; fail) | go_values | go_skip | go_guarded | go_step | go_upon | go_back | dsimp only))
  go_ret
  exact ⟨rfl, hb1.trans ((hb2.mono hb1.size).trans (hb3.mono (Nat.le_trans hb1.size hb2.size)))⟩

set_option maxHeartbeats 400000 in
theorem recordNumbersRead_walk (w : World) (s : ByteArray) (hs : s.size ≤ maxLen) (a : Int) (_ : -9223372036854775808 ≤ a ∧ a ≤ 9223372036854775807) :
    Calls Try.prog 5 #[.string s, .int .i64 a] w fun e w' => e = .returned (.bool true) ∧ Below w.heap.size w w' := by
  obtain ⟨n, k, er, hr⟩ : ∃ n k er, rdAt s.data.toList a = (n, k, er) := ⟨_, _, _, rfl⟩
  have hs' : s.size ≤ 9223372036854775807 := hs
  have HR := Lib.hid hr
  clear hr hs
  go_enter Try.func5, Try.ntmps5
  (repeat' (first | (go_big_may; first | (go_at_call 15; go_must (refine (ReadUint_is s a _ hs' HR.out).mono ?_); rintro e w' ⟨rfl, rfl⟩) | (go_at_call 16; go_must (refine (refReadUint_is s a _ hs' HR.out).mono ?_); rintro e w' ⟨rfl, rfl⟩) | (go_at_call 9; refine (wakes_calls _).mono ?_; rintro e w1 ⟨rfl, hb1⟩)) | go_values | go_skip | go_guarded | go_step | go_upon | go_back | dsimp only))
  go_ret
  exact ⟨rfl, hb1⟩

theorem frameL_le (ss : List (List UInt8)) (h : ss.length + sumLen ss ≤ 1048576) : (frameL ss).length ≤ 10 * 1048576 := by
  have key : ∀ l : List (List UInt8), sumLen l ≤ 1048576 → (frameL l).length ≤ sumLen l + 10 * l.length := by
    intro l
    induction l with
    | nil => intro _; simp [frameL]
    | cons r rs ih =>
      intro hl
      have e : sumLen (r :: rs) = r.length + sumLen rs := by simp [sumLen]
      have := ih (by omega)
      have := uintL_length10 (n := r.length) (by omega)
      simp only [frameL, List.length_append, List.length_cons]
      omega
  have := key ss (by omega)
  omega

set_option maxHeartbeats 400000 in
theorem recordFrames_walk (w : World) (ss : List (List UInt8)) (v : Value) (hv : RdRow w v ss.length 1 (strs ss)) (hk : ss.length + sumLen ss ≤ 1048576) :
    Calls Try.prog 4 #[v] w fun e w' => e = .returned (.bool true) ∧ Below w.heap.size w w' := by
  obtain ⟨l, er, hr⟩ : ∃ l er, frameR ss = (l, er) := ⟨_, _, rfl⟩
  have hle := frameL_le ss hk
  have HR := Lib.hid hr
  have HV := Lib.hid hv
  clear hr hv
  go_enter Try.func4, Try.ntmps4
  (repeat' (first | (go_big_may; fail) | go_values | go_skip | go_guarded | go_step | go_upon | go_back | dsimp only))
  refine (twin_calls ss v _ HV.out (by omega)).mono ?_
  rintro e w1 ⟨v1, rfl, hown1, hb1⟩
  (repeat' (first | (go_big_may; fail) | go_values | go_skip | go_guarded | go_step | go_upon | go_back | dsimp only))
  have hF := Frame_calls ss v1 w1 (RdRow.of_own hown1) (by omega)
  rw [HR.out] at hF
  refine hF.mono ?_
  rintro e w2 ⟨rfl, hb2⟩
  have hB2 : Below w.heap.size w w2 := hb1.trans (hb2.mono hb1.size)
  clear hF
  (repeat' (first | (go_big_may; fail) | go_values | go_skip | go_guarded | go_step | go_upon | go_back | dsimp only))
  have hG := refFrame_calls ss v w2 (HV.out.below hB2) (by omega)
  rw [HR.out] at hG
  refine hG.mono ?_
  rintro e w3 ⟨rfl, hb3⟩
  have hB3 : Below w.heap.size w w3 := hB2.trans (hb3.mono hB2.size)
  clear hG
  (repeat' (first | (go_big_may; fail) | go_values | go_skip | go_guarded | go_step | go_upon | go_back | dsimp only))
  refine (wakes_calls _).mono ?_
  rintro e w4 ⟨rfl, hb4⟩
  (repeat' (first | (go_big_may; fail) | go_values | go_skip | go_guarded | go_step | go_upon | go_back | dsimp only))
  go_ret
  exact ⟨rfl, hB3.trans (hb4.mono hB3.size)⟩

set_option maxHeartbeats 400000 in
theorem recordUnframes_walk (w : World) (s : ByteArray) (hs : s.size ≤ 1048576) :
    Calls Try.prog 7 #[.string s] w fun e w' => e = .returned (.bool true) ∧ Below w.heap.size w w' := by
  obtain ⟨l, er, hr⟩ : ∃ l er, unfL s.data.toList = (l, er) := ⟨_, _, rfl⟩
  have HR := Lib.hid hr
  clear hr
  go_enter Try.func7, Try.ntmps7
  (repeat' (first | (go_big_may; fail) | go_values | go_skip | go_guarded | go_step | go_upon | go_back | dsimp only))
  refine (Unframe_calls s _ (by omega)).mono ?_
  rintro e w1 ⟨v1, rfl, hown1, hb1⟩
  rw [HR.out] at hown1 ⊢
  (repeat' (first | (go_big_may; fail) | go_values | go_skip | go_guarded | go_step | go_upon | go_back | dsimp only))
  refine (refUnframe_calls s _ (by omega)).mono ?_
  rintro e w2 ⟨v2, rfl, hown2, hb2⟩
  rw [HR.out] at hown2 ⊢
  have hr1 := (RdRow.of_own hown1).below hb2
  have hr2 := RdRow.of_own hown2
  have hB2 := hb1.trans (hb2.mono hb1.size)
  (repeat' (first | (go_big_may; fail) | go_values | go_skip | go_guarded | go_step | go_upon | go_back | dsimp only))
  refine (wakes_calls _).mono ?_
  rintro e w3 ⟨rfl, hb3⟩
  have hB3 := hB2.trans (hb3.mono hB2.size)
  have hr1 := hr1.below hb3
  have hr2 := hr2.below hb3
  (repeat' (first | (go_big_may; fail) | go_values | go_skip | go_guarded | go_step | go_upon | go_back | dsimp only))
  refine (list_calls l l v1 v2 w3 hr1 hr2).mono ?_
  rintro e w4 ⟨rfl, hb4⟩
  have hd : decide (l = l) = true := by simp
  rw [hd]
  (repeat' (first | (go_big_may; fail) | go_values | go_skip | go_guarded | go_step | go_upon | go_back | dsimp only))
  go_ret
  exact ⟨rfl, hB3.trans (hb4.mono hB3.size)⟩

theorem fits_iff (ss : List (List UInt8)) : fits ss = ((frameR ss).2 == 0) := by
  unfold frameR
  cases h : fits ss <;> simp

set_option maxRecDepth 100000 in
set_option maxHeartbeats 1600000 in
theorem recordBack_walk (w : World) (ss : List (List UInt8)) (v : Value) (hv : RdRow w v ss.length 1 (strs ss)) (hk : ss.length + sumLen ss ≤ 1048576) (s : ByteArray) (hs : s.size ≤ 1048576) :
    Calls Try.prog 8 #[v, .string s] w fun e w' => e = .returned (.bool true) ∧ Below w.heap.size w w' := by
  have hle := frameL_le ss hk
  obtain ⟨a, cap, rfl, hc1, hc2⟩ := hv.shape
  unfold maxLen at hc2
  have HV := Lib.hid hv
  clear hv
  go_enter Try.func8, Try.ntmps8
  (repeat' (first | (go_big_may; fail) | go_values | go_skip | go_guarded | go_step | go_upon | go_back | dsimp only))
  refine (wakes_calls _).mono ?_
  rintro e w1 ⟨rfl, hb1⟩
  (repeat' (first | (go_big_may; fail) | go_values | go_skip | go_guarded | go_step | go_upon | go_back | dsimp only))
  go_loop [5, 18] (fun f i => ∃ k : Nat, i = .int .i64 k ∧ k ≤ ss.length ∧ f = .bool (fits (ss.take k))) (fun _ i => ss.length - (intOf i).toNat)
  case atStart => exact ⟨0, rfl, Nat.zero_le _, rfl⟩
  case round =>
    obtain ⟨k, rfl, hk1, rfl⟩ := hrel
    by_cases hlt : k < ss.length
    · obtain ⟨r, hr⟩ : ∃ r, ss[k]? = some r := ⟨_, List.getElem?_eq_getElem hlt⟩
      obtain ⟨b, off, cap', hsl, hcell⟩ := (HV.out.below hb1).str hr
      cases hsl
      have hf : fits (ss.take (k + 1)) = (fits (ss.take k) && decide (r.length ≤ 255)) := by
        obtain ⟨hk2, rfl⟩ := List.getElem?_eq_some_iff.1 hr
        rw [List.take_succ_eq_append_getElem hk2]
        unfold fits
        rw [List.all_append]
        simp
      have HF := Lib.hid hf
      clear hr hf
      cases hb : fits (ss.take k)
      · (repeat' (first | (go_big_may; fail) | go_values | go_skip | go_guarded | go_step | go_upon | go_back | dsimp only))
        go_round
        case rel => exact ⟨k + 1, by go_num, by omega, by rw [HF.out, hb]; rfl⟩
        case measure => simp [intOf] <;> omega
      · (repeat' (first | (go_big_may; fail) | go_values | go_skip | go_guarded | go_step | go_upon | go_back | dsimp only))
        go_round
        case rel => exact ⟨k + 1, by go_num, by omega, by rw [HF.out, hb, Bool.true_and]; congr 1; rw [decide_eq_decide]; omega⟩
        case measure => simp [intOf] <;> omega
    · have hkl : k = ss.length := by omega
      rw [hkl, List.take_length]
      clear hlt hk1 hkl
      (repeat' (first | (go_big_may; fail) | go_values | go_skip | go_guarded | go_step | go_upon | go_back | dsimp only))
      refine (twin_calls ss _ _ (HV.out.below hb1) (by omega)).mono ?_
      rintro e w2 ⟨v2, rfl, hown2, hb2⟩
      have hB2 := hb1.trans (hb2.mono hb1.size)
      (repeat' (first | (go_big_may; fail) | go_values | go_skip | go_guarded | go_step | go_upon | go_back | dsimp only))
      obtain ⟨t, er, hr⟩ : ∃ t er, frameR ss = (t, er) := ⟨_, _, rfl⟩
      have hF := Frame_calls ss v2 w2 (RdRow.of_own hown2) (by omega)
      rw [hr] at hF
      refine hF.mono ?_
      rintro e w3 ⟨rfl, hb3⟩
      have hB3 := hB2.trans (hb3.mono hB2.size)
      clear hF
      -- the second half: s is unframed and framed again
      cases hfit : fits ss
      · have her : er = 62 := by unfold frameR at hr; rw [hfit] at hr; cases hr; rfl
        subst her
        clear hr hfit
        (repeat' (first | (go_big_may; fail) | go_values | go_skip | go_guarded | go_step | go_upon | go_back | dsimp only))
        obtain ⟨l, er, hl⟩ : ∃ l er, headsL s.data.toList = (l, er) := ⟨_, _, rfl⟩
        by_cases her : er = 0
        · subst her
          obtain ⟨hfl, hfi⟩ := frameL_heads hl
          have hu := unfL_ok hl
          have hfr : frameR l = (s.data.toList, 0) := by unfold frameR; rw [hfi, hfl]; rfl
          have hll : (frameL l).length ≤ 1048576 := by rw [hfl]; simpa using hs
          clear hl hfl hfi
          refine (Unframe_calls s _ (by omega)).mono ?_
          rintro e w5 ⟨v5, rfl, hown5, hb5⟩
          rw [hu] at hown5 ⊢
          have hB5 := hB3.trans (hb5.mono hB3.size)
          have HFR := Lib.hid hfr
          clear hu hfr
          (repeat' (first | (go_big_may; fail) | go_values | go_skip | go_guarded | go_step | go_upon | go_back | dsimp only))
          have hG := Frame_calls l v5 w5 (RdRow.of_own hown5) (by omega)
          rw [HFR.out] at hG
          refine hG.mono ?_
          rintro e w6 ⟨rfl, hb6⟩
          clear hG
          have hB6 := hB5.trans (hb6.mono hB5.size)
          (repeat' (first | (go_big_may; fail) | go_values | go_skip | go_guarded | go_step | go_upon | go_back | dsimp only))
          go_ret
          exact ⟨rfl, hB6⟩
        · have hu := unfL_err hl her
          have hbb : ((er : Int) != 0) = true := by simpa using her
          clear hl
          refine (Unframe_calls s _ (by omega)).mono ?_
          rintro e w5 ⟨v5, rfl, hown5, hb5⟩
          rw [hu] at hown5 ⊢
          have hB5 := hB3.trans (hb5.mono hB3.size)
          obtain ⟨a5, c5, rfl, _, _⟩ := (RdRow.of_own hown5).shape
          clear hu
          (repeat' (first | (go_big_may; fail) | go_values | go_skip | go_guarded | go_step | go_upon | go_back | dsimp only))
          go_ret
          exact ⟨rfl, hB5⟩
      · have her : er = 0 ∧ t = frameL ss := by unfold frameR at hr; rw [hfit] at hr; cases hr; exact ⟨rfl, rfl⟩
        obtain ⟨rfl, rfl⟩ := her
        have hu0 : unfL (⟨(frameL ss).toArray⟩ : ByteArray).data.toList = (ss, 0) := unfL_ok (by simpa using headsL_frame hfit)
        clear hr hfit
        (repeat' (first | (go_big_may; fail) | go_values | go_skip | go_guarded | go_step | go_upon | go_back | dsimp only))
        refine (Unframe_calls ⟨(frameL ss).toArray⟩ _ (by simp [ByteArray.size]; omega)).mono ?_
        rintro e w4 ⟨v4, rfl, hown4, hb4⟩
        rw [hu0] at hown4 ⊢
        have hB4 := hB3.trans (hb4.mono hB3.size)
        clear hu0
        (repeat' (first | (go_big_may; fail) | go_values | go_skip | go_guarded | go_step | go_upon | go_back | dsimp only))
        refine (list_calls ss ss _ _ w4 (RdRow.of_own hown4) (HV.out.below hB4)).mono ?_
        rintro e w4' ⟨rfl, hb4'⟩
        have hB4' := hB4.trans (hb4'.mono hB4.size)
        rw [show decide (ss = ss) = true from by simp]
        (repeat' (first | (go_big_may; fail) | go_values | go_skip | go_guarded | go_step | go_upon | go_back | dsimp only))
        obtain ⟨l, er, hl⟩ : ∃ l er, headsL s.data.toList = (l, er) := ⟨_, _, rfl⟩
        by_cases her : er = 0
        · subst her
          obtain ⟨hfl, hfi⟩ := frameL_heads hl
          have hu := unfL_ok hl
          have hfr : frameR l = (s.data.toList, 0) := by unfold frameR; rw [hfi, hfl]; rfl
          have hll : (frameL l).length ≤ 1048576 := by rw [hfl]; simpa using hs
          clear hl hfl hfi
          refine (Unframe_calls s _ (by omega)).mono ?_
          rintro e w5 ⟨v5, rfl, hown5, hb5⟩
          rw [hu] at hown5 ⊢
          have hB5 := hB4'.trans (hb5.mono hB4'.size)
          have HFR := Lib.hid hfr
          clear hu hfr
          (repeat' (first | (go_big_may; fail) | go_values | go_skip | go_guarded | go_step | go_upon | go_back | dsimp only))
          have hG := Frame_calls l v5 w5 (RdRow.of_own hown5) (by omega)
          rw [HFR.out] at hG
          refine hG.mono ?_
          rintro e w6 ⟨rfl, hb6⟩
          clear hG
          have hB6 := hB5.trans (hb6.mono hB5.size)
          (repeat' (first | (go_big_may; fail) | go_values | go_skip | go_guarded | go_step | go_upon | go_back | dsimp only))
          go_ret
          exact ⟨rfl, hB6⟩
        · have hu := unfL_err hl her
          have hbb : ((er : Int) != 0) = true := by simpa using her
          clear hl
          refine (Unframe_calls s _ (by omega)).mono ?_
          rintro e w5 ⟨v5, rfl, hown5, hb5⟩
          rw [hu] at hown5 ⊢
          have hB5 := hB4'.trans (hb5.mono hB4'.size)
          obtain ⟨a5, c5, rfl, _, _⟩ := (RdRow.of_own hown5).shape
          clear hu
          (repeat' (first | (go_big_may; fail) | go_values | go_skip | go_guarded | go_step | go_upon | go_back | dsimp only))
          go_ret
          exact ⟨rfl, hB5⟩

theorem rdAt_err {l : List UInt8} {a : Int} {n : Nat} {k : Int} {er : Nat} (h : rdAt l a = (n, k, er)) (he : er ≠ 0) : n = 0 ∧ k = 0 := by
  unfold rdAt at h
  split at h
  · cases h; exact ⟨rfl, rfl⟩
  · dsimp only at h
    split at h
    · cases h; exact absurd rfl he
    · cases h; exact ⟨rfl, rfl⟩
theorem rdAt_zero {l : List UInt8} {n : Nat} {k : Int} (h : rdAt l 0 = (n, k, 0)) : uintL n = l.take k.toNat := by
  unfold rdAt at h
  split at h
  · cases h
  · dsimp only at h
    simp only [Int.toNat_zero, List.drop_zero] at h
    split at h
    · rename_i hz
      cases h
      simpa using uintL_rdU hz
    · rename_i hz; simp only [Prod.mk.injEq] at h; exact absurd h.2.2 hz
theorem rdAt_back {b s : List UInt8} {n : Nat} (hn : n < 18446744073709551616) : rdAt (b ++ uintL n ++ s) b.length = (n, (b.length : Int) + (uintL n).length, 0) := by
  have hp := List.length_pos_iff.2 (uintL_ne n)
  have hlt : b.length < (b ++ uintL n ++ s).length := by simp only [List.length_append]; omega
  rw [rdAt_in hlt, List.append_assoc, List.drop_left, rdU_uintL hn]
  simp

set_option maxRecDepth 100000 in
set_option maxHeartbeats 1600000 in
theorem recordOneForm_walk (w : World) (n : Nat) (hn : n < 18446744073709551616) (b : ByteArray) (hbs : b.size ≤ 1048576) (s : ByteArray) (hs : s.size ≤ 1048576) :
    Calls Try.prog 6 #[.int .u64 n, .string b, .string s] w fun e w' => e = .returned (.bool true) ∧ Below w.heap.size w w' := by
  have hl10 := uintL_length10 hn
  obtain ⟨x1, hx1⟩ : ∃ x1 : ByteArray, x1 = b ++ ⟨(uintL n).toArray⟩ := ⟨_, rfl⟩
  obtain ⟨x2, hx2⟩ : ∃ x2 : ByteArray, x2 = x1 ++ s := ⟨_, rfl⟩
  have e1 : x1.data.toList = b.data.toList ++ uintL n := by rw [hx1]; simp
  have e2 : x2.data.toList = b.data.toList ++ uintL n ++ s.data.toList := by rw [hx2]; simp [e1]
  have z1 : x1.size = b.size + (uintL n).length := by have := congrArg List.length e1; simpa using this
  have z2 : x2.size = b.size + (uintL n).length + s.size := by have := congrArg List.length e2; simpa [Nat.add_assoc] using this
  have zf : (⟨(uintL n).toArray⟩ : ByteArray).size = (uintL n).length := by simp [ByteArray.size]
  have c1 : ∀ wx : World, (Op.stringOp .add b ⟨(uintL n).toArray⟩).run Try.prog wx = .ok (.string x1) wx := fun wx => by rw [hx1]; exact run_string_add_sum wx _ _ (by rw [zf]; omega)
  have c2 : ∀ wx : World, (Op.stringOp .add x1 s).run Try.prog wx = .ok (.string x2) wx := fun wx => by rw [hx2]; exact run_string_add_sum wx _ _ (by omega)
  have hx : x2.size ≤ 9223372036854775807 := by omega
  have hr1 : rdAt x2.data.toList b.size = (n, (b.size : Int) + (uintL n).length, 0) := by
    rw [e2]; have := rdAt_back (b := b.data.toList) (s := s.data.toList) hn; simpa using this
  obtain ⟨m, k, er, hr⟩ : ∃ m k er, rdAt s.data.toList 0 = (m, k, er) := ⟨_, _, _, rfl⟩
  have HR1 := Lib.hid hr1
  have HR := Lib.hid hr
  clear hx1 hx2 e1 e2 z1 z2 zf hr1 hr
  by_cases her : er = 0
  · subst her
    obtain ⟨_, hm64, hk1, hk10, hks⟩ := rdAt_ok (l := s.data.toList) (a := 0) (by rw [HR.out])
    rw [HR.out] at hm64 hk1 hk10 hks
    dsimp only at hm64 hk1 hk10 hks
    have hu := rdAt_zero HR.out
    obtain ⟨k, rfl⟩ := Int.eq_ofNat_of_zero_le (show 0 ≤ k by omega)
    have hks' : k ≤ s.size := by simp at hks; omega
    have hk0 : 0 < k := by omega
    have HU := Lib.hid hu
    clear hu hk1 hk10 hks
    go_enter Try.func6, Try.ntmps6
    (repeat' (first | (go_big_may; fail) | go_values | go_skip | go_guarded | go_step | go_upon | go_back | dsimp only))
    refine (wakes_calls _).mono ?_
    rintro e w1 ⟨rfl, hb1⟩
    (repeat' (first | (go_big_may; fail) | go_values | go_skip | go_guarded | go_step | go_upon | go_back | dsimp only))
    refine (Uint_calls n hn _).mono ?_
    rintro e w2 ⟨rfl, hb2⟩
    have hB2 := hb1.trans (hb2.mono hb1.size)
    (repeat' (first | (go_big_may; fail) | go_values | go_skip | go_guarded | go_step | go_upon | go_back | dsimp only))
    refine (ReadUint_is x2 b.size _ hx HR1.out).mono ?_
    rintro e w3 ⟨rfl, rfl⟩
    (repeat' (first | (go_big_may; fail) | go_values | go_skip | go_guarded | go_step | go_upon | go_back | dsimp only))
    refine (ReadUint_is s 0 _ (by omega) HR.out).mono ?_
    rintro e w3 ⟨rfl, rfl⟩
    (repeat' (first | (go_big_may; fail) | go_values | go_skip | go_guarded | go_step | go_upon | go_back | dsimp only))
    have hk1' : (0 : Int) < k := by omega
    have hk2' : (k : Int) ≤ s.size := by omega
    have hk3' : (0 : Int) ≤ k := by omega
    go_region_held3 (fun wx => Below w.heap.size w wx) (first | exact hB2.drew | exact hB2.drew.trans (hb5.mono hB2.size)) ((go_at_call 10; refine (Uint_calls m hm64 _).mono ?_; rintro e w5 ⟨rfl, hb5⟩))
    (repeat' (first | (go_big_may; fail) | go_values | go_skip | go_guarded | go_step | go_upon | go_back | dsimp only))
    go_ret
    have he : (uintL m == (s.extract 0 k).toList) = true := by
      rw [HU.out, Lib.extract_toList]; simp
    exact ⟨congrArg (fun b => Ending.returned (Value.bool b)) he, by assumption⟩
  · obtain ⟨rfl, rfl⟩ := rdAt_err HR.out her
    have hbb : ((er : Int) != 0) = true := by simpa using her
    go_enter Try.func6, Try.ntmps6
    (repeat' (first | (go_big_may; fail) | go_values | go_skip | go_guarded | go_step | go_upon | go_back | dsimp only))
    refine (wakes_calls _).mono ?_
    rintro e w1 ⟨rfl, hb1⟩
    (repeat' (first | (go_big_may; fail) | go_values | go_skip | go_guarded | go_step | go_upon | go_back | dsimp only))
    refine (Uint_calls n hn _).mono ?_
    rintro e w2 ⟨rfl, hb2⟩
    have hB2 := hb1.trans (hb2.mono hb1.size)
    (repeat' (first | (go_big_may; fail) | go_values | go_skip | go_guarded | go_step | go_upon | go_back | dsimp only))
    refine (ReadUint_is x2 b.size _ hx HR1.out).mono ?_
    rintro e w3 ⟨rfl, rfl⟩
    (repeat' (first | (go_big_may; fail) | go_values | go_skip | go_guarded | go_step | go_upon | go_back | dsimp only))
    refine (ReadUint_is s 0 _ (by omega) HR.out).mono ?_
    rintro e w3 ⟨rfl, rfl⟩
    (repeat' (first | (go_big_may; fail) | go_values | go_skip | go_guarded | go_step | go_upon | go_back | dsimp only))
    go_ret
    exact ⟨rfl, hB2⟩

end Go.Proofs.Ytbgjgbgemblcnaa
