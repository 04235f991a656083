/- runs: Read walked. -/
import Derived.Test.YtgeabmmicofanaaGreatDoorBuSpLaw08
import Derived.Deep.Cut
set_option linter.unusedSimpArgs false
set_option linter.unusedVariables false
namespace Go.Proofs.YtgeabmmicofanaaGreatDoor
open Go.RowKit

def readC (S : St) (z at_ n : Int) : Nat :=
  match S.find z with
  | none => 3
  | some p => if p.2.sealed = false then 5 else if at_ < 0 ∨ n < 0 ∨ at_ > p.2.text.length ∨ n > p.2.text.length - at_ then 6 else 0
def readT (S : St) (z at_ n : Int) : List UInt8 :=
  match S.find z with
  | none => []
  | some p => if p.2.sealed = false then [] else if at_ < 0 ∨ n < 0 ∨ at_ > p.2.text.length ∨ n > p.2.text.length - at_ then [] else (p.2.text.drop at_.toNat).take n.toNat

theorem foldl_push_any (l : List UInt8) : (l.map fun c => ((c.toNat : Nat) : Int)).foldl (fun r n => r.push (UInt8.ofNat n.toNat)) ByteArray.empty = ⟨l.toArray⟩ := by
  rw [foldl_push]; simp [ByteArray.empty, ByteArray.emptyWithCapacity]; try rfl

/-- 'string(s[k:k+m])' of bytes that are read. -/
theorem run_string_part {P : Program} {w : World} (src dst e : TypeId) (hs : P.underlying src = some (.slice e)) (he : P.underlying e = some (.int .u8)) (hd : P.underlying dst = some .string)
    {ao : Option Addr} {L cap k m : Nat} {l : List UInt8} (h : RdRow w (.slice ao L cap) L 1 (bvs l)) (hkm : k + m ≤ l.length) :
    Sem.run P (convert src dst (Value.slice (if cap = k then ao else Option.map (fun x => x.add k) ao) m (cap - k))) w = .ok (.string ⟨((l.drop k).take m).toArray⟩) w := by
  obtain ⟨h1, a, c, h2, hc1, hc2, hc⟩ := h
  cases h2
  have hL : l.length = L := by simpa [Lib.byteCells] using h1
  rw [run_convert_bytes_string w src dst e _ _ _ hs he hd]
  cases hl : (l.drop k).take m with
  | nil =>
    have hm : m = 0 := by
      have := congrArg List.length hl
      simp at this; omega
    subst hm
    cases (if cap = k then ao else Option.map (fun x => x.add k) ao) with
    | none => simp [Conv.bytesToString, Sem.run_pure]; rfl
    | some a => 
      have hr := run_bytesToString (P := P) w a 0 (cap - k) [] (by have := run_loadCells_list (P := P) w a [] (fun j v hv => by simp at hv); simpa using this)
      rw [hr]; rfl
  | cons c0 l0 =>
    have hm : 0 < m := by
      rcases Nat.eq_zero_or_pos m with rfl | h
      · simp at hl
      · exact h
    obtain ⟨b, off, hao, _⟩ := hc 0 (bvs l)[0] (List.getElem?_eq_getElem (by simp [Lib.byteCells]; omega))
    subst hao
    have hne : ¬ cap = k := by omega
    have hadd : (⟨b, off, none⟩ : Addr).add k = ⟨b, off + k, none⟩ := by unfold Addr.add; split <;> simp_all
    rw [if_neg hne, Option.map_some, hadd, ← hl]
    have hlen : ((l.drop k).take m).length = m := by simp; omega
    have hr := run_bytesToString (P := P) w ⟨b, off + k, none⟩ m (cap - k) (((l.drop k).take m).map fun c => ((c.toNat : Nat) : Int)) (by
      have h3 := run_loadCells_list (P := P) w ⟨b, off + k, none⟩ (bvs ((l.drop k).take m)) (fun j v hv => by
        have hj : j < m := by
          have := (List.getElem?_eq_some_iff.1 hv).1
          simp [Lib.byteCells] at this; omega
        have hv' : (bvs l)[k + j]? = some v := by
          rw [← hv]
          simp [Lib.byteCells, hj]
        obtain ⟨b', off', e', hcell⟩ := hc _ _ hv'
        cases e'
        have ha2 : (⟨b, off + k, none⟩ : Addr).add j = ⟨b, off + (k + j), none⟩ := by rw [← Nat.add_assoc]; unfold Addr.add; split <;> simp_all
        rw [ha2]; exact hcell)
      have hl2 : (bvs ((l.drop k).take m)).length = m := by simp [Lib.byteCells]; omega
      rw [hl2] at h3
      rw [h3]; simp [Lib.byteCells, Function.comp_def])
    rw [hr, foldl_push_any]

set_option maxRecDepth 100000 in
set_option maxHeartbeats 1600000 in
theorem Read_calls {w : World} {b mb : Nat} {blk : Nat → Nat} {val : Nat → Value} {S : St} (h : StoreI w b mb blk val S) {ef : Nat → Nat × Nat} {fl : List (Nat × Nat)} (hF : Fails w ef fl) (hx3 : (3, 4) ∈ fl) (hx5 : (5, 8) ∈ fl) (hx6 : (6, 9) ∈ fl) {z at_ n : Int} (hz : inI64 z) (ha : inI64 at_) (hn : inI64 n) :
    Calls Tryz.prog 73 #[.pointer (some ⟨b, 0, none⟩), .int .i64 z, .int .i64 at_, .int .i64 n] w fun e w' => e = .returned (.tuple #[.string ⟨(readT S z at_ n).toArray⟩, errV ef (readC S z at_ n)]) ∧ Below w.heap.size w w' := by
  have c5 := h.facts.c5
  have cg3 := hF.cell _ hx3
  have cg5 := hF.cell _ hx5
  have cg6 := hF.cell _ hx6
  have hd : ∀ n, Below w.heap.size w (w.drewN n) := fun n => below_dW w n
  have HD := Lib.hid hd
  clear hd hF hx3 hx5 hx6
  cases hf : S.find z with
  | none =>
    have hl := h.look_none hz hf
    have e1 : readT S z at_ n = [] := by unfold readT; rw [hf]
    have e2 : readC S z at_ n = 3 := by unfold readC; rw [hf]
    rw [e1, e2]
    clear h hf e1 e2 hz
    go_enter Tryz.func73, Tryz.ntmps73
    (repeat' (first | (go_big_may; fail) | go_values | go_skip | go_guarded | go_step | go_upon | go_back | dsimp only))
    go_quiet (fail)
    (repeat' (first | (go_big_may; fail) | go_values | go_skip | go_guarded | go_step | go_upon | go_back | dsimp only))
    go_ret2
    exact ⟨rfl, HD.out _⟩
  | some p =>
    have hl := h.look_some hz hf
    have hrun := h.run p (find_mem hf).1
    have hrd := RdRow.of_own (h.row p (find_mem hf).1)
    obtain ⟨ao, cap, hv, hc1, hc2⟩ := hrd.shape
    have r0 : w.cell? ⟨blk p.1, 0, none⟩ = some (val p.1) := by simp [World.cell?, hrun]
    have r1 : w.cell? ⟨blk p.1, 1, none⟩ = some (.bool p.2.sealed) := by simp [World.cell?, hrun]
    have HV := Lib.hid hrd
    have HVE := Lib.hid hv
    have hlen := hc1
    by_cases hs : p.2.sealed = false
    · have e1 : readT S z at_ n = [] := by unfold readT; rw [hf]; exact if_pos hs
      have e2 : readC S z at_ n = 5 := by unfold readC; rw [hf]; exact if_pos hs
      rw [e1, e2]
      rw [hv] at r0
      rw [hs] at r1
      clear h hf e1 e2 hz hrun hv hrd
      generalize blk p.1 = rb at *
      go_enter Tryz.func73, Tryz.ntmps73
      (repeat' (first | (go_big_may; fail) | go_values | go_skip | go_guarded | go_step | go_upon | go_back | dsimp only))
      go_quiet (fail)
      (repeat' (first | (go_big_may; fail) | go_values | go_skip | go_guarded | go_step | go_upon | go_back | dsimp only))
      go_ret2
      exact ⟨rfl, HD.out _⟩
    · have hs' : p.2.sealed = true := by simpa using hs
      rw [hs'] at r1
      rw [hv] at r0
      have HS := Lib.hid hs
      by_cases hr : at_ < 0 ∨ n < 0 ∨ at_ > p.2.text.length ∨ n > p.2.text.length - at_
      · have e1 : readT S z at_ n = [] := by unfold readT; rw [hf]; exact (if_neg hs).trans (if_pos hr)
        have e2 : readC S z at_ n = 6 := by unfold readC; rw [hf]; exact (if_neg hs).trans (if_pos hr)
        rw [e1, e2]
        clear h hf e1 e2 hz hrun hv hrd hs hs'
        generalize blk p.1 = rb at *
        generalize p.2.text.length = L at *
        have hL : (L : Int) ≤ 9223372036854775807 := by unfold maxLen at hc2; omega
        have HR := Lib.hid hr
        clear hr
        by_cases a0 : at_ < 0
        · go_enter Tryz.func73, Tryz.ntmps73
          (repeat' (first | (go_big_may; fail) | go_values | go_skip | go_guarded | go_step | go_upon | go_back | dsimp only))
          go_quiet (fail)
          (repeat' (first | (go_big_may; fail) | go_values | go_skip | go_guarded | go_step | go_upon | go_back | dsimp only))
          go_ret2
          exact ⟨rfl, HD.out _⟩
        · have a1 : 0 ≤ at_ := by omega
          by_cases n0 : n < 0
          · go_enter Tryz.func73, Tryz.ntmps73
            (repeat' (first | (go_big_may; fail) | go_values | go_skip | go_guarded | go_step | go_upon | go_back | dsimp only))
            go_quiet (fail)
            (repeat' (first | (go_big_may; fail) | go_values | go_skip | go_guarded | go_step | go_upon | go_back | dsimp only))
            go_ret2
            exact ⟨rfl, HD.out _⟩
          · have n1 : 0 ≤ n := by omega
            by_cases aL : (L : Int) < at_
            · go_enter Tryz.func73, Tryz.ntmps73
              (repeat' (first | (go_big_may; fail) | go_values | go_skip | go_guarded | go_step | go_upon | go_back | dsimp only))
              go_quiet (fail)
              (repeat' (first | (go_big_may; fail) | go_values | go_skip | go_guarded | go_step | go_upon | go_back | dsimp only))
              go_ret2
              exact ⟨rfl, HD.out _⟩
            · have nL : (L : Int) - at_ < n := by have := HR.out; omega
              have hwr : IntKind.i64.wrap ((L : Int) - at_) = (L : Int) - at_ := by rw [IntKind.wrap_i64]; omega
              go_enter Tryz.func73, Tryz.ntmps73
              (repeat' (first | (go_big_may; fail) | go_values | go_skip | go_guarded | go_step | go_upon | go_back | dsimp only))
              go_quiet (fail)
              (repeat' (first | (go_big_may; fail) | go_values | go_skip | go_guarded | go_step | go_upon | go_back | dsimp only))
              go_ret2
              exact ⟨rfl, HD.out _⟩
      · have e1 : readT S z at_ n = (p.2.text.drop at_.toNat).take n.toNat := by unfold readT; rw [hf]; exact (if_neg hs).trans (if_neg hr)
        have e2 : readC S z at_ n = 0 := by unfold readC; rw [hf]; exact (if_neg hs).trans (if_neg hr)
        rw [e1, e2]
        have hVE := hv
        have hVR := hrd
        clear h hf e1 e2 hz hrun hv hrd hs hs'
        generalize blk p.1 = rb at *
        obtain ⟨k, rfl⟩ : ∃ k : Nat, at_ = k := Int.eq_ofNat_of_zero_le (by omega)
        obtain ⟨m, rfl⟩ : ∃ m : Nat, n = m := Int.eq_ofNat_of_zero_le (by omega)
        have hkL : k ≤ p.2.text.length := by omega
        have hmL : m ≤ p.2.text.length - k := by omega
        have hkL' : ¬ (p.2.text.length : Int) < k := by omega
        have hmL' : ¬ (p.2.text.length : Int) - k < m := by omega
        have hm0 : ¬ (m : Int) < 0 := by omega
        have hk0 : ¬ (k : Int) < 0 := by omega
        have hwr : IntKind.i64.wrap ((p.2.text.length : Int) - k) = (p.2.text.length : Int) - k := by rw [IntKind.wrap_i64]; have := hc2; unfold maxLen at this; omega
        have hkc : (k : Int) + m ≤ cap := by have := hc1; omega
        have hk1 : (0 : Int) ≤ k := by omega
        have hk2 : (k : Int) ≤ (k : Int) + m := by omega
        have hcv : Sem.run Tryz.prog (convert 93 9 (Value.slice (if cap = k then ao else Option.map (fun x => x.add k) ao) m (cap - k))) w = Result.ok (.string ⟨((p.2.text.drop k).take m).toArray⟩) w := run_string_part _ _ 5 Tryz.underlying93 Tryz.underlying5 Tryz.underlying9 (hVE ▸ hVR) (by omega)
        have hwr2 : IntKind.i64.wrap ((k : Int) + m) = (k : Int) + m := by rw [IntKind.wrap_i64]; have := hc2; unfold maxLen at this; omega
        clear hr
        have HC := Lib.hid hc1
        clear hc1
        have HTL := Lib.hid (show p.2.text.length = p.2.text.length from rfl)
        have HKL := Lib.hid hkL
        have HML := Lib.hid hmL
        clear hkL hmL hVE hVR
        go_enter Tryz.func73, Tryz.ntmps73
        go_upto_region 10 with (fail)
        clear hkL' hmL' hm0 hk0 hwr ha hn
        (repeat' (first | (go_big_may; fail) | go_values | go_skip | go_guarded | go_step | go_upon | go_back | dsimp only))
        go_ret2
        refine ⟨?_, Below.refl _ _⟩
        rw [Int.toNat_natCast, Int.toNat_natCast]; rfl
end Go.Proofs.YtgeabmmicofanaaGreatDoor
