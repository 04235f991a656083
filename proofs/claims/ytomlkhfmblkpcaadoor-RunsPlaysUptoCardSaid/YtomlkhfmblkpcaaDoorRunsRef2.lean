/- The document's store (hornbookref05): New, Used, refused, fit, Size, Break, Seal walked. -/
import Derived.Test.YtomlkhfmblkpcaaDoorRunsRef
namespace Go.Proofs.YtomlkhfmblkpcaaDoor
open Go.RowKit

theorem sum_take_succ {l : List Nat} {k : Nat} (h : k < l.length) : (l.take (k + 1)).sum = (l.take k).sum + l.getD k 0 := by
  rw [List.take_add_one, List.getElem?_eq_getElem h, List.getD_eq_getElem?_getD, List.getElem?_eq_getElem h]
  simp only [Option.toList_some, List.sum_append, List.sum_cons, List.sum_nil, Nat.add_zero, Option.getD_some]
theorem sum_take_le (l : List Nat) (k : Nat) : (l.take k).sum ≤ l.sum := by
  conv => rhs; rw [← List.take_append_drop k l, List.sum_append]
  omega
def lens (rs : List RR) : List Nat := rs.map fun r => r.text.length
set_option maxRecDepth 100000 in
set_option maxHeartbeats 1600000 in
theorem rUsed_calls0 {w : World} {rb : Nat} {S : St} {rv : Value} {rs : List RR} (h : RefR w rb S rv rs) (hGu : S.used = usedOf S.runs) (hn : rs.length ≤ 16777216) (hs : S.used ≤ 67108864) :
    Calls Tryd.prog 42 #[.pointer (some ⟨rb, 0, none⟩)] w fun e w' => e = .returned (.int .i64 S.used) ∧ w = w' := by
  obtain ⟨_, _, _, _, c4⟩ := h.c
  obtain ⟨ao, cap, hrv, hcap, hcm⟩ := h.shape
  subst hrv
  have hu : S.used = (lens rs).sum := by rw [hGu, h.used]; rfl
  have hll : (lens rs).length = rs.length := by simp [lens]
  have H := Lib.hid h
  clear h hGu
  go_enter Tryd.func42, Tryd.ntmps42
  (repeat' (first | (go_big_may; fail) | go_values | go_skip | go_guarded | go_step | go_upon | go_back | dsimp only))
  go_loop [3, 4] (fun a b => ∃ k : Nat, a = .int .i64 (((lens rs).take k).sum : Nat) ∧ b = .int .i64 k ∧ k ≤ rs.length) (fun a b => rs.length - (intOf b).toNat)
  case atStart => exact ⟨0, rfl, rfl, by omega⟩
  case round =>
    obtain ⟨k, rfl, rfl, hk⟩ := hrel
    by_cases hlt : (k : Int) < rs.length
    · obtain ⟨g, cap', hsl, i0, i1, i2, _⟩ := H.out.item (i := k) (by omega)
      cases hsl
      have htx := H.out.texts _ (getD_mem (show k < rs.length by omega))
      have hsum := sum_take_succ (l := lens rs) (k := k) (by omega)
      have hle := sum_take_le (lens rs) (k + 1)
      have hgd : (lens rs).getD k 0 = (rs.getD k default).text.length := by
        unfold lens
        rw [List.getD_eq_getElem?_getD, List.getD_eq_getElem?_getD, List.getElem?_map, List.getElem?_eq_getElem (show k < rs.length by omega)]
        rfl
      rw [hgd] at hsum
      obtain ⟨at_, capt, hv, _, _⟩ := own_shape htx
      generalize rs.getD k default = q at *
      obtain ⟨qn, qv, qt, qs⟩ := q
      dsimp only at hv i1 hsum
      subst hv
      have hk0 : (0 : Int) ≤ k := by omega
      have HS := Lib.hid hsum
      have hw1 : IntKind.i64.wrap ((((lens rs).take k).sum : Int) + qt.length) = (((lens rs).take k).sum : Int) + qt.length := by rw [IntKind.wrap_i64] <;> omega
      generalize ((lens rs).take k).sum = sk at *
      clear hsum htx i0 i2 hgd
      (repeat' (first | (go_big_may; fail) | go_values | go_skip | go_guarded | go_step | go_upon | go_back | dsimp only))
      refine ⟨⟨k + 1, ?_, by simp, by omega⟩, by simp [intOf] <;> omega⟩
      rw [HS.out]; simp
    · have hkn : k = rs.length := by omega
      subst hkn
      have he : ((lens rs).take rs.length).sum = S.used := by rw [← hll, List.take_length, hu]
      rw [he]
      (repeat' (first | (go_big_may; fail) | go_values | go_skip | go_guarded | go_step | go_upon | go_back | dsimp only))
      go_ret
      exact ⟨rfl, rfl⟩

theorem rUsed_calls {w : World} {rb : Nat} {S : St} {rv : Value} {rs : List RR} (h : RefR w rb S rv rs) (hG : GoodS S) :
    Calls Tryd.prog 42 #[.pointer (some ⟨rb, 0, none⟩)] w fun e w' => e = .returned (.int .i64 S.used) ∧ w = w' :=
  rUsed_calls0 h hG.used (h.len hG) (by have := hG.sizes; omega)

set_option maxRecDepth 100000 in
set_option maxHeartbeats 1600000 in
theorem refused_at {W w : World} {R : Thing} {rb : Nat} {S : St} (h : At W w (Both (RefT rb S) R)) (hR : Stable R) (hG : GoodS S) :
    Calls Tryd.prog 49 #[.pointer (some ⟨rb, 0, none⟩)] w fun e w' => e = .returned (.bool (decide (S.left = 1))) ∧ At W w' (Both (RefT rb (stepS S)) R) := by
  have hl := hG.sizes.2.2.2.2
  obtain ⟨rv, rs, hr, h1⟩ := h.ref
  have hf := h1.refR hr
  obtain ⟨_, _, _, c3, _⟩ := hf.c
  have fz := hf.fz
  have hst : Stable (Both (RowG tRRun 3 rv rs.length (rs.flatMap cellsR)) (Both (TextsT rs) R)) := (RowG.stable _ _ _ _ _).both ((TextsT.stable _).both hR)
  by_cases h0 : S.left = 0
  · have hs : stepS S = S := by unfold stepS; rw [h0]; cases S; simp_all
    rw [hs, h0]
    rw [h0] at c3
    have HH := Lib.hid h
    clear h h1 hf hr hst hs hl h0 hG
    go_enter Tryd.func49, Tryd.ntmps49
    (repeat' (first | (go_big_may; fail) | go_values | go_skip | go_guarded | go_step | go_upon | go_back | dsimp only))
    go_ret
    exact ⟨rfl, HH.out⟩
  · obtain ⟨n, hn⟩ : ∃ n, S.left = n + 1 := ⟨S.left - 1, by omega⟩
    have h2 := h1.setCell hst 3 (.int .i64 (n : Int))
    have hc : (refCells S rv).setIfInBounds 3 (.int .i64 (n : Int)) = refCells (stepS S) rv := by
      unfold stepS; simp [refCells, hn]
    rw [hc] at h2
    have HH := Lib.hid (At.toRef (S := stepS S) hr h2)
    rw [hn] at c3 hl ⊢
    have e1 : ((n + 1 : Nat) : Int) = (n : Int) + 1 := by omega
    rw [e1] at c3
    have hw1 : IntKind.i64.wrap ((n : Int) + 1 - 1) = n := by rw [IntKind.wrap_i64] <;> omega
    have hd : (decide (n + 1 = 1)) = ((n : Int) == 0) := by
      by_cases hz : n = 0
      · subst hz; rfl
      · rw [decide_eq_false (by omega)]; symm; simpa using hz
    rw [hd]
    have hn0 : ¬ ((n : Int) + 1 < 1) := by omega
    clear h h1 hf hr hst h2 hc hn h0 e1 hG hd
    go_enter Tryd.func49, Tryd.ntmps49
    (repeat' (first | (go_big_may; fail) | go_values | go_skip | go_guarded | go_step | go_upon | go_back | dsimp only))
    go_ret
    exact ⟨rfl, HH.out⟩

/-- The place of an open run, or the failure. -/
def FitR (rs : List RR) (S : St) (z i : Int) (c : Nat) : Prop :=
  (S.find z = none ∧ i = 0 ∧ c = 3) ∨ ∃ j : Nat, j < rs.length ∧ ((rs.getD j default).num : Int) = z ∧ S.find z = some (runOf (rs.getD j default)) ∧ (((rs.getD j default).sealed = true ∧ i = 0 ∧ c = 4) ∨ ((rs.getD j default).sealed = false ∧ i = j ∧ c = 0))
set_option maxRecDepth 100000 in
set_option maxHeartbeats 1600000 in
theorem fit_calls {w : World} {rb : Nat} {S : St} {rv : Value} {rs : List RR} (h : RefR w rb S rv rs) (hG : GoodS S) {z : Int} (hz : inI64 z) :
    Calls Tryd.prog 50 #[.pointer (some ⟨rb, 0, none⟩), .int .i64 z] w fun e w' => (∃ (i : Int) (c : Nat), e = .returned (.tuple #[.int .i64 i, .int .i64 c]) ∧ FitR rs S z i c) ∧ w = w' := by
  have H := Lib.hid h
  have HG := Lib.hid hG
  have hn := h.len hG
  obtain ⟨_, _, _, _, c4⟩ := h.c
  obtain ⟨ao, cap, hrv, hcap, hcm⟩ := h.shape
  subst hrv
  clear h hG
  go_enter Tryd.func50, Tryd.ntmps50
  (repeat' (first | (go_big_may; fail) | go_values | go_skip | go_guarded | go_step | go_upon | go_back | dsimp only))
  refine (place_calls H.out HG.out hz).mono ?_
  rintro e w1 ⟨⟨r, rfl, hp⟩, rfl⟩
  rcases hp with ⟨hf, rfl⟩ | ⟨j, hj, hnum, hf, rfl⟩
  · have HF := Lib.hid hf
    clear hf
    (repeat' (first | (go_big_may; fail) | go_values | go_skip | go_guarded | go_step | go_upon | go_back | dsimp only))
    go_ret2
    exact ⟨⟨_, _, rfl, .inl ⟨HF.out, rfl, rfl⟩⟩, rfl⟩
  · obtain ⟨g, cap', hsl, _, _, i2, _⟩ := H.out.item hj
    cases hsl
    have hj0 : (0 : Int) ≤ j := by omega
    have hj1 : (j : Int) < rs.length := by omega
    have HF := Lib.hid hf
    have HN := Lib.hid hnum
    clear hf hnum
    cases hs : (rs.getD j default).sealed with
    | true =>
      rw [hs] at i2
      have HS := Lib.hid hs
      clear hs
      (repeat' (first | (go_big_may; fail) | go_values | go_skip | go_guarded | go_step | go_upon | go_back | dsimp only))
      go_ret2
      exact ⟨⟨_, _, rfl, .inr ⟨j, hj, HN.out, HF.out, .inl ⟨HS.out, rfl, rfl⟩⟩⟩, rfl⟩
    | false =>
      rw [hs] at i2
      have HS := Lib.hid hs
      clear hs
      (repeat' (first | (go_big_may; fail) | go_values | go_skip | go_guarded | go_step | go_upon | go_back | dsimp only))
      go_ret2
      exact ⟨⟨_, _, rfl, .inr ⟨j, hj, HN.out, HF.out, .inr ⟨HS.out, rfl, rfl⟩⟩⟩, rfl⟩
end Go.Proofs.YtomlkhfmblkpcaaDoor
