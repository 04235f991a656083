/- walk.Shape and the document's Shape walked. -/
import Derived.Test.YtcbdncjknpdnbaaWkRVisit
import Derived.Test.YtcbdncjknpdnbaaCellT
namespace Go.Proofs.Ytcbdncjknpdnbaa
open Go.RowKit

theorem info_By : (Try.prog.info? tBy).map (fun i => (i.zero, i.size, i.bytes)) = some (some (.int .u8 0), 1, 1) := by kernel_rfl
theorem info_Bo : (Try.prog.info? tBo).map (fun i => (i.zero, i.size, i.bytes)) = some (some (.bool false), 1, 1) := by kernel_rfl
theorem vinv_start (A : List Sta) : VInv A (0, List.replicate A.length false) := ⟨by simp, Nat.zero_le _, fun i h => by
  rw [List.getD_eq_getElem?_getD, List.getElem?_replicate] at h
  split at h <;> simp at h⟩
theorem vtr_start (A : List Sta) : VTr A (0, List.replicate A.length false) := fun i h => by
  dsimp only at h
  rw [List.getD_eq_getElem?_getD, List.getElem?_replicate] at h
  split at h <;> simp at h
theorem shapeB_of {A : List Sta} (h1 : 1 ≤ A.length) (h2 : A.length ≤ 1048576) : shapeB A = match visN A (A.length + 1) (0, List.replicate A.length false) 0 with
  | none => false
  | some s => decide (s.1 = A.length) := by
  unfold shapeB
  rw [if_neg (by omega)]
  cases visN A (A.length + 1) (0, List.replicate A.length false) 0 <;> rfl
theorem shapeB_nil {A : List Sta} (h : A.length = 0) : shapeB A = false := by
  unfold shapeB
  rw [if_pos (by omega)]
/-- Shape's answer. -/
def shapeV (A : List Sta) : Int := if shapeB A = true then 0 else 190

set_option maxRecDepth 100000 in
set_option maxHeartbeats 1600000 in
theorem Shape_calls {w : World} {A : List Sta} {v : Value} (h : RdAut w v A) (hl : A.length ≤ 1048576 ∧ edgesN A ≤ 1048576) :
    Calls Try.prog 33 #[v] w fun e w' => e = .returned (.int .i64 (shapeV A)) ∧ Below w.heap.size w w' := by
  obtain ⟨a0, c0, hv, _, hc0⟩ := h.shape
  unfold maxLen at hc0
  have hn2 : ¬ (1048576 : Int) < (A.length : Int) := by omega
  by_cases hz : A.length = 0
  · have hs : shapeV A = 190 := by unfold shapeV; rw [shapeB_nil hz]; rfl
    have HS := Lib.hid hs
    have hz0 : (A.length : Int) = 0 := by omega
    subst hv
    clear hs h
    go_enter Try.func33, Try.ntmps33
    (repeat' (first | (go_big_may; fail) | go_values | go_skip | go_guarded | go_step | go_upon | go_back | dsimp only))
    go_ret
    exact ⟨by rw [HS.out]; rfl, Below.refl _ _⟩
  · have hz0 : ((A.length : Int) == 0) = false := by rw [beq_eq_false_iff_ne]; omega
    have hvis := fun kl g w2 (h2 : At w w2 (LookG kl g A.length v 0 (List.replicate A.length 0) Nought)) => visit_at h hl kl g (A.length + 1) w2 0 (List.replicate A.length 0) 0 Nought h2 Stable.nought (by rw [show doneL (List.replicate A.length 0) = List.replicate A.length false from by simp [doneL]]; exact vinv_start A) (by rw [show doneL (List.replicate A.length 0) = List.replicate A.length false from by simp [doneL]]; exact vtr_start A) (by omega)
    rw [show doneL (List.replicate A.length 0) = List.replicate A.length false from by simp [doneL]] at hvis
    have hsh := shapeB_of (A := A) (by omega) (by omega)
    have HVIS := Lib.hid hvis
    have HSH := Lib.hid hsh
    clear hvis hsh h
    subst hv
    go_enter Try.func33, Try.ntmps33
    (repeat' (first | (go_big_may; ((at_make; go_must (refine wpList_make_at rfl _ _ 102 rfl tBy Try.underlying102 info_By rfl rfl rfl rfl rfl (by omega) (by unfold maxLen; omega) (At.nought (Below.refl w.heap.size w)) Stable.nought ?_)); intro w2 h2 _)) | go_values | go_skip | go_guarded | go_step | go_upon | go_back | dsimp only))
    have h3 := h2.newCell ((RowG.stable _ _ _ _ _).both Stable.nought) #[.slice a0 A.length c0, .int .i64 (0 : Nat), .slice (some ⟨w.heap.size, 0, none⟩) A.length A.length] tLk
    have hbr : List.replicate A.length (Value.int .u8 0) = bvs (List.replicate A.length 0) := by simp [Lib.byteCells]
    rw [hbr] at h3
    refine (HVIS.out w2.heap.size w.heap.size _ h3).mono ?_
    rintro e5 w5 ⟨nx', sl', hans, h5⟩
    have HB5 := Lib.hid h5.below
    clear h2 h3 hbr
    cases hv : visN A (A.length + 1) (0, List.replicate A.length false) 0 with
    | none =>
      rw [hv] at hans
      have hs : shapeV A = 190 := by unfold shapeV; rw [HSH.out, hv]; rfl
      have HS := Lib.hid hs
      have he : e5 = .returned (.bool false) := hans
      subst he
      clear hs hans h5 hv
      (repeat' (first | (go_big_may; fail) | go_values | go_skip | go_guarded | go_step | go_upon | go_back | dsimp only))
      go_ret
      exact ⟨by rw [HS.out]; rfl, HB5.out⟩
    | some s =>
      rw [hv] at hans
      obtain ⟨he, hnx, _⟩ : e5 = .returned (.bool true) ∧ nx' = s.1 ∧ doneL sl' = s.2 := hans
      subst he
      obtain ⟨c1, _, _⟩ := h5.cellF (o := 1) (u := .int .i64 nx') rfl
      by_cases hq : s.1 = A.length
      · have hs : shapeV A = 0 := by unfold shapeV; rw [HSH.out, hv]; simp [hq]
        have hq2 : ((nx' : Int) == (A.length : Int)) = true := by rw [hnx, hq]; simp
        have hq3 : (nx' : Int) = (A.length : Int) := by rw [hnx, hq]
        have HS := Lib.hid hs
        clear hs h5 hv hq hnx
        (repeat' (first | (go_big_may; fail) | go_values | go_skip | go_guarded | go_step | go_upon | go_back | dsimp only))
        go_ret
        exact ⟨by rw [HS.out]; rfl, HB5.out⟩
      · have hs : shapeV A = 190 := by unfold shapeV; rw [HSH.out, hv]; simp [hq]
        have hq2 : ((nx' : Int) == (A.length : Int)) = false := by rw [beq_eq_false_iff_ne]; omega
        have HS := Lib.hid hs
        clear hs h5 hv hq hnx
        (repeat' (first | (go_big_may; fail) | go_values | go_skip | go_guarded | go_step | go_upon | go_back | dsimp only))
        go_ret
        exact ⟨by rw [HS.out]; rfl, HB5.out⟩

set_option maxRecDepth 100000 in
set_option maxHeartbeats 1600000 in
theorem RShape_calls {w : World} {A : List Sta} {v : Value} (h : RdAut w v A) (hl : A.length ≤ 1048576 ∧ edgesN A ≤ 1048576) :
    Calls Try.prog 27 #[v] w fun e w' => e = .returned (.int .i64 (shapeV A)) ∧ Below w.heap.size w w' := by
  obtain ⟨a0, c0, hv, _, hc0⟩ := h.shape
  unfold maxLen at hc0
  have hn2 : ¬ (1048576 : Int) < (A.length : Int) := by omega
  by_cases hz : A.length = 0
  · have hs : shapeV A = 190 := by unfold shapeV; rw [shapeB_nil hz]; rfl
    have HS := Lib.hid hs
    have hz0 : (A.length : Int) < 1 := by omega
    subst hv
    clear hs h
    go_enter Try.func27, Try.ntmps27
    (repeat' (first | (go_big_may; fail) | go_values | go_skip | go_guarded | go_step | go_upon | go_back | dsimp only))
    go_ret
    exact ⟨by rw [HS.out]; rfl, Below.refl _ _⟩
  · have hz0 : ¬ (A.length : Int) < 1 := by omega
    have hvis := fun kl g w2 (h2 : At w w2 (RLookG kl g A.length v 0 (List.replicate A.length false) Nought)) => rvisit_at h hl kl g (A.length + 1) w2 0 (List.replicate A.length false) 0 Nought h2 Stable.nought (vinv_start A) (vtr_start A) (by omega)
    have hsh := shapeB_of (A := A) (by omega) (by omega)
    have HVIS := Lib.hid hvis
    have HSH := Lib.hid hsh
    clear hvis hsh h
    subst hv
    go_enter Try.func27, Try.ntmps27
    (repeat' (first | (go_big_may; ((at_make; go_must (refine wpList_make_at rfl _ _ 105 rfl tBo Try.underlying105 info_Bo rfl rfl rfl rfl rfl (by omega) (by unfold maxLen; omega) (At.nought (Below.refl w.heap.size w)) Stable.nought ?_)); intro w2 h2 _)) | go_values | go_skip | go_guarded | go_step | go_upon | go_back | dsimp only))
    have h3 := h2.newCell ((RowG.stable _ _ _ _ _).both Stable.nought) #[.slice a0 A.length c0, .int .i64 (0 : Nat), .slice (some ⟨w.heap.size, 0, none⟩) A.length A.length] tRLk
    have hbr : List.replicate A.length (Value.bool false) = bos (List.replicate A.length false) := by simp [bos]
    rw [hbr] at h3
    refine (HVIS.out w2.heap.size w.heap.size _ h3).mono ?_
    rintro e5 w5 ⟨nx', sl', hans, h5⟩
    have HB5 := Lib.hid h5.below
    clear h2 h3 hbr
    cases hv : visN A (A.length + 1) (0, List.replicate A.length false) 0 with
    | none =>
      rw [hv] at hans
      have hs : shapeV A = 190 := by unfold shapeV; rw [HSH.out, hv]; rfl
      have HS := Lib.hid hs
      have he : e5 = .returned (.bool false) := hans
      subst he
      clear hs hans h5 hv
      (repeat' (first | (go_big_may; fail) | go_values | go_skip | go_guarded | go_step | go_upon | go_back | dsimp only))
      go_ret
      exact ⟨by rw [HS.out]; rfl, HB5.out⟩
    | some s =>
      rw [hv] at hans
      obtain ⟨he, hnx, _⟩ : e5 = .returned (.bool true) ∧ nx' = s.1 ∧ sl' = s.2 := hans
      subst he
      obtain ⟨c1, _, _⟩ := h5.cellF (o := 1) (u := .int .i64 nx') rfl
      by_cases hq : s.1 = A.length
      · have hs : shapeV A = 0 := by unfold shapeV; rw [HSH.out, hv]; simp [hq]
        have hq2 : ((nx' : Int) == (A.length : Int)) = true := by rw [hnx, hq]; simp
        have hq3 : (nx' : Int) = (A.length : Int) := by rw [hnx, hq]
        have HS := Lib.hid hs
        clear hs h5 hv hq hnx
        (repeat' (first | (go_big_may; fail) | go_values | go_skip | go_guarded | go_step | go_upon | go_back | dsimp only))
        go_ret
        exact ⟨by rw [HS.out]; rfl, HB5.out⟩
      · have hs : shapeV A = 190 := by unfold shapeV; rw [HSH.out, hv]; simp [hq]
        have hq2 : ((nx' : Int) == (A.length : Int)) = false := by rw [beq_eq_false_iff_ne]; omega
        have HS := Lib.hid hs
        clear hs h5 hv hq hnx
        (repeat' (first | (go_big_may; fail) | go_values | go_skip | go_guarded | go_step | go_upon | go_back | dsimp only))
        go_ret
        exact ⟨by rw [HS.out]; rfl, HB5.out⟩
end Go.Proofs.Ytcbdncjknpdnbaa
