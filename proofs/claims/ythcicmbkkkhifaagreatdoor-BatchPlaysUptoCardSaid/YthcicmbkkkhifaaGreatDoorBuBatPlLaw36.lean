/- hornbooklaw09: wakes walked. · BatchSorts walked. -/
import Derived.Test.YthcicmbkkkhifaaGreatDoorBuBatPlLaw35
import Derived.Test.YthcicmbkkkhifaaGreatDoorBuBatPlLaw19
import Derived.Test.YthcicmbkkkhifaaGreatDoorBuBatPlLaw02
set_option linter.unusedSimpArgs false
set_option linter.unusedVariables false
namespace Go.Proofs.YthcicmbkkkhifaaGreatDoor
open Go.RowKit

theorem ofL_ba : ofL [[98], [97]] = [[97], [98]] := RisesL.ext (ofL_rises _) (by unfold RisesL LtW; decide) (fun x => by rw [ofL_mem]; simp [or_comm])
theorem wakes_plain : (finishP (addP (newSt 100) (newF 2) [[98], [97], [99]]).1 (addP (newSt 100) (newF 2) [[98], [97], [99]]).2.1).2.2.1 = [1, 2] ∧
    textP (finishP (addP (newSt 100) (newF 2) [[98], [97], [99]]).1 (addP (newSt 100) (newF 2) [[98], [97], [99]]).2.1).1 1 = [1, 97, 1, 98] ∧ textP (finishP (addP (newSt 100) (newF 2) [[98], [97], [99]]).1 (addP (newSt 100) (newF 2) [[98], [97], [99]]).2.1).1 2 = [1, 99] := by
  have hA : AllOf (newSt (100 : Nat)) 2 [[98], [97], [99]] := allOf (by decide) (by decide) (by decide) (by decide) (by decide)
  obtain ⟨Ls, h1, h2, h3, h4⟩ := hA.runs
  have hG := hA.fin
  rw [show ((100 : Nat) : Int) = 100 from rfl] at h1 h2 hG
  have hl : Ls.length = 2 := h3.trans (by decide)
  match Ls, hl with
  | [L0, L1], _ =>
    have e0 := (h4 0 L0 rfl).1
    have e1 := (h4 1 L1 rfl).1
    simp at e0 e1
    subst e0 e1
    have m1 : ((1 : Nat), (⟨frameL (ofL [[98], [97]]), true⟩ : RunD)) ∈ (finishP (addP (newSt 100) (newF 2) [[98], [97], [99]]).1 (addP (newSt 100) (newF 2) [[98], [97], [99]]).2.1).1.runs := by rw [h1]; simp [runsL]
    have m2 : ((2 : Nat), (⟨frameL (ofL [[99]]), true⟩ : RunD)) ∈ (finishP (addP (newSt 100) (newF 2) [[98], [97], [99]]).1 (addP (newSt 100) (newF 2) [[98], [97], [99]]).2.1).1.runs := by rw [h1]; simp [runsL]
    refine ⟨h2, ?_, ?_⟩
    · have := textP_of hG m1 rfl
      rw [show ((1 : Int)) = (((1 : Nat), (⟨frameL (ofL [[98], [97]]), true⟩ : RunD)).1 : Int) from rfl, this, ofL_ba]
      simp [frameL, uintL_lt]
    · have := textP_of hG m2 rfl
      rw [show ((2 : Int)) = (((2 : Nat), (⟨frameL (ofL [[99]]), true⟩ : RunD)).1 : Int) from rfl, this, ofL_one]
      simp [frameL, uintL_lt]
theorem rd_three {w : World} {g c : Nat} {s0 s1 s2 : List UInt8} (h : w.heap[g]? = some (.cells #[.string ⟨s0.toArray⟩, .string ⟨s1.toArray⟩, .string ⟨s2.toArray⟩] 9 (0, 0))) (hc : 3 ≤ c) (hm : c ≤ maxLen) : RdRow w (.slice (some ⟨g, 0, none⟩) 3 c) 3 1 (strs [s0, s1, s2]) :=
  ⟨by simp [strs], _, _, rfl, hc, hm, fun j u hj => ⟨g, 0, rfl, by
    match j with
    | 0 => simp [strs] at hj; subst hj; exact cell_at h 0
    | 1 => simp [strs] at hj; subst hj; exact cell_at h 1
    | 2 => simp [strs] at hj; subst hj; exact cell_at h 2
    | j + 3 => simp [strs] at hj⟩⟩
set_option maxRecDepth 100000 in
set_option maxHeartbeats 3200000 in
theorem wakes9_calls {w : World} {ef : Nat → Nat × Nat} (hF : Fails w ef fails12) :
    Calls Tryz.prog 5 #[] w fun e w' => e = .returned (.bool true) ∧ Below w.heap.size w w' := by
  have hA : AllOf (newSt (100 : Nat)) 2 [[98], [97], [99]] := allOf (by decide) (by decide) (by decide) (by decide) (by decide)
  obtain ⟨p1, p2, p3⟩ := wakes_plain
  have HF := Lib.hid hF
  have HF11 := Lib.hid (fails12_11 hF)
  have hok := hA.ok
  have hdn := hA.done
  have HA := Lib.hid hA
  rw [show ((100 : Nat) : Int) = 100 from rfl] at HA hok hdn
  have h0 := At.nought (Below.refl w.heap.size w)
  have HN := Lib.hid (New_at h0 Stable.nought (c := 100) (by unfold inI64; omega))
  clear hF hA h0
  go_enter Tryz.func5, Tryz.ntmps5
  (repeat' (first | (go_big_may; fail) | go_values | go_skip | go_guarded | go_step | go_upon | go_back | dsimp only))
  refine HN.out.mono ?_
  rintro e w1 ⟨rfl, h1⟩
  have H1 := Lib.hid h1
  clear h1 HN
  generalize w.heap.size + 1 = b at *
  (repeat' (first | (go_big_may; fail) | go_values | go_skip | go_guarded | go_step | go_upon | go_back | dsimp only))
  refine (FNew_at (b := b) (ef := ef) H1.out ((StoreT.stable _ _).both Stable.nought) (n := 2) (by decide)).mono ?_
  rintro e w2 ⟨k, rfl, h2⟩
  have neqn : ∀ wz : World, (binOp .neq tErr .nilIface .nilIface).run Tryz.prog wz = .ok (.bool false) wz := fun wz => neq_nil wz
  have eqn : ∀ wz : World, (binOp .eql tErr .nilIface .nilIface).run Tryz.prog wz = .ok (.bool true) wz := fun wz => eql_nil wz
  have h3 := (h2.newCell ((FoT.stable _ _ _ _).both ((StoreT.stable _ _).both Stable.nought)) #[.string ⟨#[98]⟩, .string ⟨#[97]⟩, .string ⟨#[99]⟩] 9).perm (show _ = Both (FoT k b ef (newF 2)) (Both (StoreT b (newSt 100)) (Both (CellT w2.heap.size #[.string ⟨#[98]⟩, .string ⟨#[97]⟩, .string ⟨#[99]⟩] 9) Nought)) by ac_rfl)
  have hAd := Add_at (ws := [[98], [97], [99]]) (v := .slice (some ⟨w2.heap.size, 0, none⟩) 3 3) h3 ((CellT.stable _ _ _).both Stable.nought) HF11.out (GoodS.new 100) (fun p hp => by cases hp) (newF_ok _ (by decide)) ⟨_, _, rfl, by decide⟩ (by intro x hx; simp at hx; rcases hx with rfl | rfl | rfl <;> simp) (fun w' h' => rd_three h'.cell.1 (by decide) (by decide))
  have hFi := fun (w' : World) (h' : At w w' (Both (FoT k b ef (addP (newSt 100) (newF 2) [[98], [97], [99]]).2.1) (Both (StoreT b (addP (newSt 100) (newF 2) [[98], [97], [99]]).1) (Both (CellT w2.heap.size #[.string ⟨#[98]⟩, .string ⟨#[97]⟩, .string ⟨#[99]⟩] 9) Nought)))) =>
    Finish_at h' ((CellT.stable _ _ _).both Stable.nought) HF11.out HA.out.good HA.out.seal_ HA.out.fok
  have hGQ := HA.out.fin
  generalize addP (newSt 100) (newF 2) [[98], [97], [99]] = P at *
  generalize finishP P.1 P.2.1 = Q at *
  rw [hok, errV_zero] at hAd
  rw [hdn, errV_zero, p1] at hFi
  have HAD := Lib.hid hAd
  have HFI := Lib.hid hFi
  have HGQ := Lib.hid hGQ
  have HP2 := Lib.hid p2
  have HP3 := Lib.hid p3
  clear h2 h3 hAd hFi hGQ p1 p2 p3 hok hdn HA
  (repeat' (first | (go_big_may; fail) | go_values | go_skip | go_guarded | go_step | go_upon | go_back | dsimp only))
  refine HAD.out.mono ?_
  rintro e w4 ⟨rfl, h4⟩
  have H4 := Lib.hid h4
  clear h4 HAD
  (repeat' (first | (go_big_may; fail) | go_values | go_skip | go_guarded | go_step | go_upon | go_back | dsimp only))
  refine (HFI.out w4 H4.out).mono ?_
  rintro e w5 ⟨v5, rfl, h5⟩
  have h6 := h5.newCell ((RowT.stable _ _).both ((FoT.stable _ _ _ _).both ((StoreT.stable _ _).both ((CellT.stable _ _ _).both Stable.nought)))) #[.int .i64 1, .int .i64 2] tInt
  have hrd : RdRow (w5.alloc (.cells #[.int .i64 1, .int .i64 2] tInt)) v5 (mz [1, 2]).length 1 (intsV (mz [1, 2])) := RdRow.of_own h6.drop.row
  have hrd2 : RdRow (w5.alloc (.cells #[.int .i64 1, .int .i64 2] tInt)) (.slice (some ⟨w5.heap.size, 0, none⟩) 2 2) (mz [1, 2]).length 1 (intsV (mz [1, 2])) :=
    ⟨rfl, _, _, rfl, by decide, by decide, fun j u hj => ⟨w5.heap.size, 0, rfl, by
      match j with
      | 0 => simp [intsV, mz] at hj; subst hj; exact cell_at h6.cell.1 0
      | 1 => simp [intsV, mz] at hj; subst hj; exact cell_at h6.cell.1 1
      | j + 2 => simp [intsV, mz] at hj⟩⟩
  have HI := Lib.hid (ints9_calls (mz [1, 2]) v5 (.slice (some ⟨w5.heap.size, 0, none⟩) 2 2) _ hrd hrd2)
  have HST : Hid (Stable (Both (CellT w5.heap.size #[.int .i64 1, .int .i64 2] tInt) (Both (RowT v5 (mz [1, 2])) (Both (FoT k b ef Q.2.1) (Both (StoreT b Q.1) (Both (CellT w2.heap.size #[.string ⟨#[98]⟩, .string ⟨#[97]⟩, .string ⟨#[99]⟩] 9) Nought)))))) :=
    Lib.hid ((CellT.stable _ _ _).both ((RowT.stable _ _).both ((FoT.stable _ _ _ _).both ((StoreT.stable _ _).both ((CellT.stable _ _ _).both Stable.nought)))))
  have H6 := Lib.hid h6
  clear h5 h6 hrd hrd2 HFI H4
  (repeat' (first | (go_big_may; fail) | go_values | go_skip | go_guarded | go_step | go_upon | go_back | dsimp only))
  refine HI.out.mono ?_
  rintro e w7 ⟨rfl, hb7⟩
  have h7 := (H6.out.mono HST.out hb7).perm (show _ = Both (StoreT b Q.1) (Both (CellT w5.heap.size #[.int .i64 1, .int .i64 2] tInt) (Both (RowT v5 (mz [1, 2])) (Both (FoT k b ef Q.2.1) (Both (CellT w2.heap.size #[.string ⟨#[98]⟩, .string ⟨#[97]⟩, .string ⟨#[99]⟩] 9) Nought)))) by ac_rfl)
  have HS2 : Hid (Stable (Both (CellT w5.heap.size #[.int .i64 1, .int .i64 2] tInt) (Both (RowT v5 (mz [1, 2])) (Both (FoT k b ef Q.2.1) (Both (CellT w2.heap.size #[.string ⟨#[98]⟩, .string ⟨#[97]⟩, .string ⟨#[99]⟩] 9) Nought))))) :=
    Lib.hid ((CellT.stable _ _ _).both ((RowT.stable _ _).both ((FoT.stable _ _ _ _).both ((CellT.stable _ _ _).both Stable.nought))))
  have ht1 := text_at h7 HS2.out HF.out HGQ.out (z := 1) (by unfold inI64; omega)
  rw [HP2.out] at ht1
  have HT1 := Lib.hid ht1
  clear h7 ht1 HI H6 HST hb7
  (repeat' (first | (go_big_may; fail) | go_values | go_skip | go_guarded | go_step | go_upon | go_back | dsimp only))
  refine HT1.out.mono ?_
  rintro e w8 ⟨rfl, h8⟩
  have ht2 := text_at h8 HS2.out HF.out HGQ.out (z := 2) (by unfold inI64; omega)
  rw [HP3.out] at ht2
  have HT2 := Lib.hid ht2
  clear h8 ht2 HT1
  (repeat' (first | (go_big_may; fail) | go_values | go_skip | go_guarded | go_step | go_upon | go_back | dsimp only))
  refine HT2.out.mono ?_
  rintro e w9 ⟨rfl, h9⟩
  have HB := Lib.hid h9.below
  clear h9 HT2
  (repeat' (first | (go_big_may; fail) | go_values | go_skip | go_guarded | go_step | go_upon | go_back | dsimp only))
  go_ret
  exact ⟨rfl, HB.out⟩
end Go.Proofs.YthcicmbkkkhifaaGreatDoor
namespace Go.Proofs.YthcicmbkkkhifaaGreatDoor
open Go.RowKit

theorem bulk_each {ss : List (List UInt8)} (h : ss.length + sumLen ss ≤ 1048576) : ss.length ≤ 1048576 ∧ ∀ x ∈ ss, x.length ≤ 1048576 := by
  refine ⟨by omega, fun x hx => ?_⟩
  have key : ∀ l : List (List UInt8), x ∈ l → x.length ≤ sumLen l := by
    intro l
    induction l with
    | nil => intro h; cases h
    | cons a l ih =>
      intro h
      have e : sumLen (a :: l) = a.length + sumLen l := by simp [sumLen]
      rw [e]
      rcases List.mem_cons.1 h with rfl | h
      · omega
      · have := ih h; omega
  have := key ss hx
  omega
section
variable {W : World} {ef : Nat → Nat × Nat}
end
end Go.Proofs.YthcicmbkkkhifaaGreatDoor
