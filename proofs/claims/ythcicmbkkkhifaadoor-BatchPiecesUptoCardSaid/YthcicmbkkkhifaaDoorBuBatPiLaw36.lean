/- hornbooklaw09: wakes walked. · BatchSorts walked. · BatchPieces walked. -/
import Derived.Test.YthcicmbkkkhifaaDoorBuBatPiLaw35
import Derived.Test.YthcicmbkkkhifaaDoorBuBatPiLaw19
import Derived.Test.YthcicmbkkkhifaaDoorBuBatPiLaw02
set_option linter.unusedSimpArgs false
set_option linter.unusedVariables false
namespace Go.Proofs.YthcicmbkkkhifaaDoor
open Go.RowKit

theorem ofL_ba : ofL [[98], [97]] = [[97], [98]] := RisesL.ext (ofL_rises _) (by unfold RisesL LtW; decide) (fun x => by rw [ofL_mem]; simp [or_comm])
theorem wakes_plain : (finishP (addP (newSt 100) (newF 2) [[98], [97], [99]]).1 (addP (newSt 100) (newF 2) [[98], [97], [99]]).2.1).2.2.1 = [1, 2] ∧
    textP (finishP (addP (newSt 100) (newF 2) [[98], [97], [99]]).1 (addP (newSt 100) (newF 2) [[98], [97], [99]]).2.1).1 1 = [1, 97, 1, 98] ∧ textP (finishP (addP (newSt 100) (newF 2) [[98], [97], [99]]).1 (addP (newSt 100) (newF 2) [[98], [97], [99]]).2.1).1 2 = [1, 99] := by
  have hA : AllOf (newSt (100 : Nat)) 2 [[98], [97], [99]] := allOf (by decide) (by decide) (by decide) (by decide) (by decide)
  obtain ⟨Ls, h1, h2, h3, h4⟩ := hA.runs
  have hG := hA.fin
  rw [show ((100 : Nat) : Int) = 100 from rfl] at h1 h2 hG
  have hl : Ls.length = 2 := h3.trans (by decide)
  match Ls, hl with
  | [L0, L1], _ =>
    have e0 := (h4 0 L0 rfl).1
    have e1 := (h4 1 L1 rfl).1
    simp at e0 e1
    subst e0 e1
    have m1 : ((1 : Nat), (⟨frameL (ofL [[98], [97]]), true⟩ : RunD)) ∈ (finishP (addP (newSt 100) (newF 2) [[98], [97], [99]]).1 (addP (newSt 100) (newF 2) [[98], [97], [99]]).2.1).1.runs := by rw [h1]; simp [runsL]
    have m2 : ((2 : Nat), (⟨frameL (ofL [[99]]), true⟩ : RunD)) ∈ (finishP (addP (newSt 100) (newF 2) [[98], [97], [99]]).1 (addP (newSt 100) (newF 2) [[98], [97], [99]]).2.1).1.runs := by rw [h1]; simp [runsL]
    refine ⟨h2, ?_, ?_⟩
    · have := textP_of hG m1 rfl
      rw [show ((1 : Int)) = (((1 : Nat), (⟨frameL (ofL [[98], [97]]), true⟩ : RunD)).1 : Int) from rfl, this, ofL_ba]
      simp [frameL, uintL_lt]
    · have := textP_of hG m2 rfl
      rw [show ((2 : Int)) = (((2 : Nat), (⟨frameL (ofL [[99]]), true⟩ : RunD)).1 : Int) from rfl, this, ofL_one]
      simp [frameL, uintL_lt]
theorem rd_three {w : World} {g c : Nat} {s0 s1 s2 : List UInt8} (h : w.heap[g]? = some (.cells #[.string ⟨s0.toArray⟩, .string ⟨s1.toArray⟩, .string ⟨s2.toArray⟩] 9 (0, 0))) (hc : 3 ≤ c) (hm : c ≤ maxLen) : RdRow w (.slice (some ⟨g, 0, none⟩) 3 c) 3 1 (strs [s0, s1, s2]) :=
  ⟨by simp [strs], _, _, rfl, hc, hm, fun j u hj => ⟨g, 0, rfl, by
    match j with
    | 0 => simp [strs] at hj; subst hj; exact cell_at h 0
    | 1 => simp [strs] at hj; subst hj; exact cell_at h 1
    | 2 => simp [strs] at hj; subst hj; exact cell_at h 2
    | j + 3 => simp [strs] at hj⟩⟩
set_option maxRecDepth 100000 in
set_option maxHeartbeats 3200000 in
theorem wakes9_calls {w : World} {ef : Nat → Nat × Nat} (hF : Fails w ef fails12) :
    Calls Tryd.prog 6 #[] w fun e w' => e = .returned (.bool true) ∧ Below w.heap.size w w' := by
  have hA : AllOf (newSt (100 : Nat)) 2 [[98], [97], [99]] := allOf (by decide) (by decide) (by decide) (by decide) (by decide)
  obtain ⟨p1, p2, p3⟩ := wakes_plain
  have HF := Lib.hid hF
  have HF11 := Lib.hid (fails12_11 hF)
  have hok := hA.ok
  have hdn := hA.done
  have HA := Lib.hid hA
  rw [show ((100 : Nat) : Int) = 100 from rfl] at HA hok hdn
  have h0 := At.nought (Below.refl w.heap.size w)
  have HN := Lib.hid (New_at h0 Stable.nought (c := 100) (by unfold inI64; omega))
  clear hF hA h0
  go_enter Tryd.func6, Tryd.ntmps6
  (repeat' (first | (go_big_may; fail) | go_values | go_skip | go_guarded | go_step | go_upon | go_back | dsimp only))
  refine HN.out.mono ?_
  rintro e w1 ⟨rfl, h1⟩
  have H1 := Lib.hid h1
  clear h1 HN
  generalize w.heap.size + 1 = b at *
  (repeat' (first | (go_big_may; fail) | go_values | go_skip | go_guarded | go_step | go_upon | go_back | dsimp only))
  refine (FNew_at (b := b) (ef := ef) H1.out ((StoreT.stable _ _).both Stable.nought) (n := 2) (by decide)).mono ?_
  rintro e w2 ⟨k, rfl, h2⟩
  have neqn : ∀ wz : World, (binOp .neq tErr .nilIface .nilIface).run Tryd.prog wz = .ok (.bool false) wz := fun wz => neq_nil wz
  have eqn : ∀ wz : World, (binOp .eql tErr .nilIface .nilIface).run Tryd.prog wz = .ok (.bool true) wz := fun wz => eql_nil wz
  have h3 := (h2.newCell ((FoT.stable _ _ _ _).both ((StoreT.stable _ _).both Stable.nought)) #[.string ⟨#[98]⟩, .string ⟨#[97]⟩, .string ⟨#[99]⟩] 9).perm (show _ = Both (FoT k b ef (newF 2)) (Both (StoreT b (newSt 100)) (Both (CellT w2.heap.size #[.string ⟨#[98]⟩, .string ⟨#[97]⟩, .string ⟨#[99]⟩] 9) Nought)) by ac_rfl)
  have hAd := Add_at (ws := [[98], [97], [99]]) (v := .slice (some ⟨w2.heap.size, 0, none⟩) 3 3) h3 ((CellT.stable _ _ _).both Stable.nought) HF11.out (GoodS.new 100) (fun p hp => by cases hp) (newF_ok _ (by decide)) ⟨_, _, rfl, by decide⟩ (by intro x hx; simp at hx; rcases hx with rfl | rfl | rfl <;> simp) (fun w' h' => rd_three h'.cell.1 (by decide) (by decide))
  have hFi := fun (w' : World) (h' : At w w' (Both (FoT k b ef (addP (newSt 100) (newF 2) [[98], [97], [99]]).2.1) (Both (StoreT b (addP (newSt 100) (newF 2) [[98], [97], [99]]).1) (Both (CellT w2.heap.size #[.string ⟨#[98]⟩, .string ⟨#[97]⟩, .string ⟨#[99]⟩] 9) Nought)))) =>
    Finish_at h' ((CellT.stable _ _ _).both Stable.nought) HF11.out HA.out.good HA.out.seal_ HA.out.fok
  have hGQ := HA.out.fin
  generalize addP (newSt 100) (newF 2) [[98], [97], [99]] = P at *
  generalize finishP P.1 P.2.1 = Q at *
  rw [hok, errV_zero] at hAd
  rw [hdn, errV_zero, p1] at hFi
  have HAD := Lib.hid hAd
  have HFI := Lib.hid hFi
  have HGQ := Lib.hid hGQ
  have HP2 := Lib.hid p2
  have HP3 := Lib.hid p3
  clear h2 h3 hAd hFi hGQ p1 p2 p3 hok hdn HA
  (repeat' (first | (go_big_may; fail) | go_values | go_skip | go_guarded | go_step | go_upon | go_back | dsimp only))
  refine HAD.out.mono ?_
  rintro e w4 ⟨rfl, h4⟩
  have H4 := Lib.hid h4
  clear h4 HAD
  (repeat' (first | (go_big_may; fail) | go_values | go_skip | go_guarded | go_step | go_upon | go_back | dsimp only))
  refine (HFI.out w4 H4.out).mono ?_
  rintro e w5 ⟨v5, rfl, h5⟩
  have h6 := h5.newCell ((RowT.stable _ _).both ((FoT.stable _ _ _ _).both ((StoreT.stable _ _).both ((CellT.stable _ _ _).both Stable.nought)))) #[.int .i64 1, .int .i64 2] tInt
  have hrd : RdRow (w5.alloc (.cells #[.int .i64 1, .int .i64 2] tInt)) v5 (mz [1, 2]).length 1 (intsV (mz [1, 2])) := RdRow.of_own h6.drop.row
  have hrd2 : RdRow (w5.alloc (.cells #[.int .i64 1, .int .i64 2] tInt)) (.slice (some ⟨w5.heap.size, 0, none⟩) 2 2) (mz [1, 2]).length 1 (intsV (mz [1, 2])) :=
    ⟨rfl, _, _, rfl, by decide, by decide, fun j u hj => ⟨w5.heap.size, 0, rfl, by
      match j with
      | 0 => simp [intsV, mz] at hj; subst hj; exact cell_at h6.cell.1 0
      | 1 => simp [intsV, mz] at hj; subst hj; exact cell_at h6.cell.1 1
      | j + 2 => simp [intsV, mz] at hj⟩⟩
  have HI := Lib.hid (ints9_calls (mz [1, 2]) v5 (.slice (some ⟨w5.heap.size, 0, none⟩) 2 2) _ hrd hrd2)
  have HST : Hid (Stable (Both (CellT w5.heap.size #[.int .i64 1, .int .i64 2] tInt) (Both (RowT v5 (mz [1, 2])) (Both (FoT k b ef Q.2.1) (Both (StoreT b Q.1) (Both (CellT w2.heap.size #[.string ⟨#[98]⟩, .string ⟨#[97]⟩, .string ⟨#[99]⟩] 9) Nought)))))) :=
    Lib.hid ((CellT.stable _ _ _).both ((RowT.stable _ _).both ((FoT.stable _ _ _ _).both ((StoreT.stable _ _).both ((CellT.stable _ _ _).both Stable.nought)))))
  have H6 := Lib.hid h6
  clear h5 h6 hrd hrd2 HFI H4
  (repeat' (first | (go_big_may; fail) | go_values | go_skip | go_guarded | go_step | go_upon | go_back | dsimp only))
  refine HI.out.mono ?_
  rintro e w7 ⟨rfl, hb7⟩
  have h7 := (H6.out.mono HST.out hb7).perm (show _ = Both (StoreT b Q.1) (Both (CellT w5.heap.size #[.int .i64 1, .int .i64 2] tInt) (Both (RowT v5 (mz [1, 2])) (Both (FoT k b ef Q.2.1) (Both (CellT w2.heap.size #[.string ⟨#[98]⟩, .string ⟨#[97]⟩, .string ⟨#[99]⟩] 9) Nought)))) by ac_rfl)
  have HS2 : Hid (Stable (Both (CellT w5.heap.size #[.int .i64 1, .int .i64 2] tInt) (Both (RowT v5 (mz [1, 2])) (Both (FoT k b ef Q.2.1) (Both (CellT w2.heap.size #[.string ⟨#[98]⟩, .string ⟨#[97]⟩, .string ⟨#[99]⟩] 9) Nought))))) :=
    Lib.hid ((CellT.stable _ _ _).both ((RowT.stable _ _).both ((FoT.stable _ _ _ _).both ((CellT.stable _ _ _).both Stable.nought))))
  have ht1 := text_at h7 HS2.out HF.out HGQ.out (z := 1) (by unfold inI64; omega)
  rw [HP2.out] at ht1
  have HT1 := Lib.hid ht1
  clear h7 ht1 HI H6 HST hb7
  (repeat' (first | (go_big_may; fail) | go_values | go_skip | go_guarded | go_step | go_upon | go_back | dsimp only))
  refine HT1.out.mono ?_
  rintro e w8 ⟨rfl, h8⟩
  have ht2 := text_at h8 HS2.out HF.out HGQ.out (z := 2) (by unfold inI64; omega)
  rw [HP3.out] at ht2
  have HT2 := Lib.hid ht2
  clear h8 ht2 HT1
  (repeat' (first | (go_big_may; fail) | go_values | go_skip | go_guarded | go_step | go_upon | go_back | dsimp only))
  refine HT2.out.mono ?_
  rintro e w9 ⟨rfl, h9⟩
  have HB := Lib.hid h9.below
  clear h9 HT2
  (repeat' (first | (go_big_may; fail) | go_values | go_skip | go_guarded | go_step | go_upon | go_back | dsimp only))
  go_ret
  exact ⟨rfl, HB.out⟩
end Go.Proofs.YthcicmbkkkhifaaDoor
namespace Go.Proofs.YthcicmbkkkhifaaDoor
open Go.RowKit

theorem block_mod (m : Nat) (hm : 1 ≤ m ∧ m ≤ 1000) (B : Int) : ∃ b : Nat, 1 ≤ b ∧ b ≤ m ∧ 1 + max 0 B % (m : Int) = (b : Int) ∧ IntKind.i64.wrap (1 + max 0 B % (m : Int)) = (b : Int) := by
  have h0 : (0 : Int) ≤ max 0 B % (m : Int) := Int.emod_nonneg _ (by omega)
  have h1 : max 0 B % (m : Int) < (m : Int) := Int.emod_lt_of_pos _ (by omega)
  refine ⟨(1 + max 0 B % (m : Int)).toNat, by omega, by omega, by omega, ?_⟩
  rw [IntKind.wrap_i64] <;> omega
theorem bulk_each {ss : List (List UInt8)} (h : ss.length + sumLen ss ≤ 1048576) : ss.length ≤ 1048576 ∧ ∀ x ∈ ss, x.length ≤ 1048576 := by
  refine ⟨by omega, fun x hx => ?_⟩
  have key : ∀ l : List (List UInt8), x ∈ l → x.length ≤ sumLen l := by
    intro l
    induction l with
    | nil => intro h; cases h
    | cons a l ih =>
      intro h
      have e : sumLen (a :: l) = a.length + sumLen l := by simp [sumLen]
      rw [e]
      rcases List.mem_cons.1 h with rfl | h
      · omega
      · have := ih h; omega
  have := key ss hx
  omega
section
variable {W : World} {ef : Nat → Nat × Nat}
end
end Go.Proofs.YthcicmbkkkhifaaDoor
namespace Go.Proofs.YthcicmbkkkhifaaDoor
open Go.RowKit

theorem wsum_take : ∀ (L : List (List UInt8)) (m : Nat), wsum (L.take m) ≤ wsum L
  | [], m => by simp [wsum]
  | r :: l, 0 => by simp [wsum]
  | r :: l, m + 1 => by
    have := wsum_take l m
    simp only [List.take_succ_cons, wsum]; omega
theorem fits_take {L : List (List UInt8)} (h : fits L = true) (m : Nat) : fits (L.take m) = true := fits_mem.2 fun r hr => fits_mem.1 h r (List.mem_of_mem_take hr)
/-- A former behind its first m words. -/
structure Pc (c b : Nat) (L : List (List UInt8)) (m : Nat) : Prop where
  eq : addP (newSt c) (newF b) (L.take m) = addL (newSt c) (newF b) (L.take m)
  code : (addL (newSt c) (newF b) (L.take m)).2.2 = 0
  dead : (addL (newSt c) (newF b) (L.take m)).2.1.dead = 0
  good : GoodS (addL (newSt c) (newF b) (L.take m)).1
  seal_ : Sealed (addL (newSt c) (newF b) (L.take m)).1
  fok : FOk (addL (newSt c) (newF b) (L.take m)).1 (addL (newSt c) (newF b) (L.take m)).2.1
theorem pc {c b : Nat} (hc : c ≤ 67108864) (hb : 1 ≤ b ∧ b ≤ 65536) {L : List (List UInt8)} (hw : fits L = true) (hr : wsum L ≤ c) (hl : L.length ≤ 1048576) (m : Nat) : Pc c b L m := by
  have hA := allOf hc hb (fits_take hw m) (Nat.le_trans (wsum_take L m) hr) (by simp; omega)
  have hk := addL_keep (L.take m) (GoodS.new c) (fun p hp => by cases hp) (newF_ok (newSt c) hb) rfl (fits_take hw m)
  have e : addP (newSt c) (newF b) (L.take m) = addL (newSt c) (newF b) (L.take m) := by
    unfold addP
    rw [if_neg (by simp [newF]), if_neg (by simp [fits_take hw m])]
  have h0 : (addL (newSt c) (newF b) (L.take m)).2.2 = 0 := by rw [← e]; exact hA.ok
  exact ⟨e, h0, hk.2.1.trans h0, hk.1.good, hk.1.seal_, hk.1.ok⟩
theorem Pc.step {c b : Nat} {L : List (List UInt8)} {m : Nat} (h : Pc c b L m) (hw : fits L = true) {x : List UInt8} (hx : L[m]? = some x) :
    addP (addL (newSt c) (newF b) (L.take m)).1 (addL (newSt c) (newF b) (L.take m)).2.1 [x] = addL (newSt c) (newF b) (L.take (m + 1)) := by
  have hfx : fits [x] = true := by simp [fits, fits_at hw hx]
  have e : L.take (m + 1) = L.take m ++ [x] := by
    obtain ⟨h1, h2⟩ := List.getElem?_eq_some_iff.1 hx
    rw [List.take_succ_eq_append_getElem h1, h2]
  rw [e, addL_append _ _ h.code]
  unfold addP
  rw [if_neg (by simp [h.dead]), if_neg (by simp [hfx])]
theorem rd_one9 {w : World} {g c : Nat} {s : List UInt8} (h : w.heap[g]? = some (.cells #[.string ⟨s.toArray⟩] 9 (0, 0))) (hc : 1 ≤ c) (hm : c ≤ maxLen) : RdRow w (.slice (some ⟨g, 0, none⟩) 1 c) 1 1 (strs [s]) :=
  ⟨by simp [strs], _, _, rfl, hc, hm, fun j u hj => ⟨g, 0, rfl, by
    match j with
    | 0 => simp [strs] at hj; subst hj; exact cell_at h 0
    | j + 1 => simp [strs] at hj⟩⟩
theorem rd_none9 (w : World) : RdRow w (.slice none 0 0) 0 1 (strs []) := ⟨rfl, none, 0, rfl, Nat.le_refl _, by simp [maxLen], fun j u hj => by simp [strs] at hj⟩
theorem own_le9 {w : World} {B : Nat} {e : TypeId} {size : Nat} {ao : Option Addr} {n cap : Nat} {xs : List Value} (h : w.ownsRow B e size (.slice ao n cap) n xs) : n ≤ cap := by
  obtain ⟨_, _, he, h1, _⟩ := own_shape h
  cases he
  exact h1
theorem cut_at (L : List (List UInt8)) (cut : Int) : ∃ M N, L = M ++ N ∧ max 0 (min cut (L.length : Int)) = (M.length : Int) := by
  refine ⟨L.take (max 0 (min cut (L.length : Int))).toNat, L.drop (max 0 (min cut (L.length : Int))).toNat, (List.take_append_drop _ _).symm, ?_⟩
  rw [List.length_take]
  omega
theorem RdRow.front9 {w : World} {v : Option Addr} {n cap : Nat} {M N : List (List UInt8)} (h : RdRow w (.slice v n cap) n 1 (strs (M ++ N))) : RdRow w (.slice v M.length cap) M.length 1 (strs M) := by
  have hn : n = M.length + N.length := by have := h.len; simpa using this
  obtain ⟨h1, a, cp, h2, h3, h4, h5⟩ := h
  cases h2
  refine ⟨by simp, _, _, rfl, by omega, h4, fun j u hj => h5 j u ?_⟩
  have hl := (List.getElem?_eq_some_iff.1 hj).1
  rw [strs, List.map_append, List.getElem?_append_left hl]
  exact hj
theorem Pc.none {c b : Nat} {L : List (List UInt8)} {m : Nat} (h : Pc c b L m) :
    addP (addL (newSt c) (newF b) (L.take m)).1 (addL (newSt c) (newF b) (L.take m)).2.1 [] = addL (newSt c) (newF b) (L.take m) := by
  unfold addP
  rw [if_neg (by simp [h.dead]), if_neg (by simp [fits]), addL_nil, ← h.code]
set_option maxRecDepth 100000 in
set_option maxHeartbeats 6400000 in
theorem batchPieces_walk (W : World) (ef : Nat → Nat × Nat) (hF : Fails W ef fails12) (ss : List (List UInt8)) (v : Value) (rd : RdRow W v ss.length 1 (strs ss)) (hbulk : ss.length + sumLen ss ≤ 1048576) (cut : Int) (hcut : inI64 cut) (B : Int) (_ : inI64 B) :
    Calls Tryd.prog 4 #[v, .int .i64 cut, .int .i64 B] W fun e w' => e = .returned (.bool true) ∧ Below W.heap.size W w' := by
  obtain ⟨hss, hsx⟩ := bulk_each (ss := ss) (by omega)
  obtain ⟨ft1, ft2, ft3, ft4⟩ := fitW_facts ss 0
  have ft3 := ft3 (by omega)
  obtain ⟨b, hb1, hb2, hb3, hb3w⟩ := block_mod 20 (by omega) B
  have hb4 : IntKind.i64.wrap (b : Int) = (b : Int) := by rw [IntKind.wrap_i64] <;> omega
  rw [show ((20 : Nat) : Int) = 20 from rfl] at hb3 hb3w
  have hnot : ∀ (x : Bool) (w : World), (Op.unary .not (.bool x)).run Tryd.prog w = .ok (.bool (!x)) w := fun _ _ => rfl
  have HWK := Lib.hid (wakes9_calls hF)
  have HF := Lib.hid hF
  have HF11 := Lib.hid (fails12_11 hF)
  have RD := Lib.hid rd
  have HSS := Lib.hid hss
  have HSX := Lib.hid hsx
  have hll : (fitW ss 0).1.length ≤ 1048576 := by omega
  have hP := pc (c := (fitW ss 0).2) (b := b) (L := (fitW ss 0).1) (by omega) (by omega) ft1 (by omega) hll
  have hA := allOf (c := (fitW ss 0).2) (b := b) (ws := (fitW ss 0).1) (by omega) (by omega) ft1 (by omega) (by omega)
  have HA := Lib.hid hA
  have HP := Lib.hid hP
  have HFT := Lib.hid (And.intro ft1 (And.intro ft3 hll))
  have HB := Lib.hid (And.intro hb1 hb2)
  have HCUT := Lib.hid hcut
  clear hF rd hss hsx hA hP ft1 ft2 ft3 ft4 hll hb1 hb2 hbulk hcut
  go_enter Tryd.func4, Tryd.ntmps4
  (repeat' (first | (go_big_may; fail) | go_values | go_skip | go_guarded | go_step | go_upon | go_back | dsimp only))
  refine HWK.out.mono ?_
  rintro e w1 ⟨rfl, hbw⟩
  have H1 := Lib.hid (At.nought hbw)
  clear hbw HWK
  (repeat' (first | (go_big_may; fail) | go_values | go_skip | go_guarded | go_step | go_upon | go_back | dsimp only))
  refine (fit9_at H1.out Stable.nought RD.out HSS.out HSX.out).mono ?_
  rintro e w2 ⟨vg, rfl, hnil, h2⟩
  obtain ⟨ga, gc, hvg, hgc, hgm⟩ := own_shape h2.rowG
  subst hvg
  have H2 := Lib.hid h2
  have HNI := Lib.hid hnil
  clear h2 H1 hb3w hb3 hb4 hnil
  generalize (fitW ss 0).1 = L at *
  generalize (fitW ss 0).2 = n at *
  (repeat' (first | (go_big_may; fail) | go_values | go_skip | go_guarded | go_step | go_upon | go_back | dsimp only))
  have hst2 := (RowG.stable tSx 1 (.slice ga L.length gc) L.length (strs L)).both Stable.nought
  have HFN := Lib.hid HFT.out.2.1
  refine (New_at H2.out hst2 (c := n) (by have := HFN.out; unfold inI64; omega)).mono ?_
  rintro e w3 ⟨rfl, h3⟩
  have H3 := Lib.hid h3
  have HST2 := Lib.hid hst2
  clear h3 hst2 H2
  generalize w2.heap.size + 1 = sb at *
  (repeat' (first | (go_big_may; fail) | go_values | go_skip | go_guarded | go_step | go_upon | go_back | dsimp only))
  refine (New_at H3.out ((StoreT.stable _ _).both HST2.out) (c := n) (by have := HFN.out; unfold inI64; omega)).mono ?_
  rintro e w4 ⟨rfl, h4⟩
  have H4 := Lib.hid h4
  clear h4 H3
  generalize w3.heap.size + 1 = tb at *
  (repeat' (first | (go_big_may; fail) | go_values | go_skip | go_guarded | go_step | go_upon | go_back | dsimp only))
  refine (FNew_at (b := sb) (ef := ef) H4.out ((StoreT.stable _ _).both ((StoreT.stable _ _).both HST2.out)) (n := b) (by have := HB.out; omega)).mono ?_
  rintro e w5 ⟨k, rfl, h5⟩
  have H5 := Lib.hid h5
  clear h5 H4
  (repeat' (first | (go_big_may; fail) | go_values | go_skip | go_guarded | go_step | go_upon | go_back | dsimp only))
  refine (FNew_at (b := tb) (ef := ef) H5.out ((FoT.stable _ _ _ _).both ((StoreT.stable _ _).both ((StoreT.stable _ _).both HST2.out))) (n := b) (by have := HB.out; omega)).mono ?_
  rintro e w6 ⟨k2, rfl, h6⟩
  have neqn : ∀ wz : World, (binOp .neq tErr .nilIface .nilIface).run Tryd.prog wz = .ok (.bool false) wz := fun wz => neq_nil wz
  have h7 := h6.perm (show _ = Both (RowG tSx 1 (.slice ga L.length gc) L.length (strs L)) (Both (FoT k sb ef (newF b)) (Both (StoreT sb (newSt n)) (Both (FoT k2 tb ef (newF b)) (Both (StoreT tb (newSt n)) Nought)))) by ac_rfl)
  have HTW := Lib.hid (twin9_calls L (.slice ga L.length gc) w6 (RdRow.of_own h7.rowG) (by have := HFT.out.2.2; omega))
  have H7 := Lib.hid h7
  clear h6 h7 H5
  (repeat' (first | (go_big_may; fail) | go_values | go_skip | go_guarded | go_step | go_upon | go_back | dsimp only))
  refine HTW.out.mono ?_
  rintro e w8 ⟨vt, rfl, hto, hbt⟩
  obtain ⟨ta, tc, hvt, _, _⟩ := own_shape hto
  subst hvt
  have hst7 : Stable (Both (RowG tSx 1 (.slice ga L.length gc) L.length (strs L)) (Both (FoT k sb ef (newF b)) (Both (StoreT sb (newSt n)) (Both (FoT k2 tb ef (newF b)) (Both (StoreT tb (newSt n)) Nought))))) := (RowG.stable _ _ _ _ _).both ((FoT.stable _ _ _ _).both ((StoreT.stable _ _).both ((FoT.stable _ _ _ _).both ((StoreT.stable _ _).both Stable.nought))))
  have hsR : Stable (Both (RowG tSx 1 (.slice ta L.length tc) L.length (strs L)) (Both (RowG tSx 1 (.slice ga L.length gc) L.length (strs L)) (Both (FoT k2 tb ef (newF b)) (Both (StoreT tb (newSt n)) Nought)))) := (RowG.stable _ _ _ _ _).both ((RowG.stable _ _ _ _ _).both ((FoT.stable _ _ _ _).both ((StoreT.stable _ _).both Stable.nought)))
  have h9 := (H7.out.newRowG hst7 hbt hto).perm (show _ = Both (FoT k sb ef (newF b)) (Both (StoreT sb (newSt n)) (Both (RowG tSx 1 (.slice ta L.length tc) L.length (strs L)) (Both (RowG tSx 1 (.slice ga L.length gc) L.length (strs L)) (Both (FoT k2 tb ef (newF b)) (Both (StoreT tb (newSt n)) Nought))))) by ac_rfl)
  have hAd := Add_at (ws := L) h9 hsR HF11.out (GoodS.new n) (fun p hp => by cases hp) (newF_ok _ (by have := HB.out; omega)) ⟨_, _, rfl, by have := HFT.out.2.2; omega⟩ (fun x hx => by have := fits_mem.1 HFT.out.1 x hx; omega) (fun w' h' => RdRow.of_own h'.rowG)
  have hall : addP (newSt n) (newF b) L = addL (newSt n) (newF b) (L.take L.length) := by
    have := (HP.out L.length).eq
    rw [List.take_length] at this
    rw [List.take_length]
    exact this
  rw [hall, (HP.out L.length).code, errV_zero] at hAd
  have HAD := Lib.hid hAd
  have HALL := Lib.hid hall
  clear h9 hsR hst7 hAd hall hto hbt HTW H7
  (repeat' (first | (go_big_may; fail) | go_values | go_skip | go_guarded | go_step | go_upon | go_back | dsimp only))
  refine HAD.out.mono ?_
  rintro e w9 ⟨rfl, h10⟩
  have H10 := Lib.hid h10
  clear h10 HAD
  obtain ⟨M, N, hMN, hmx⟩ := cut_at L cut
  have hlL := congrArg List.length hMN
  rw [List.length_append] at hlL
  have hgc2 : L.length ≤ gc := own_le9 H10.out.drop.drop.drop.rowG
  have hm0 : (0 : Int) ≤ (M.length : Int) := by omega
  have hm1 : (M.length : Int) ≤ (gc : Int) := by omega
  have hm2 : (M.length : Int) ≤ (L.length : Int) := by omega
  have HLL := Lib.hid hlL
  have HMN := Lib.hid hMN
  clear hlL hMN
  have hfr : RdRow w9 (.slice ga M.length gc) M.length 1 (strs M) := by
    have := RdRow.of_own H10.out.drop.drop.drop.rowG
    rw [show strs L = strs (M ++ N) by rw [HMN.out]] at this
    exact this.front9
  have HTW2 := Lib.hid (twin9_calls M (.slice ga M.length gc) w9 hfr (by have := HFT.out.2.2; have := HLL.out; omega))
  clear hfr
  (repeat' (first | (go_big_may; fail) | go_values | go_skip | go_guarded | go_step | go_upon | go_back | dsimp only))
  refine HTW2.out.mono ?_
  rintro e w11 ⟨vt2, rfl, hto, hbt⟩
  obtain ⟨ta2, tc2, hvt, _, _⟩ := own_shape hto
  subst hvt
  obtain ⟨G, hG⟩ : ∃ G : Nat → St × FmD × Nat, G = fun m => addL (newSt n) (newF b) (L.take m) := ⟨_, rfl⟩
  have hGL : addL (newSt n) (newF b) (L.take L.length) = G L.length := by rw [hG]
  have hPG : ∀ m, GoodS (G m).1 ∧ Sealed (G m).1 ∧ FOk (G m).1 (G m).2.1 ∧ (G m).2.2 = 0 := fun m => by
    rw [hG]
    exact ⟨(HP.out m).good, (HP.out m).seal_, (HP.out m).fok, (HP.out m).code⟩
  have hstep : ∀ m x, L[m]? = some x → addP (G m).1 (G m).2.1 [x] = G (m + 1) := fun m x hx => by
    rw [hG]
    exact (HP.out m).step HFT.out.1 hx
  have hnone : ∀ m, addP (G m).1 (G m).2.1 [] = G m := fun m => by
    rw [hG]
    exact (HP.out m).none
  have hM1 : addP (newSt n) (newF b) M = G M.length := by
    have := (HP.out M.length).eq
    rw [show L.take M.length = M by rw [HMN.out, List.take_left]] at this
    rw [this, hG]
    dsimp only
    rw [show L.take M.length = M by rw [HMN.out, List.take_left]]
  have hst10 : Stable (Both (FoT k sb ef (G L.length).2.1) (Both (StoreT sb (G L.length).1) (Both (RowG tSx 1 (.slice ta L.length tc) L.length (strs L)) (Both (RowG tSx 1 (.slice ga L.length gc) L.length (strs L)) (Both (FoT k2 tb ef (newF b)) (Both (StoreT tb (newSt n)) Nought)))))) := (FoT.stable _ _ _ _).both ((StoreT.stable _ _).both ((RowG.stable _ _ _ _ _).both ((RowG.stable _ _ _ _ _).both ((FoT.stable _ _ _ _).both ((StoreT.stable _ _).both Stable.nought)))))
  have h10 := H10.out
  rw [hGL] at h10
  have hsX : Stable (Both (RowG tSx 1 (.slice ga L.length gc) L.length (strs L)) (Both (FoT k sb ef (G L.length).2.1) (StoreT sb (G L.length).1))) := (RowG.stable _ _ _ _ _).both ((FoT.stable _ _ _ _).both (StoreT.stable _ _))
  have h12 := ((h10.newRowG hst10 hbt hto).perm (show _ = Both (RowG tSx 1 (.slice ta L.length tc) L.length (strs L)) (Both Nought (Both (FoT k2 tb ef (newF b)) (Both (StoreT tb (newSt n)) (Both (RowG tSx 1 (.slice ta2 M.length tc2) M.length (strs M)) (Both (RowG tSx 1 (.slice ga L.length gc) L.length (strs L)) (Both (FoT k sb ef (G L.length).2.1) (StoreT sb (G L.length).1))))))) by ac_rfl)).drop.drop
  have hAd := Add_at (ws := M) h12 ((RowG.stable _ _ _ _ _).both hsX) HF11.out (GoodS.new n) (fun p hp => by cases hp) (newF_ok _ (by have := HB.out; omega)) ⟨_, _, rfl, by have := HFT.out.2.2; have := HLL.out; omega⟩ (fun x hx => by have := fits_mem.1 HFT.out.1 x (by rw [HMN.out]; simp [hx]); omega) (fun w' h' => RdRow.of_own h'.rowG)
  rw [hM1, (hPG _).2.2.2, errV_zero] at hAd
  have hAd0 := fun (w' : World) (h' : At W w' (Both (FoT k2 tb ef (G M.length).2.1) (Both (StoreT tb (G M.length).1) (Both (RowG tSx 1 (.slice ta2 M.length tc2) M.length (strs M)) (Both (RowG tSx 1 (.slice ga L.length gc) L.length (strs L)) (Both (FoT k sb ef (G L.length).2.1) (StoreT sb (G L.length).1))))))) =>
    Add_at (ws := []) (v := .slice none 0 0) h' ((RowG.stable _ _ _ _ _).both hsX) HF11.out (hPG _).1 (hPG _).2.1 (hPG _).2.2.1 ⟨_, _, rfl, by decide⟩ (fun x hx => by cases hx) (fun w' h' => rd_none9 w')
  rw [hnone, (hPG _).2.2.2, errV_zero] at hAd0
  have HAD := Lib.hid hAd
  have HAD0 := Lib.hid hAd0
  have HG := Lib.hid hG
  have HPG := Lib.hid hPG
  have HSTEP := Lib.hid hstep
  have HSX2 := Lib.hid hsX
  clear h10 h12 hst10 hsX hAd hAd0 hto hbt hG hPG hstep hnone hM1 hGL HTW2 H10 HP
  (repeat' (first | (go_big_may; fail) | go_values | go_skip | go_guarded | go_step | go_upon | go_back | dsimp only))
  refine HAD.out.mono ?_
  rintro e w12 ⟨rfl, h13⟩
  have H13 := Lib.hid h13
  clear h13 HAD
  (repeat' (first | (go_big_may; fail) | go_values | go_skip | go_guarded | go_step | go_upon | go_back | dsimp only))
  refine (HAD0.out w12 H13.out).mono ?_
  rintro e w13 ⟨rfl, h14⟩
  have h15 := (h14.perm (show _ = Both (RowG tSx 1 (.slice ta2 M.length tc2) M.length (strs M)) (Both (FoT k2 tb ef (G M.length).2.1) (Both (StoreT tb (G M.length).1) (Both (RowG tSx 1 (.slice ga L.length gc) L.length (strs L)) (Both (FoT k sb ef (G L.length).2.1) (StoreT sb (G L.length).1))))) by ac_rfl)).drop
  have H15 := Lib.hid h15
  clear h14 h15 HAD0 H13
  (repeat' (first | (go_big_may; fail) | go_values | go_skip | go_guarded | go_step | go_upon | go_back | dsimp only))
  go_loopw [91] (fun vi wr => ∃ (i : Nat), vi = .int .i64 i ∧ i ≤ N.length ∧ At W wr (Both (FoT k2 tb ef (G (M.length + i)).2.1) (Both (StoreT tb (G (M.length + i)).1) (Both (RowG tSx 1 (.slice ga L.length gc) L.length (strs L)) (Both (FoT k sb ef (G L.length).2.1) (StoreT sb (G L.length).1)))))) (fun vi _ => N.length - (intOf vi).toNat)
  case atStart => exact ⟨0, rfl, Nat.zero_le _, H15.out⟩
  case round =>
    obtain ⟨i, rfl, hi, h16⟩ := hrel
    clear H15
    have hlL := HLL.out
    have hl20 := HFT.out.2.2
    by_cases hlt : i < N.length
    · obtain ⟨x, hx⟩ : ∃ x, N[i]? = some x := ⟨_, List.getElem?_eq_getElem hlt⟩
      have hxL : L[M.length + i]? = some x := by rw [HMN.out, List.getElem?_append_right (by omega), Nat.add_sub_cancel_left]; exact hx
      obtain ⟨gg, gc', hgv, _, _, _⟩ := own_cut h16.drop.drop.rowG (by omega)
      simp only [Value.slice.injEq] at hgv
      obtain ⟨hg1, _, hg2⟩ := hgv
      subst hg1
      subst hg2
      have hcell := (h16.drop.drop.rowCell (j := M.length + i) (u := .string ⟨x.toArray⟩) (by simp [strs, hxL])).1
      have hgne : ¬ gc = M.length := by omega
      have hi0 : (0 : Int) ≤ i := by omega
      have hi1 : (i : Int) < ((L.length - M.length : Nat) : Int) := by omega
      have hwr : IntKind.i64.wrap ((i : Int) + 1) = ((i + 1 : Nat) : Int) := by rw [IntKind.wrap_i64] <;> omega
      have hstA : Stable (Both (FoT k2 tb ef (G (M.length + i)).2.1) (Both (StoreT tb (G (M.length + i)).1) (Both (RowG tSx 1 (.slice (some ⟨gg, 0, none⟩) L.length gc) L.length (strs L)) (Both (FoT k sb ef (G L.length).2.1) (StoreT sb (G L.length).1))))) := (FoT.stable _ _ _ _).both ((StoreT.stable _ _).both HSX2.out)
      have h17 := (h16.newCell hstA #[.string ⟨x.toArray⟩] tSx).perm (show _ = Both (FoT k2 tb ef (G (M.length + i)).2.1) (Both (StoreT tb (G (M.length + i)).1) (Both (CellT wr.heap.size #[.string ⟨x.toArray⟩] tSx) (Both (RowG tSx 1 (.slice (some ⟨gg, 0, none⟩) L.length gc) L.length (strs L)) (Both (FoT k sb ef (G L.length).2.1) (StoreT sb (G L.length).1))))) by ac_rfl)
      have hxl : x.length ≤ 255 := fits_at HFT.out.1 hxL
      have hAd := Add_at (ws := [x]) (v := .slice (some ⟨wr.heap.size, 0, none⟩) 1 1) h17 ((CellT.stable _ _ _).both HSX2.out) HF11.out (HPG.out _).1 (HPG.out _).2.1 (HPG.out _).2.2.1 ⟨_, _, rfl, by simp⟩ (fun y hy => by simp at hy; subst hy; omega) (fun w' h' => rd_one9 h'.cell.1 (by decide) (by decide))
      rw [HSTEP.out _ _ hxL, (HPG.out _).2.2.2, errV_zero] at hAd
      have HAD := Lib.hid hAd
      clear h16 h17 hAd hstA hxL hx hxl
      (repeat' (first | (go_big_may; fail) | go_values | go_skip | go_guarded | go_step | go_upon | go_back | dsimp only))
      refine HAD.out.mono ?_
      rintro e w18 ⟨rfl, h18⟩
      have H18 := Lib.hid ((h18.perm (show _ = Both (CellT wr.heap.size #[.string ⟨x.toArray⟩] tSx) (Both (FoT k2 tb ef (G (M.length + i + 1)).2.1) (Both (StoreT tb (G (M.length + i + 1)).1) (Both (RowG tSx 1 (.slice (some ⟨gg, 0, none⟩) L.length gc) L.length (strs L)) (Both (FoT k sb ef (G L.length).2.1) (StoreT sb (G L.length).1))))) by ac_rfl)).drop)
      clear h18 HAD
      (repeat' (first | (go_big_may; fail) | go_values | go_skip | go_guarded | go_step | go_upon | go_back | dsimp only))
      go_roundw
      case rel => exact ⟨i + 1, rfl, hlt, H18.out⟩
      case measure => simp [intOf]; omega
    · have hi1 : ¬ (i : Int) < ((L.length - M.length : Nat) : Int) := by omega
      have hiL : M.length + i = L.length := by omega
      rw [hiL] at h16
      have hfi := HA.out.fin
      have hA2 := HA.out
      have hGL : addP (newSt n) (newF b) L = G L.length := by rw [HALL.out, HG.out]
      have hdn := hA2.done
      obtain ⟨Ls, hr1, hr2, hr3, hr4⟩ := hA2.runs
      rw [hGL] at hdn hr1 hr2 hfi
      have h17 := h16.perm (show _ = Both (FoT k sb ef (G L.length).2.1) (Both (StoreT sb (G L.length).1) (Both (FoT k2 tb ef (G L.length).2.1) (Both (StoreT tb (G L.length).1) (RowG tSx 1 (.slice ga L.length gc) L.length (strs L))))) by ac_rfl)
      have hF1 := Finish_at h17 ((FoT.stable _ _ _ _).both ((StoreT.stable _ _).both (RowG.stable _ _ _ _ _))) HF11.out (HPG.out _).1 (HPG.out _).2.1 (HPG.out _).2.2.1
      have hF2 := fun (w' : World) (X : Thing) (hX : Stable X) (h' : At W w' (Both (FoT k2 tb ef (G L.length).2.1) (Both (StoreT tb (G L.length).1) X))) => Finish_at h' hX HF11.out (HPG.out _).1 (HPG.out _).2.1 (HPG.out _).2.2.1
      generalize finishP (G L.length).1 (G L.length).2.1 = Q at *
      rw [hdn, errV_zero, hr2] at hF1
      simp only [hdn, errV_zero, hr2] at hF2
      have HF1 := Lib.hid hF1
      have HF2 := Lib.hid hF2
      have HGQ := Lib.hid hfi
      have HLS := Lib.hid (show Ls.length ≤ 2097152 by rw [hr3]; have := HFT.out.2.2; have := HB.out; exact Nat.le_trans (Nat.div_le_self _ _) (by omega))
      clear h16 h17 hF1 hF2 hfi hA2 hGL hdn hr1 hr2 hr3 hr4 hiL HA HALL HG HSTEP
      (repeat' (first | (go_big_may; fail) | go_values | go_skip | go_guarded | go_step | go_upon | go_back | dsimp only))
      refine HF1.out.mono ?_
      rintro e w20 ⟨v20, rfl, h20⟩
      have hml : (mz (List.range' 1 Ls.length)).length = Ls.length := by simp [mz]
      have h21 := h20.perm (show _ = Both (FoT k2 tb ef (G L.length).2.1) (Both (StoreT tb (G L.length).1) (Both (RowT v20 (mz (List.range' 1 Ls.length))) (Both (FoT k sb ef Q.2.1) (Both (StoreT sb Q.1) (RowG tSx 1 (.slice ga L.length gc) L.length (strs L)))))) by ac_rfl)
      have HF3 := Lib.hid (HF2.out w20 _ ((RowT.stable _ _).both ((FoT.stable _ _ _ _).both ((StoreT.stable _ _).both (RowG.stable _ _ _ _ _)))) h21)
      clear h20 h21 HF1 HF2
      (repeat' (first | (go_big_may; fail) | go_values | go_skip | go_guarded | go_step | go_upon | go_back | dsimp only))
      refine HF3.out.mono ?_
      rintro e w21 ⟨v21, rfl, h22⟩
      have h23 := h22.perm (show _ = Both (RowT v20 (mz (List.range' 1 Ls.length))) (Both (RowT v21 (mz (List.range' 1 Ls.length))) (Both (StoreT sb Q.1) (Both (StoreT tb Q.1) (Both (FoT k2 tb ef Q.2.1) (Both (FoT k sb ef Q.2.1) (RowG tSx 1 (.slice ga L.length gc) L.length (strs L))))))) by ac_rfl)
      have hI := ints9_calls _ v20 v21 w21 (RdRow.of_own h23.row) (RdRow.of_own h23.drop.row)
      have hs23 : Stable (Both (RowT v20 (mz (List.range' 1 Ls.length))) (Both (RowT v21 (mz (List.range' 1 Ls.length))) (Both (StoreT sb Q.1) (Both (StoreT tb Q.1) (Both (FoT k2 tb ef Q.2.1) (Both (FoT k sb ef Q.2.1) (RowG tSx 1 (.slice ga L.length gc) L.length (strs L)))))))) := (RowT.stable _ _).both ((RowT.stable _ _).both ((StoreT.stable _ _).both ((StoreT.stable _ _).both ((FoT.stable _ _ _ _).both ((FoT.stable _ _ _ _).both (RowG.stable _ _ _ _ _))))))
      have HS23 := Lib.hid hs23
      have H23 := Lib.hid h23
      obtain ⟨va, vc, hv20, _, _⟩ := own_shape h23.row
      subst hv20
      rw [hml] at hI
      have HI := Lib.hid hI
      have HML := Lib.hid hml
      rw [hml]
      clear h22 h23 hs23 HF3 hI hml
      (repeat' (first | (go_big_may; fail) | go_values | go_skip | go_guarded | go_step | go_upon | go_back | dsimp only))
      refine HI.out.mono ?_
      rintro e w22 ⟨rfl, hb22⟩
      have h24 := H23.out.mono HS23.out hb22
      rw [HML.out] at h24
      have H24 := Lib.hid h24
      clear hb22 HI H23 h24
      (repeat' (first | (go_big_may; fail) | go_values | go_skip | go_guarded | go_step | go_upon | go_back | dsimp only))
      go_loopw [125] (fun vi wr => ∃ (q : Nat), vi = .int .i64 q ∧ q ≤ Ls.length ∧ At W wr (Both (StoreT sb Q.1) (Both (StoreT tb Q.1) (Both (RowT (.slice va Ls.length vc) (mz (List.range' 1 Ls.length))) (Both (RowT v21 (mz (List.range' 1 Ls.length))) (Both (FoT k2 tb ef Q.2.1) (Both (FoT k sb ef Q.2.1) (RowG tSx 1 (.slice ga L.length gc) L.length (strs L))))))))) (fun vi _ => Ls.length - (intOf vi).toNat)
      case atStart => exact ⟨0, rfl, Nat.zero_le _, H24.out.perm (by ac_rfl)⟩
      case round =>
        obtain ⟨q, rfl, hq, h25⟩ := hrel
        clear H24
        have hls := HLS.out
        have hsA : Stable (Both (StoreT tb Q.1) (Both (RowT (.slice va Ls.length vc) (mz (List.range' 1 Ls.length))) (Both (RowT v21 (mz (List.range' 1 Ls.length))) (Both (FoT k2 tb ef Q.2.1) (Both (FoT k sb ef Q.2.1) (RowG tSx 1 (.slice ga L.length gc) L.length (strs L))))))) := (StoreT.stable _ _).both ((RowT.stable _ _).both ((RowT.stable _ _).both ((FoT.stable _ _ _ _).both ((FoT.stable _ _ _ _).both (RowG.stable _ _ _ _ _)))))
        have hsB : Stable (Both (StoreT sb Q.1) (Both (RowT (.slice va Ls.length vc) (mz (List.range' 1 Ls.length))) (Both (RowT v21 (mz (List.range' 1 Ls.length))) (Both (FoT k2 tb ef Q.2.1) (Both (FoT k sb ef Q.2.1) (RowG tSx 1 (.slice ga L.length gc) L.length (strs L))))))) := (StoreT.stable _ _).both ((RowT.stable _ _).both ((RowT.stable _ _).both ((FoT.stable _ _ _ _).both ((FoT.stable _ _ _ _).both (RowG.stable _ _ _ _ _)))))
        by_cases hlt2 : q < Ls.length
        · have hrl := RdRow.of_own h25.drop.drop.row
          obtain ⟨gl, off, cl, hsl, hcell⟩ := hrl.intA (k := q) (z := ((1 + q : Nat) : Int)) (by simp [mz, hlt2])
          rw [HML.out] at hsl
          simp only [Value.slice.injEq] at hsl
          obtain ⟨hl1, _, hl2⟩ := hsl
          subst hl1
          subst hl2
          obtain ⟨zr, hzr⟩ : ∃ zr, zr = 1 + q := ⟨_, rfl⟩
          rw [← hzr] at hcell
          have hi0 : (0 : Int) ≤ q := by omega
          have hi1 : (q : Int) < Ls.length := by omega
          have hwr : IntKind.i64.wrap ((q : Int) + 1) = ((q + 1 : Nat) : Int) := by rw [IntKind.wrap_i64] <;> omega
          have ht1 := text_at h25 hsA HF.out HGQ.out (z := (zr : Int)) (by unfold inI64; omega)
          have ht2 := fun (w' : World) (h' : At W w' (Both (StoreT sb Q.1) (Both (StoreT tb Q.1) (Both (RowT (.slice (some ⟨gl, off, none⟩) Ls.length vc) (mz (List.range' 1 Ls.length))) (Both (RowT v21 (mz (List.range' 1 Ls.length))) (Both (FoT k2 tb ef Q.2.1) (Both (FoT k sb ef Q.2.1) (RowG tSx 1 (.slice ga L.length gc) L.length (strs L))))))))) => text_at (h'.perm (show _ = Both (StoreT tb Q.1) (Both (StoreT sb Q.1) (Both (RowT (.slice (some ⟨gl, off, none⟩) Ls.length vc) (mz (List.range' 1 Ls.length))) (Both (RowT v21 (mz (List.range' 1 Ls.length))) (Both (FoT k2 tb ef Q.2.1) (Both (FoT k sb ef Q.2.1) (RowG tSx 1 (.slice ga L.length gc) L.length (strs L))))))) by ac_rfl)) hsB HF.out HGQ.out (z := (zr : Int)) (by unfold inI64; omega)
          have HT1 := Lib.hid ht1
          have HT2 := Lib.hid ht2
          generalize textP Q.1 (zr : Int) = T at *
          have htt : (T != T) = false := by simp
          clear h25 ht1 ht2 hsA hsB hrl hzr hls
          (repeat' (first | (go_big_may; fail) | go_values | go_skip | go_guarded | go_step | go_upon | go_back | dsimp only))
          refine HT1.out.mono ?_
          rintro e w26 ⟨rfl, h26⟩
          have H26 := Lib.hid h26
          clear h26 HT1
          (repeat' (first | (go_big_may; fail) | go_values | go_skip | go_guarded | go_step | go_upon | go_back | dsimp only))
          refine (HT2.out w26 H26.out).mono ?_
          rintro e w27 ⟨rfl, h27⟩
          have H27 := Lib.hid h27
          clear h27 HT2 H26
          (repeat' (first | (go_big_may; fail) | go_values | go_skip | go_guarded | go_step | go_upon | go_back | dsimp only))
          go_roundw
          case rel => exact ⟨q + 1, rfl, hlt2, H27.out.perm (by ac_rfl)⟩
          case measure => simp [intOf]; omega
        · have hi1 : ¬ (q : Int) < Ls.length := by omega
          have HP1 := Lib.hid (Peak_at h25)
          have HP2 := Lib.hid (Peak_at h25.swap)
          have HBE := Lib.hid h25.below
          have hee : ((Q.1.peak : Int) == (Q.1.peak : Int)) = true := by simp
          clear h25 hsA hsB hls
          (repeat' (first | (go_big_may; fail) | go_values | go_skip | go_guarded | go_step | go_upon | go_back | dsimp only))
          refine HP1.out.mono ?_
          rintro e w26 ⟨rfl, rfl⟩
          (repeat' (first | (go_big_may; fail) | go_values | go_skip | go_guarded | go_step | go_upon | go_back | dsimp only))
          refine HP2.out.mono ?_
          rintro e w27 ⟨rfl, rfl⟩
          (repeat' (first | (go_big_may; fail) | go_values | go_skip | go_guarded | go_step | go_upon | go_back | dsimp only))
          go_ret
          exact ⟨rfl, HBE.out⟩
end Go.Proofs.YthcicmbkkkhifaaDoor
