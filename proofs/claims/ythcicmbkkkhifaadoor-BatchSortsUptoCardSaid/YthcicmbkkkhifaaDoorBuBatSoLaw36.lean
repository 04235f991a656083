/- hornbooklaw09: the laws' helpers walked: twin, text, has, set, ints, fit. · hornbooklaw09: fit and wakes walked. · hornbooklaw09: wakes walked. · BatchSorts walked. -/
import Derived.Test.YthcicmbkkkhifaaDoorBuBatSoLaw35
import Derived.Test.YthcicmbkkkhifaaDoorBuBatSoLaw17
import Derived.Test.YthcicmbkkkhifaaDoorBuBatSoLaw23
import Derived.Test.YthcicmbkkkhifaaDoorBuBatSoLaw19
import Derived.Test.YthcicmbkkkhifaaDoorBuBatSoLaw02
import Derived.Deep.QuietTactic
import Derived.BigQuiet
set_option linter.unusedSimpArgs false
set_option linter.unusedVariables false
namespace Go.Proofs.YthcicmbkkkhifaaDoor
open Go.RowKit

theorem info_S9 : (Tryd.prog.info? 9).map (fun i => (i.zero, i.size, i.bytes)) = some (some (.string ⟨#[]⟩), 1, 16) := by kernel_rfl
set_option maxHeartbeats 400000 in
theorem twin9_calls (ss : List (List UInt8)) (v : Value) (w : World) (hv : RdRow w v ss.length 1 (strs ss)) (hlen : ss.length ≤ 8796093022208) :
    Calls Tryd.prog 8 #[v] w fun e w' => ∃ v', e = .returned v' ∧ w'.ownsRow w.heap.size 9 1 v' ss.length (strs ss) ∧ Below w.heap.size w w' := by
  obtain ⟨a, cap, rfl, hc1, hc2⟩ := hv.shape
  have HV := Lib.hid hv
  clear hv
  have h0 := World.ownsRow_nil w w.heap.size 9 1
  go_enter Tryd.func8, Tryd.ntmps8
  (repeat' (first | (go_big_may; (at_builtin; go_must (refine wpList_append_rd rfl _ _ 22 9 rfl Tryd.underlying22 info_S9 rfl (by decide) rfl h0 rfl HV.out (strs_oneCell _) (Nat.le_refl _) (by unfold maxLen; omega) (by omega) ?_); intro v1 w1 hown1 hgrow1 _)) | go_values | go_skip | go_guarded | go_step | go_upon | go_back | dsimp only))
  go_ret
  exact ⟨_, rfl, by simpa using hown1, grownOwn (Below.refl _ _) (Nat.le_refl _) h0 hgrow1⟩
/-- What text answers. -/
def textP (S : St) (z : Int) : List UInt8 := readT S z 0 (sizeN S z)
theorem textP_of {S : St} (hG : GoodS S) {p : Nat × RunD} (hp : p ∈ S.runs) (hs : p.2.sealed = true) : textP S p.1 = p.2.text := by
  have hf := find_of_mem hG hp
  unfold textP readT sizeN
  rw [hf]
  dsimp only
  rw [if_neg (by simp [hs]), if_neg (by omega)]
  simp
section
variable {W w : World} {R : Thing} {b : Nat} {ef : Nat → Nat × Nat} {S : St}
theorem fails12_store {W : World} {ef : Nat → Nat × Nat} (h : Fails W ef fails12) : Fails W ef failsAll := h.less (by decide)
set_option maxHeartbeats 800000 in
theorem text_at (h : At W w (Both (StoreT b S) R)) (hR : Stable R) (hF : Fails W ef fails12) (hG : GoodS S) {z : Int} (hz : inI64 z) :
    Calls Tryd.prog 15 #[.pointer (some ⟨b, 0, none⟩), .int .i64 z] w fun e w' => e = .returned (.string ⟨(textP S z).toArray⟩) ∧ At W w' (Both (StoreT b S) R) := by
  have hsz : inI64 ((sizeN S z : Nat) : Int) := by
    unfold sizeN inI64
    cases hf : S.find z with
    | none => simp
    | some p =>
      have h1 := hG.le p hf
      have h2 := hG.sizes.2.1
      have h3 := hG.sizes.1
      dsimp only
      omega
  have HS := Lib.hid (Size_at h hR (fails12_store hF) hz)
  have HRD := Lib.hid (fun (w' : World) (h' : At W w' (Both (StoreT b S) R)) => Read_at h' hR (fails12_store hF) hz (a := 0) (n := sizeN S z) (by unfold inI64; omega) hsz)
  unfold textP
  generalize errV ef (sizeC S z) = u1 at *
  generalize errV ef (readC S z 0 (sizeN S z)) = u2 at *
  generalize readT S z 0 (sizeN S z) = T at *
  generalize sizeN S z = n at *
  clear h hR hF hG hz hsz
  go_enter Tryd.func15, Tryd.ntmps15
  (repeat' (first | (go_big_may; fail) | go_values | go_skip | go_guarded | go_step | go_upon | go_back | dsimp only))
  refine HS.out.mono ?_
  rintro e w1 ⟨rfl, h1⟩
  have H1 := Lib.hid h1
  clear h1 HS
  (repeat' (first | (go_big_may; fail) | go_values | go_skip | go_guarded | go_step | go_upon | go_back | dsimp only))
  refine (HRD.out w1 H1.out).mono ?_
  rintro e w2 ⟨rfl, h2⟩
  have H2 := Lib.hid h2
  clear h2 HRD H1
  (repeat' (first | (go_big_may; fail) | go_values | go_skip | go_guarded | go_step | go_upon | go_back | dsimp only))
  go_ret
  exact ⟨rfl, H2.out⟩
end
set_option maxHeartbeats 800000 in
theorem has9_calls (L : List (List UInt8)) (x : List UInt8) (v : Value) (w : World) (hv : RdRow w v L.length 1 (strs L)) :
    Calls Tryd.prog 29 #[v, .string ⟨x.toArray⟩] w fun e w' => e = .returned (.bool (decide (x ∈ L))) ∧ Below w.heap.size w w' := by
  obtain ⟨a, cap, rfl, hc1, hc2⟩ := hv.shape
  unfold maxLen at hc2
  have HV := Lib.hid hv
  clear hv
  go_enter Tryd.func29, Tryd.ntmps29
  (repeat' (first | (go_big_may; fail) | go_values | go_skip | go_guarded | go_step | go_upon | go_back | dsimp only))
  go_loopw [9] (fun vi wr => ∃ k : Nat, vi = .int .i64 k ∧ k ≤ L.length ∧ x ∉ L.take k ∧ Below w.heap.size w wr) (fun i _ => L.length - (intOf i).toNat)
  case atStart => exact ⟨0, rfl, Nat.zero_le _, by simp, Below.refl _ _⟩
  case round =>
    obtain ⟨k, rfl, hk, hno, hb⟩ := hrel
    have HB := Lib.hid hb
    have HNO := Lib.hid hno
    by_cases hlt : k < L.length
    · obtain ⟨y, hy⟩ : ∃ y, L[k]? = some y := ⟨_, List.getElem?_eq_getElem hlt⟩
      obtain ⟨gb, off, cp, hsl, hcell⟩ := (HV.out.below hb).str hy
      simp only [Value.slice.injEq] at hsl
      obtain ⟨hao, _, hcv⟩ := hsl
      subst hao
      subst hcv
      have hi0 : (0 : Int) ≤ k := by omega
      have hi1 : (k : Int) < L.length := by omega
      have hwr : IntKind.i64.wrap ((k : Int) + 1) = ((k + 1 : Nat) : Int) := by rw [IntKind.wrap_i64] <;> omega
      by_cases hyx : y = x
      · subst hyx
        have hq : (y == y) = true := by simp
        have hm : decide (y ∈ L) = true := decide_eq_true (List.mem_of_getElem? hy)
        have HM := Lib.hid hm
        clear hb hno hy hm
        (repeat' (first | (go_big_may; fail) | go_values | go_skip | go_guarded | go_step | go_upon | go_back | dsimp only))
        go_ret
        rw [HM.out]
        exact ⟨rfl, HB.out⟩
      · have hq : (y == x) = false := by simp [hyx]
        have hno2 : x ∉ L.take (k + 1) := by
          rw [List.take_succ_eq_append_getElem hlt]
          obtain ⟨h1, h2⟩ := List.getElem?_eq_some_iff.1 hy
          rw [h2]
          simp only [List.mem_append, List.mem_singleton, not_or]
          exact ⟨hno, fun e => hyx e.symm⟩
        have HNO2 := Lib.hid hno2
        clear hb hno hy hno2 hyx
        (repeat' (first | (go_big_may; fail) | go_values | go_skip | go_guarded | go_step | go_upon | go_back | dsimp only))
        go_roundw
        case rel => exact ⟨k + 1, rfl, hlt, HNO2.out, HB.out⟩
        case measure => simp [intOf]; omega
    · have hi1 : ¬ (k : Int) < L.length := by omega
      rw [List.take_of_length_le (by omega)] at hno
      have hm : decide (x ∈ L) = false := decide_eq_false hno
      have HM := Lib.hid hm
      clear hb hno hm
      (repeat' (first | (go_big_may; fail) | go_values | go_skip | go_guarded | go_step | go_upon | go_back | dsimp only))
      go_ret
      rw [HM.out]
      exact ⟨rfl, HB.out⟩
set_option maxHeartbeats 1600000 in
/-- A rising list with the part's words is the part's set. -/
theorem set9_calls (L P : List (List UInt8)) (v u : Value) (w : World) (hv : RdRow w v L.length 1 (strs L)) (hu : RdRow w u P.length 1 (strs P)) (hr : RisesL L) (hm : ∀ x, x ∈ L ↔ x ∈ P) :
    Calls Tryd.prog 19 #[v, u] w fun e w' => e = .returned (.bool true) ∧ Below w.heap.size w w' := by
  obtain ⟨a, cap, rfl, hc1, hc2⟩ := hv.shape
  obtain ⟨a', cap', rfl, hc1', hc2'⟩ := hu.shape
  unfold maxLen at hc2 hc2'
  have HV := Lib.hid hv
  have HU := Lib.hid hu
  have HR := Lib.hid hr
  have HM := Lib.hid hm
  clear hv hu hr hm
  go_enter Tryd.func19, Tryd.ntmps19
  (repeat' (first | (go_big_may; fail) | go_values | go_skip | go_guarded | go_step | go_upon | go_back | dsimp only))
  go_loopw [11] (fun vi wr => ∃ k : Nat, vi = .int .i64 k ∧ k ≤ L.length ∧ Below w.heap.size w wr) (fun i _ => L.length - (intOf i).toNat)
  case atStart => exact ⟨0, rfl, Nat.zero_le _, Below.refl _ _⟩
  case round =>
    obtain ⟨k, rfl, hk, hb⟩ := hrel
    have HB := Lib.hid hb
    by_cases hlt : k < L.length
    · obtain ⟨y, hy⟩ : ∃ y, L[k]? = some y := ⟨_, List.getElem?_eq_getElem hlt⟩
      obtain ⟨gb, off, cp, hsl, hcell⟩ := (HV.out.below hb).str hy
      simp only [Value.slice.injEq] at hsl
      obtain ⟨hao, _, hcv⟩ := hsl
      subst hao
      subst hcv
      have hi0 : (0 : Int) ≤ k := by omega
      have hi1 : (k : Int) < L.length := by omega
      have hwr : IntKind.i64.wrap ((k : Int) + 1) = ((k + 1 : Nat) : Int) := by rw [IntKind.wrap_i64] <;> omega
      have hhas := has9_calls P y (.slice a' P.length cap') wr (HU.out.below hb)
      rw [decide_eq_true ((HM.out y).1 (List.mem_of_getElem? hy))] at hhas
      have HH := Lib.hid hhas
      have hnot : ∀ (x : Bool) (w : World), (Op.unary .not (.bool x)).run Tryd.prog w = .ok (.bool (!x)) w := fun _ _ => rfl
      by_cases h0 : k = 0
      · have hz : ¬ (0 : Int) < k := by omega
        clear hb hy hhas h0
        (repeat' (first | (go_big_may; fail) | go_values | go_skip | go_guarded | go_step | go_upon | go_back | dsimp only))
        refine HH.out.mono ?_
        rintro e w1 ⟨rfl, hb1⟩
        have HB1 := Lib.hid (HB.out.trans (hb1.mono HB.out.size))
        clear hb1
        (repeat' (first | (go_big_may; fail) | go_values | go_skip | go_guarded | go_step | go_upon | go_back | dsimp only))
        go_roundw
        case rel => exact ⟨k + 1, rfl, hlt, HB1.out⟩
        case measure => simp [intOf]; omega
      · obtain ⟨j, rfl⟩ : ∃ j, k = j + 1 := ⟨k - 1, by omega⟩
        obtain ⟨x, hx⟩ : ∃ x, L[j]? = some x := ⟨_, List.getElem?_eq_getElem (by omega)⟩
        obtain ⟨gb2, off2, cp2, hsl, hcell2⟩ := (HV.out.below hb).str hx
        simp only [Value.slice.injEq, Option.some.injEq, Addr.mk.injEq] at hsl
        obtain ⟨⟨h1, h2, _⟩, _, _⟩ := hsl
        subst h1 h2
        have hless : Op.bytesLess x y = true := rises_get HR.out (Nat.lt_succ_self j) hx hy
        have hless2 : Op.bytesLess y x = false := by
          cases h : Op.bytesLess y x with
          | false => rfl
          | true => exact absurd (bl_trans hless h) (by rw [bl_irrefl]; simp)
        have hne : (x == y) = false := by
          rw [beq_eq_false_iff_ne]
          intro e
          rw [e, bl_irrefl] at hless
          cases hless
        have hz : (0 : Int) < ((j + 1 : Nat) : Int) := by omega
        have hz2 : (0 : Int) < (j : Int) + 1 := by omega
        have hwj : IntKind.i64.wrap (((j + 1 : Nat) : Int) - 1) = (j : Int) := by rw [IntKind.wrap_i64] <;> omega
        have hwj2 : IntKind.i64.wrap (((j : Int) + 1) - 1) = (j : Int) := by rw [IntKind.wrap_i64] <;> omega
        have hj0 : (0 : Int) ≤ j := by omega
        have hj1 : (j : Int) < L.length := by omega
        clear hb hy hx hhas h0
        (repeat' (first | (go_big_may; fail) | go_values | go_skip | go_guarded | go_step | go_upon | go_back | dsimp only))
        refine HH.out.mono ?_
        rintro e w1 ⟨rfl, hb1⟩
        have HB1 := Lib.hid (HB.out.trans (hb1.mono HB.out.size))
        clear hb1
        (repeat' (first | (go_big_may; fail) | go_values | go_skip | go_guarded | go_step | go_upon | go_back | dsimp only))
        go_roundw
        case rel => exact ⟨j + 1 + 1, by go_num, hlt, HB1.out⟩
        case measure => simp [intOf]; omega
    · have hi1 : ¬ (k : Int) < L.length := by omega
      clear hb
      (repeat' (first | (go_big_may; fail) | go_values | go_skip | go_guarded | go_step | go_upon | go_back | dsimp only))
      go_loopw [36] (fun vi wr => ∃ k : Nat, vi = .int .i64 k ∧ k ≤ P.length ∧ Below w.heap.size w wr) (fun i _ => P.length - (intOf i).toNat)
      case atStart => exact ⟨0, rfl, Nat.zero_le _, HB.out⟩
      case round =>
        obtain ⟨q, rfl, hq, hb⟩ := hrel
        have HB2 := Lib.hid hb
        by_cases hlt2 : q < P.length
        · obtain ⟨y, hy⟩ : ∃ y, P[q]? = some y := ⟨_, List.getElem?_eq_getElem hlt2⟩
          obtain ⟨gb, off, cp, hsl, hcell⟩ := (HU.out.below hb).str hy
          simp only [Value.slice.injEq] at hsl
          obtain ⟨hao, _, hcv⟩ := hsl
          subst hao
          subst hcv
          have hi0 : (0 : Int) ≤ q := by omega
          have hi1 : (q : Int) < P.length := by omega
          have hwr : IntKind.i64.wrap ((q : Int) + 1) = ((q + 1 : Nat) : Int) := by rw [IntKind.wrap_i64] <;> omega
          have hhas := has9_calls L y (.slice a L.length cap) wr (HV.out.below hb)
          rw [decide_eq_true ((HM.out y).2 (List.mem_of_getElem? hy))] at hhas
          have HH := Lib.hid hhas
          have hnot : ∀ (x : Bool) (w : World), (Op.unary .not (.bool x)).run Tryd.prog w = .ok (.bool (!x)) w := fun _ _ => rfl
          clear hb hy hhas HB
          (repeat' (first | (go_big_may; fail) | go_values | go_skip | go_guarded | go_step | go_upon | go_back | dsimp only))
          refine HH.out.mono ?_
          rintro e w1 ⟨rfl, hb1⟩
          have HB1 := Lib.hid (HB2.out.trans (hb1.mono HB2.out.size))
          clear hb1
          (repeat' (first | (go_big_may; fail) | go_values | go_skip | go_guarded | go_step | go_upon | go_back | dsimp only))
          go_roundw
          case rel => exact ⟨q + 1, rfl, hlt2, HB1.out⟩
          case measure => simp [intOf]; omega
        · have hi1 : ¬ (q : Int) < P.length := by omega
          clear hb
          (repeat' (first | (go_big_may; fail) | go_values | go_skip | go_guarded | go_step | go_upon | go_back | dsimp only))
          go_ret
          exact ⟨rfl, HB2.out⟩
set_option maxHeartbeats 1600000 in
/-- The same numbers. -/
theorem ints9_calls (L : List Int) (v u : Value) (w : World) (hv : RdRow w v L.length 1 (intsV L)) (hu : RdRow w u L.length 1 (intsV L)) :
    Calls Tryd.prog 16 #[v, u] w fun e w' => e = .returned (.bool true) ∧ Below w.heap.size w w' := by
  obtain ⟨a, cap, rfl, hc1, hc2⟩ := hv.shape
  obtain ⟨a', cap', rfl, hc1', hc2'⟩ := hu.shape
  unfold maxLen at hc2 hc2'
  have HV := Lib.hid hv
  have HU := Lib.hid hu
  have heq : ((L.length : Int) != (L.length : Int)) = false := by simp
  clear hv hu
  go_enter Tryd.func16, Tryd.ntmps16
  (repeat' (first | (go_big_may; fail) | go_values | go_skip | go_guarded | go_step | go_upon | go_back | dsimp only))
  go_loopw [13] (fun vi wr => ∃ k : Nat, vi = .int .i64 k ∧ k ≤ L.length ∧ Below w.heap.size w wr) (fun i _ => L.length - (intOf i).toNat)
  case atStart => exact ⟨0, rfl, Nat.zero_le _, Below.refl _ _⟩
  case round =>
    obtain ⟨k, rfl, hk, hb⟩ := hrel
    have HB := Lib.hid hb
    by_cases hlt : k < L.length
    · obtain ⟨z, hz⟩ : ∃ z, L[k]? = some z := ⟨_, List.getElem?_eq_getElem hlt⟩
      obtain ⟨gb, off, cp, hsl, hcell⟩ := (HV.out.below hb).intA hz
      simp only [Value.slice.injEq] at hsl
      obtain ⟨hao, _, hcv⟩ := hsl
      subst hao
      subst hcv
      obtain ⟨gb', off', cp', hsl, hcell'⟩ := (HU.out.below hb).intA hz
      simp only [Value.slice.injEq] at hsl
      obtain ⟨hao, _, hcv⟩ := hsl
      subst hao
      subst hcv
      have hi0 : (0 : Int) ≤ k := by omega
      have hi1 : (k : Int) < L.length := by omega
      have hwr : IntKind.i64.wrap ((k : Int) + 1) = ((k + 1 : Nat) : Int) := by rw [IntKind.wrap_i64] <;> omega
      have hzz : (z != z) = false := by simp
      clear hb hz
      (repeat' (first | (go_big_may; fail) | go_values | go_skip | go_guarded | go_step | go_upon | go_back | dsimp only))
      (refine region_still_tail 8 (by kernel_rfl) (by kernel_rfl) ?_; simp only [List.take_succ_cons, List.take_zero, List.drop_succ_cons, List.drop_zero]; (iterate 8 (first | ((with_reducible refine still_plain ?_ rfl ?_ ?_); rotate_left; (next => (go_simp; (try with_reducible rfl))); simp only [Act.put, List.setIfInBounds_toArray, List.set_cons_zero, List.set_cons_succ]) | ((with_reducible refine still_skip ?_ ?_); (next => (go_simp; done)); simp only [Act.put, List.setIfInBounds_toArray, List.set_cons_zero, List.set_cons_succ]) | ((with_reducible refine still_val ?_ ?_ ?_ ?_); rotate_left; (next => (go_simp; done)); (next => (go_simp; (try with_reducible rfl))); simp only [Act.put, List.setIfInBounds_toArray, List.set_cons_zero, List.set_cons_succ]))); (with_reducible refine wpStill_nil ?_))
      (repeat' (first | (go_big_may; fail) | go_values | go_skip | go_guarded | go_step | go_upon | go_back | dsimp only))
      go_roundw
      case rel => exact ⟨k + 1, rfl, hlt, HB.out.drew⟩
      case measure => simp [intOf]; omega
    · have hi1 : ¬ (k : Int) < L.length := by omega
      clear hb
      (repeat' (first | (go_big_may; fail) | go_values | go_skip | go_guarded | go_step | go_upon | go_back | dsimp only))
      go_ret
      exact ⟨rfl, HB.out⟩
end Go.Proofs.YthcicmbkkkhifaaDoor
namespace Go.Proofs.YthcicmbkkkhifaaDoor
open Go.RowKit

/-- The words that may be taken, and the bytes of their frames at most. -/
def fitW : List (List UInt8) → Nat → List (List UInt8) × Nat
  | [], n => ([], n)
  | r :: rs, n => if r.length ≤ 255 ∧ n < 1048576 then (r :: (fitW rs (n + r.length + 2)).1, (fitW rs (n + r.length + 2)).2) else fitW rs n
theorem fitW_in {r : List UInt8} {rs : List (List UInt8)} {n : Nat} (h : r.length ≤ 255 ∧ n < 1048576) : fitW (r :: rs) n = (r :: (fitW rs (n + r.length + 2)).1, (fitW rs (n + r.length + 2)).2) := if_pos h
theorem fitW_out {r : List UInt8} {rs : List (List UInt8)} {n : Nat} (h : ¬ (r.length ≤ 255 ∧ n < 1048576)) : fitW (r :: rs) n = fitW rs n := if_neg h
theorem fitW_facts : ∀ (rs : List (List UInt8)) (n : Nat), fits (fitW rs n).1 = true ∧ (fitW rs n).2 = n + wsum (fitW rs n).1 ∧ (n ≤ 1048833 → (fitW rs n).2 ≤ 1048833) ∧ (fitW rs n).1.length ≤ rs.length := by
  intro rs
  induction rs with
  | nil => intro n; simp [fitW, fits, wsum]
  | cons r rs ih =>
    intro n
    by_cases hc : r.length ≤ 255 ∧ n < 1048576
    · rw [fitW_in hc]
      obtain ⟨h1, h2, h3, h4⟩ := ih (n + r.length + 2)
      refine ⟨fits_cons.2 ⟨hc.1, h1⟩, ?_, ?_, ?_⟩
      · rw [h2]; simp only [wsum]; omega
      · intro hn; exact h3 (by omega)
      · simp only [List.length_cons]; omega
    · rw [fitW_out hc]
      obtain ⟨h1, h2, h3, h4⟩ := ih n
      exact ⟨h1, h2, h3, by simp only [List.length_cons]; omega⟩
theorem strs_snoc9 (L : List (List UInt8)) (r : List UInt8) : strs L ++ (#[Value.string ⟨r.toArray⟩] : Array Value).toList = strs (L ++ [r]) := by simp [strs]
section
variable {W w : World} {R : Thing} {b : Nat} {ef : Nat → Nat × Nat} {S : St}
set_option maxRecDepth 100000 in
set_option maxHeartbeats 3200000 in
theorem fit9_at (h : At W w R) (hR : Stable R) {ss : List (List UInt8)} {v : Value} (hv : RdRow W v ss.length 1 (strs ss)) (hlen : ss.length ≤ 1048576) (hsum : ∀ x ∈ ss, x.length ≤ 1048576) :
    Calls Tryd.prog 7 #[v] w fun e w' => ∃ v', e = .returned (.tuple #[v', .int .i64 (fitW ss 0).2]) ∧ ((fitW ss 0).1 = [] → v' = .slice none 0 0) ∧ At W w' (Both (RowG tSx 1 v' (fitW ss 0).1.length (strs (fitW ss 0).1)) R) := by
  obtain ⟨av, cv, hv0, _, _⟩ := hv.shape
  subst hv0
  have HRD := Lib.hid hv
  have HR := Lib.hid hR
  have HSU := Lib.hid hsum
  have H0 := Lib.hid (h.noRowG hR tSx 1)
  clear h hR hv hsum
  go_enter Tryd.func7, Tryd.ntmps7
  (repeat' (first | (go_big_may; fail) | go_values | go_skip | go_guarded | go_step | go_upon | go_back | dsimp only))
  go_loopw [4, 5, 10] (fun vf vn vi wr => ∃ (k n : Nat) (acc : List (List UInt8)), vi = .int .i64 k ∧ vn = .int .i64 n ∧ k ≤ ss.length ∧ n ≤ 1048833 ∧ acc.length ≤ k ∧ fitW ss 0 = (acc ++ (fitW (ss.drop k) n).1, (fitW (ss.drop k) n).2) ∧ (acc = [] → vf = .slice none 0 0) ∧ At W wr (Both (RowG tSx 1 vf acc.length (strs acc)) R)) (fun _ _ vi _ => ss.length - (intOf vi).toNat)
  case atStart => exact ⟨0, 0, [], rfl, rfl, by omega, by omega, Nat.le_refl _, rfl, fun _ => rfl, H0.out⟩
  case round =>
    obtain ⟨k, n, acc, rfl, rfl, hk, hn, hacc, hfit, hnil, h1⟩ := hrel
    have HNI := Lib.hid hnil
    clear hnil
    have H1 := Lib.hid h1
    have HFI := Lib.hid hfit
    clear hfit h1
    by_cases hlt : k < ss.length
    · obtain ⟨r, hr⟩ : ∃ r, ss[k]? = some r := ⟨_, List.getElem?_eq_getElem hlt⟩
      obtain ⟨b, off, cap', hsl, hcell⟩ := (HRD.out.below H1.out.below).str hr
      simp only [Value.slice.injEq] at hsl
      obtain ⟨hao, _, hcv⟩ := hsl
      subst hao
      subst hcv
      have hrl := HSU.out r (List.mem_of_getElem? hr)
      have hdr : ss.drop k = r :: ss.drop (k + 1) := by
        obtain ⟨h1, h2⟩ := List.getElem?_eq_some_iff.1 hr
        rw [List.drop_eq_getElem_cons h1, h2]
      have hfi := HFI.out
      rw [hdr] at hfi
      have hi0 : (0 : Int) ≤ k := by omega
      have hi1 : (k : Int) < ss.length := by omega
      have hwr : IntKind.i64.wrap ((k : Int) + 1) = ((k + 1 : Nat) : Int) := by rw [IntKind.wrap_i64] <;> omega
      have hw1 : IntKind.i64.wrap ((r.length : Int) + 2) = ((r.length + 2 : Nat) : Int) := by rw [IntKind.wrap_i64] <;> omega
      have hw2 : IntKind.i64.wrap ((n : Int) + ((r.length + 2 : Nat) : Int)) = ((n + r.length + 2 : Nat) : Int) := by rw [IntKind.wrap_i64] <;> omega
      clear hr hdr hrl
      by_cases h255 : r.length ≤ 255
      · have h256 : (r.length : Int) ≤ 255 := by omega
        by_cases hn2 : n < 1048576
        · rw [fitW_in ⟨h255, hn2⟩] at hfi
          have HFJ := Lib.hid hfi
          have HN2 := Lib.hid hn2
          have hn3 : (n : Int) < 1048576 := by omega
          clear hfi HFI hn2
          (repeat' (first | (go_big_may; ((at_builtin; go_must (refine wpList_append_to rfl _ _ 22 tSx rfl Tryd.underlying22 info_Sx rfl (by decide) rfl (H1.out) (HR.out) rfl (by first | rfl | simp) rfl (one_str _) (by unfold maxLen; omega) (by omega) ?_); intro a2 c2 w2 h2 _); rw [strs_snoc9] at h2; have H2 := Lib.hid h2; clear h2)) | go_values | go_skip | go_guarded | go_step | go_upon | go_back | dsimp only))
          go_roundw
          case rel => exact ⟨k + 1, n + r.length + 2, acc ++ [r], rfl, rfl, by omega, by have := HN2.out; omega, by simp; omega, by rw [HFJ.out]; simp, fun e => absurd e (by simp), by have := H2.out; simpa using this⟩
          case measure => simp [intOf]; omega
        · rw [fitW_out (fun h => hn2 h.2)] at hfi
          have HFJ := Lib.hid hfi
          have hn3 : ¬ (n : Int) < 1048576 := by omega
          clear hfi HFI hn2
          (repeat' (first | (go_big_may; fail) | go_values | go_skip | go_guarded | go_step | go_upon | go_back | dsimp only))
          go_roundw
          case rel => exact ⟨k + 1, n, acc, rfl, rfl, by omega, by omega, by omega, HFJ.out, HNI.out, H1.out⟩
          case measure => simp [intOf]; omega
      · rw [fitW_out (fun h => h255 h.1)] at hfi
        have HFJ := Lib.hid hfi
        have h256 : ¬ (r.length : Int) ≤ 255 := by omega
        clear hfi HFI
        (repeat' (first | (go_big_may; fail) | go_values | go_skip | go_guarded | go_step | go_upon | go_back | dsimp only))
        go_roundw
        case rel => exact ⟨k + 1, n, acc, rfl, rfl, by omega, by omega, by omega, HFJ.out, HNI.out, H1.out⟩
        case measure => simp [intOf]; omega
    · have hfi := HFI.out
      rw [List.drop_eq_nil_of_le (by omega)] at hfi
      simp only [fitW, List.append_nil] at hfi
      have hi1 : ¬ (k : Int) < ss.length := by omega
      have HFJ := Lib.hid hfi
      clear hfi HFI
      (repeat' (first | (go_big_may; fail) | go_values | go_skip | go_guarded | go_step | go_upon | go_back | dsimp only))
      go_ret2
      rw [HFJ.out]
      exact ⟨_, rfl, HNI.out, H1.out⟩
end
end Go.Proofs.YthcicmbkkkhifaaDoor
namespace Go.Proofs.YthcicmbkkkhifaaDoor
open Go.RowKit

theorem ofL_ba : ofL [[98], [97]] = [[97], [98]] := RisesL.ext (ofL_rises _) (by unfold RisesL LtW; decide) (fun x => by rw [ofL_mem]; simp [or_comm])
theorem wakes_plain : (finishP (addP (newSt 100) (newF 2) [[98], [97], [99]]).1 (addP (newSt 100) (newF 2) [[98], [97], [99]]).2.1).2.2.1 = [1, 2] ∧
    textP (finishP (addP (newSt 100) (newF 2) [[98], [97], [99]]).1 (addP (newSt 100) (newF 2) [[98], [97], [99]]).2.1).1 1 = [1, 97, 1, 98] ∧ textP (finishP (addP (newSt 100) (newF 2) [[98], [97], [99]]).1 (addP (newSt 100) (newF 2) [[98], [97], [99]]).2.1).1 2 = [1, 99] := by
  have hA : AllOf (newSt (100 : Nat)) 2 [[98], [97], [99]] := allOf (by decide) (by decide) (by decide) (by decide) (by decide)
  obtain ⟨Ls, h1, h2, h3, h4⟩ := hA.runs
  have hG := hA.fin
  rw [show ((100 : Nat) : Int) = 100 from rfl] at h1 h2 hG
  have hl : Ls.length = 2 := h3.trans (by decide)
  match Ls, hl with
  | [L0, L1], _ =>
    have e0 := (h4 0 L0 rfl).1
    have e1 := (h4 1 L1 rfl).1
    simp at e0 e1
    subst e0 e1
    have m1 : ((1 : Nat), (⟨frameL (ofL [[98], [97]]), true⟩ : RunD)) ∈ (finishP (addP (newSt 100) (newF 2) [[98], [97], [99]]).1 (addP (newSt 100) (newF 2) [[98], [97], [99]]).2.1).1.runs := by rw [h1]; simp [runsL]
    have m2 : ((2 : Nat), (⟨frameL (ofL [[99]]), true⟩ : RunD)) ∈ (finishP (addP (newSt 100) (newF 2) [[98], [97], [99]]).1 (addP (newSt 100) (newF 2) [[98], [97], [99]]).2.1).1.runs := by rw [h1]; simp [runsL]
    refine ⟨h2, ?_, ?_⟩
    · have := textP_of hG m1 rfl
      rw [show ((1 : Int)) = (((1 : Nat), (⟨frameL (ofL [[98], [97]]), true⟩ : RunD)).1 : Int) from rfl, this, ofL_ba]
      simp [frameL, uintL_lt]
    · have := textP_of hG m2 rfl
      rw [show ((2 : Int)) = (((2 : Nat), (⟨frameL (ofL [[99]]), true⟩ : RunD)).1 : Int) from rfl, this, ofL_one]
      simp [frameL, uintL_lt]
theorem rd_three {w : World} {g c : Nat} {s0 s1 s2 : List UInt8} (h : w.heap[g]? = some (.cells #[.string ⟨s0.toArray⟩, .string ⟨s1.toArray⟩, .string ⟨s2.toArray⟩] 9 (0, 0))) (hc : 3 ≤ c) (hm : c ≤ maxLen) : RdRow w (.slice (some ⟨g, 0, none⟩) 3 c) 3 1 (strs [s0, s1, s2]) :=
  ⟨by simp [strs], _, _, rfl, hc, hm, fun j u hj => ⟨g, 0, rfl, by
    match j with
    | 0 => simp [strs] at hj; subst hj; exact cell_at h 0
    | 1 => simp [strs] at hj; subst hj; exact cell_at h 1
    | 2 => simp [strs] at hj; subst hj; exact cell_at h 2
    | j + 3 => simp [strs] at hj⟩⟩
set_option maxRecDepth 100000 in
set_option maxHeartbeats 3200000 in
theorem wakes9_calls {w : World} {ef : Nat → Nat × Nat} (hF : Fails w ef fails12) :
    Calls Tryd.prog 6 #[] w fun e w' => e = .returned (.bool true) ∧ Below w.heap.size w w' := by
  have hA : AllOf (newSt (100 : Nat)) 2 [[98], [97], [99]] := allOf (by decide) (by decide) (by decide) (by decide) (by decide)
  obtain ⟨p1, p2, p3⟩ := wakes_plain
  have HF := Lib.hid hF
  have HF11 := Lib.hid (fails12_11 hF)
  have hok := hA.ok
  have hdn := hA.done
  have HA := Lib.hid hA
  rw [show ((100 : Nat) : Int) = 100 from rfl] at HA hok hdn
  have h0 := At.nought (Below.refl w.heap.size w)
  have HN := Lib.hid (New_at h0 Stable.nought (c := 100) (by unfold inI64; omega))
  clear hF hA h0
  go_enter Tryd.func6, Tryd.ntmps6
  (repeat' (first | (go_big_may; fail) | go_values | go_skip | go_guarded | go_step | go_upon | go_back | dsimp only))
  refine HN.out.mono ?_
  rintro e w1 ⟨rfl, h1⟩
  have H1 := Lib.hid h1
  clear h1 HN
  generalize w.heap.size + 1 = b at *
  (repeat' (first | (go_big_may; fail) | go_values | go_skip | go_guarded | go_step | go_upon | go_back | dsimp only))
  refine (FNew_at (b := b) (ef := ef) H1.out ((StoreT.stable _ _).both Stable.nought) (n := 2) (by decide)).mono ?_
  rintro e w2 ⟨k, rfl, h2⟩
  have neqn : ∀ wz : World, (binOp .neq tErr .nilIface .nilIface).run Tryd.prog wz = .ok (.bool false) wz := fun wz => neq_nil wz
  have eqn : ∀ wz : World, (binOp .eql tErr .nilIface .nilIface).run Tryd.prog wz = .ok (.bool true) wz := fun wz => eql_nil wz
  have h3 := (h2.newCell ((FoT.stable _ _ _ _).both ((StoreT.stable _ _).both Stable.nought)) #[.string ⟨#[98]⟩, .string ⟨#[97]⟩, .string ⟨#[99]⟩] 9).perm (show _ = Both (FoT k b ef (newF 2)) (Both (StoreT b (newSt 100)) (Both (CellT w2.heap.size #[.string ⟨#[98]⟩, .string ⟨#[97]⟩, .string ⟨#[99]⟩] 9) Nought)) by ac_rfl)
  have hAd := Add_at (ws := [[98], [97], [99]]) (v := .slice (some ⟨w2.heap.size, 0, none⟩) 3 3) h3 ((CellT.stable _ _ _).both Stable.nought) HF11.out (GoodS.new 100) (fun p hp => by cases hp) (newF_ok _ (by decide)) ⟨_, _, rfl, by decide⟩ (by intro x hx; simp at hx; rcases hx with rfl | rfl | rfl <;> simp) (fun w' h' => rd_three h'.cell.1 (by decide) (by decide))
  have hFi := fun (w' : World) (h' : At w w' (Both (FoT k b ef (addP (newSt 100) (newF 2) [[98], [97], [99]]).2.1) (Both (StoreT b (addP (newSt 100) (newF 2) [[98], [97], [99]]).1) (Both (CellT w2.heap.size #[.string ⟨#[98]⟩, .string ⟨#[97]⟩, .string ⟨#[99]⟩] 9) Nought)))) =>
    Finish_at h' ((CellT.stable _ _ _).both Stable.nought) HF11.out HA.out.good HA.out.seal_ HA.out.fok
  have hGQ := HA.out.fin
  generalize addP (newSt 100) (newF 2) [[98], [97], [99]] = P at *
  generalize finishP P.1 P.2.1 = Q at *
  rw [hok, errV_zero] at hAd
  rw [hdn, errV_zero, p1] at hFi
  have HAD := Lib.hid hAd
  have HFI := Lib.hid hFi
  have HGQ := Lib.hid hGQ
  have HP2 := Lib.hid p2
  have HP3 := Lib.hid p3
  clear h2 h3 hAd hFi hGQ p1 p2 p3 hok hdn HA
  (repeat' (first | (go_big_may; fail) | go_values | go_skip | go_guarded | go_step | go_upon | go_back | dsimp only))
  refine HAD.out.mono ?_
  rintro e w4 ⟨rfl, h4⟩
  have H4 := Lib.hid h4
  clear h4 HAD
  (repeat' (first | (go_big_may; fail) | go_values | go_skip | go_guarded | go_step | go_upon | go_back | dsimp only))
  refine (HFI.out w4 H4.out).mono ?_
  rintro e w5 ⟨v5, rfl, h5⟩
  have h6 := h5.newCell ((RowT.stable _ _).both ((FoT.stable _ _ _ _).both ((StoreT.stable _ _).both ((CellT.stable _ _ _).both Stable.nought)))) #[.int .i64 1, .int .i64 2] tInt
  have hrd : RdRow (w5.alloc (.cells #[.int .i64 1, .int .i64 2] tInt)) v5 (mz [1, 2]).length 1 (intsV (mz [1, 2])) := RdRow.of_own h6.drop.row
  have hrd2 : RdRow (w5.alloc (.cells #[.int .i64 1, .int .i64 2] tInt)) (.slice (some ⟨w5.heap.size, 0, none⟩) 2 2) (mz [1, 2]).length 1 (intsV (mz [1, 2])) :=
    ⟨rfl, _, _, rfl, by decide, by decide, fun j u hj => ⟨w5.heap.size, 0, rfl, by
      match j with
      | 0 => simp [intsV, mz] at hj; subst hj; exact cell_at h6.cell.1 0
      | 1 => simp [intsV, mz] at hj; subst hj; exact cell_at h6.cell.1 1
      | j + 2 => simp [intsV, mz] at hj⟩⟩
  have HI := Lib.hid (ints9_calls (mz [1, 2]) v5 (.slice (some ⟨w5.heap.size, 0, none⟩) 2 2) _ hrd hrd2)
  have HST : Hid (Stable (Both (CellT w5.heap.size #[.int .i64 1, .int .i64 2] tInt) (Both (RowT v5 (mz [1, 2])) (Both (FoT k b ef Q.2.1) (Both (StoreT b Q.1) (Both (CellT w2.heap.size #[.string ⟨#[98]⟩, .string ⟨#[97]⟩, .string ⟨#[99]⟩] 9) Nought)))))) :=
    Lib.hid ((CellT.stable _ _ _).both ((RowT.stable _ _).both ((FoT.stable _ _ _ _).both ((StoreT.stable _ _).both ((CellT.stable _ _ _).both Stable.nought)))))
  have H6 := Lib.hid h6
  clear h5 h6 hrd hrd2 HFI H4
  (repeat' (first | (go_big_may; fail) | go_values | go_skip | go_guarded | go_step | go_upon | go_back | dsimp only))
  refine HI.out.mono ?_
  rintro e w7 ⟨rfl, hb7⟩
  have h7 := (H6.out.mono HST.out hb7).perm (show _ = Both (StoreT b Q.1) (Both (CellT w5.heap.size #[.int .i64 1, .int .i64 2] tInt) (Both (RowT v5 (mz [1, 2])) (Both (FoT k b ef Q.2.1) (Both (CellT w2.heap.size #[.string ⟨#[98]⟩, .string ⟨#[97]⟩, .string ⟨#[99]⟩] 9) Nought)))) by ac_rfl)
  have HS2 : Hid (Stable (Both (CellT w5.heap.size #[.int .i64 1, .int .i64 2] tInt) (Both (RowT v5 (mz [1, 2])) (Both (FoT k b ef Q.2.1) (Both (CellT w2.heap.size #[.string ⟨#[98]⟩, .string ⟨#[97]⟩, .string ⟨#[99]⟩] 9) Nought))))) :=
    Lib.hid ((CellT.stable _ _ _).both ((RowT.stable _ _).both ((FoT.stable _ _ _ _).both ((CellT.stable _ _ _).both Stable.nought))))
  have ht1 := text_at h7 HS2.out HF.out HGQ.out (z := 1) (by unfold inI64; omega)
  rw [HP2.out] at ht1
  have HT1 := Lib.hid ht1
  clear h7 ht1 HI H6 HST hb7
  (repeat' (first | (go_big_may; fail) | go_values | go_skip | go_guarded | go_step | go_upon | go_back | dsimp only))
  refine HT1.out.mono ?_
  rintro e w8 ⟨rfl, h8⟩
  have ht2 := text_at h8 HS2.out HF.out HGQ.out (z := 2) (by unfold inI64; omega)
  rw [HP3.out] at ht2
  have HT2 := Lib.hid ht2
  clear h8 ht2 HT1
  (repeat' (first | (go_big_may; fail) | go_values | go_skip | go_guarded | go_step | go_upon | go_back | dsimp only))
  refine HT2.out.mono ?_
  rintro e w9 ⟨rfl, h9⟩
  have HB := Lib.hid h9.below
  clear h9 HT2
  (repeat' (first | (go_big_may; fail) | go_values | go_skip | go_guarded | go_step | go_upon | go_back | dsimp only))
  go_ret
  exact ⟨rfl, HB.out⟩
end Go.Proofs.YthcicmbkkkhifaaDoor
namespace Go.Proofs.YthcicmbkkkhifaaDoor
open Go.RowKit

theorem block_mod (m : Nat) (hm : 1 ≤ m ∧ m ≤ 1000) (B : Int) : ∃ b : Nat, 1 ≤ b ∧ b ≤ m ∧ 1 + max 0 B % (m : Int) = (b : Int) ∧ IntKind.i64.wrap (1 + max 0 B % (m : Int)) = (b : Int) := by
  have h0 : (0 : Int) ≤ max 0 B % (m : Int) := Int.emod_nonneg _ (by omega)
  have h1 : max 0 B % (m : Int) < (m : Int) := Int.emod_lt_of_pos _ (by omega)
  refine ⟨(1 + max 0 B % (m : Int)).toNat, by omega, by omega, by omega, ?_⟩
  rw [IntKind.wrap_i64] <;> omega
theorem bulk_each {ss : List (List UInt8)} (h : ss.length + sumLen ss ≤ 1048576) : ss.length ≤ 1048576 ∧ ∀ x ∈ ss, x.length ≤ 1048576 := by
  refine ⟨by omega, fun x hx => ?_⟩
  have key : ∀ l : List (List UInt8), x ∈ l → x.length ≤ sumLen l := by
    intro l
    induction l with
    | nil => intro h; cases h
    | cons a l ih =>
      intro h
      have e : sumLen (a :: l) = a.length + sumLen l := by simp [sumLen]
      rw [e]
      rcases List.mem_cons.1 h with rfl | h
      · omega
      · have := ih h; omega
  have := key ss hx
  omega
/-- A piece of a row of the call's own. -/
theorem RdRow.piece9 {w : World} {B : Nat} {e : TypeId} {g n cap : Nat} {xs : List Value} (h : w.ownsRow B e 1 (.slice (some ⟨g, 0, none⟩) n cap) n xs) {i j : Nat} (hi : i ≤ j) (hj : j ≤ n) (c : Nat) (hc : j - i ≤ c) (hcm : c ≤ maxLen) :
    RdRow w (.slice (some ⟨g, i, none⟩) (j - i) c) (j - i) 1 ((xs.drop i).take (j - i)) := by
  have h1 := RdRow.of_own h
  obtain ⟨g1, a, cap', g2, g3, g4, g5⟩ := h1
  cases g2
  refine ⟨by rw [List.length_take, List.length_drop]; omega, _, _, rfl, hc, hcm, fun k u hk => ⟨g, i, rfl, ?_⟩⟩
  have hk1 : k < j - i := by
    have := (List.getElem?_eq_some_iff.1 hk).1
    rw [List.length_take] at this; omega
  rw [List.getElem?_take_of_lt hk1, List.getElem?_drop] at hk
  obtain ⟨b, off, q1, q2⟩ := g5 (i + k) u hk
  cases q1
  rw [Nat.zero_add] at q2
  exact q2
theorem strs_piece9 (l : List (List UInt8)) (i j : Nat) : ((strs l).drop i).take j = strs ((l.drop i).take j) := by simp [strs]
theorem take_min {l : List (List UInt8)} {k b : Nat} (hk : k * b < l.length) : (l.drop (k * b)).take (min ((k + 1) * b) l.length - k * b) = (l.drop (k * b)).take b ∧ ((l.drop (k * b)).take b).length = min ((k + 1) * b) l.length - k * b := by
  have h1 : (k + 1) * b = k * b + b := Nat.succ_mul k b
  rw [h1]
  rcases Nat.le_total (k * b + b) l.length with h | h
  · rw [Nat.min_eq_left h, Nat.add_sub_cancel_left]
    exact ⟨rfl, by simp; omega⟩
  · rw [Nat.min_eq_right h]
    refine ⟨?_, by simp; omega⟩
    rw [List.take_of_length_le (by simp), List.take_of_length_le (by simp; omega)]
section
variable {W : World} {ef : Nat → Nat × Nat}
set_option maxRecDepth 100000 in
set_option maxHeartbeats 6400000 in
theorem batchSorts_walk (W : World) (ef : Nat → Nat × Nat) (hF : Fails W ef fails12) (ss : List (List UInt8)) (v : Value) (rd : RdRow W v ss.length 1 (strs ss)) (hbulk : ss.length + sumLen ss ≤ 1048576) (B : Int) (_ : inI64 B) :
    Calls Tryd.prog 5 #[v, .int .i64 B] W fun e w' => e = .returned (.bool true) ∧ Below W.heap.size W w' := by
  obtain ⟨hss, hsx⟩ := bulk_each (ss := ss) (by omega)
  obtain ⟨ft1, ft2, ft3, ft4⟩ := fitW_facts ss 0
  have ft3 := ft3 (by omega)
  obtain ⟨b, hb1, hb2, hb3, hb3w⟩ := block_mod 50 (by omega) B
  have hb4 : IntKind.i64.wrap (b : Int) = (b : Int) := by rw [IntKind.wrap_i64] <;> omega
  rw [show ((50 : Nat) : Int) = 50 from rfl] at hb3 hb3w
  have hnot : ∀ (x : Bool) (w : World), (Op.unary .not (.bool x)).run Tryd.prog w = .ok (.bool (!x)) w := fun _ _ => rfl
  have HWK := Lib.hid (wakes9_calls hF)
  have HF := Lib.hid hF
  have HF11 := Lib.hid (fails12_11 hF)
  have RD := Lib.hid rd
  have HSS := Lib.hid hss
  have HSX := Lib.hid hsx
  have hA := allOf (c := (fitW ss 0).2) (b := b) (ws := (fitW ss 0).1) (by omega) (by omega) ft1 (by omega) (by omega)
  have hll : (fitW ss 0).1.length ≤ 1048576 := by omega
  have HA := Lib.hid hA
  have HFT := Lib.hid (And.intro ft1 (And.intro ft3 hll))
  have HB := Lib.hid (And.intro hb1 hb2)
  clear hF rd hss hsx hA ft1 ft2 ft3 ft4 hll hb1 hb2 hbulk
  go_enter Tryd.func5, Tryd.ntmps5
  (repeat' (first | (go_big_may; fail) | go_values | go_skip | go_guarded | go_step | go_upon | go_back | dsimp only))
  refine HWK.out.mono ?_
  rintro e w1 ⟨rfl, hbw⟩
  have H1 := Lib.hid (At.nought hbw)
  clear hbw HWK
  (repeat' (first | (go_big_may; fail) | go_values | go_skip | go_guarded | go_step | go_upon | go_back | dsimp only))
  refine (fit9_at H1.out Stable.nought RD.out HSS.out HSX.out).mono ?_
  rintro e w2 ⟨vg, rfl, _, h2⟩
  obtain ⟨ga, gc, hvg, hgc, hgm⟩ := own_shape h2.rowG
  subst hvg
  have H2 := Lib.hid h2
  clear h2 H1 hb3w hb3 hb4
  generalize (fitW ss 0).1 = L at *
  generalize (fitW ss 0).2 = n at *
  (repeat' (first | (go_big_may; fail) | go_values | go_skip | go_guarded | go_step | go_upon | go_back | dsimp only))
  have hst2 := (RowG.stable tSx 1 (.slice ga L.length gc) L.length (strs L)).both Stable.nought
  have HFN := Lib.hid HFT.out.2.1
  refine (New_at H2.out hst2 (c := n) (by have := HFN.out; unfold inI64; omega)).mono ?_
  rintro e w3 ⟨rfl, h3⟩
  have H3 := Lib.hid h3
  have HST2 := Lib.hid hst2
  clear h3 hst2 H2
  generalize w2.heap.size + 1 = sb at *
  (repeat' (first | (go_big_may; fail) | go_values | go_skip | go_guarded | go_step | go_upon | go_back | dsimp only))
  refine (FNew_at (b := sb) (ef := ef) H3.out ((StoreT.stable _ _).both HST2.out) (n := b) (by have := HB.out; omega)).mono ?_
  rintro e w4 ⟨k, rfl, h4⟩
  have neqn : ∀ wz : World, (binOp .neq tErr .nilIface .nilIface).run Tryd.prog wz = .ok (.bool false) wz := fun wz => neq_nil wz
  have H4 := Lib.hid h4
  have hst4 : Stable (Both (FoT k sb ef (newF b)) (Both (StoreT sb (newSt n)) (Both (RowG tSx 1 (.slice ga L.length gc) L.length (strs L)) Nought))) := (FoT.stable _ _ _ _).both ((StoreT.stable _ _).both HST2.out)
  have HST4 := Lib.hid hst4
  have htw := twin9_calls L (.slice ga L.length gc) w4 (RdRow.of_own h4.drop.drop.rowG) (by have := HFT.out.2.2; omega)
  have HTW := Lib.hid htw
  clear h4 htw hst4 H3
  (repeat' (first | (go_big_may; fail) | go_values | go_skip | go_guarded | go_step | go_upon | go_back | dsimp only))
  refine HTW.out.mono ?_
  rintro e w5 ⟨vt, rfl, hto, hbt⟩
  obtain ⟨ta, tc, hvt, _, _⟩ := own_shape hto
  subst hvt
  have h5 := (H4.out.newRowG HST4.out hbt hto).perm (show _ = Both (FoT k sb ef (newF b)) (Both (StoreT sb (newSt n)) (Both (RowG tSx 1 (.slice ta L.length tc) L.length (strs L)) (Both (RowG tSx 1 (.slice ga L.length gc) L.length (strs L)) Nought))) by ac_rfl)
  have hstR : Stable (Both (RowG tSx 1 (.slice ta L.length tc) L.length (strs L)) (Both (RowG tSx 1 (.slice ga L.length gc) L.length (strs L)) Nought)) := (RowG.stable _ _ _ _ _).both HST2.out
  have HSTR := Lib.hid hstR
  have hAd := Add_at (ws := L) h5 hstR HF11.out (GoodS.new n) (fun p hp => by cases hp) (newF_ok _ (by have := HB.out; omega)) ⟨_, _, rfl, by have := HFT.out.2.2; omega⟩ (fun x hx => by have := fits_mem.1 HFT.out.1 x hx; omega) (fun w' h' => RdRow.of_own h'.rowG)
  have hFi := fun (w' : World) (h' : At W w' (Both (FoT k sb ef (addP (newSt n) (newF b) L).2.1) (Both (StoreT sb (addP (newSt n) (newF b) L).1) (Both (RowG tSx 1 (.slice ta L.length tc) L.length (strs L)) (Both (RowG tSx 1 (.slice ga L.length gc) L.length (strs L)) Nought))))) => Finish_at h' hstR HF11.out HA.out.good HA.out.seal_ HA.out.fok
  have hok := HA.out.ok
  have hdn := HA.out.done
  obtain ⟨Ls, hr1, hr2, hr3, hr4⟩ := HA.out.runs
  have hgq := HA.out.fin
  generalize addP (newSt n) (newF b) L = P at *
  generalize finishP P.1 P.2.1 = Q at *
  rw [hok, errV_zero] at hAd
  rw [hdn, errV_zero, hr2] at hFi
  have HAD := Lib.hid hAd
  have HFI := Lib.hid hFi
  have HR1 := Lib.hid hr1
  have HR3 := Lib.hid hr3
  have HR4 := Lib.hid hr4
  have HGQ := Lib.hid hgq
  clear h5 hstR hAd hFi hok hdn hr1 hr2 hr3 hr4 hgq hto hbt HTW HST4 H4 HA
  (repeat' (first | (go_big_may; fail) | go_values | go_skip | go_guarded | go_step | go_upon | go_back | dsimp only))
  refine HAD.out.mono ?_
  rintro e w6 ⟨rfl, h6⟩
  have H6 := Lib.hid h6
  clear h6 HAD
  (repeat' (first | (go_big_may; fail) | go_values | go_skip | go_guarded | go_step | go_upon | go_back | dsimp only))
  refine (HFI.out w6 H6.out).mono ?_
  rintro e w7 ⟨v7, rfl, h7⟩
  have hml : (mz (List.range' 1 Ls.length)).length = Ls.length := by simp [mz]
  obtain ⟨la, lc, hv7, _, _⟩ := own_shape h7.row
  subst hv7
  rw [hml] at h7
  rw [hml]
  have H7 := Lib.hid h7
  have HML := Lib.hid hml
  have hll : L.length ≤ 1048576 := HFT.out.2.2
  obtain ⟨hb1, hb2⟩ := HB.out
  obtain ⟨s1, hs1⟩ : ∃ s1, s1 = L.length + b := ⟨_, rfl⟩
  obtain ⟨s2, hs2⟩ : ∃ s2, s2 = s1 - 1 := ⟨_, rfl⟩
  have hr3 : Ls.length = s2 / b := by rw [HR3.out, hs2, hs1]
  have hlsl : Ls.length ≤ 1048626 := by rw [hr3]; exact Nat.le_trans (Nat.div_le_self _ _) (by omega)
  have hw1 : IntKind.i64.wrap ((L.length : Int) + (b : Int)) = (s1 : Int) := by rw [IntKind.wrap_i64] <;> omega
  have hw2 : IntKind.i64.wrap ((s1 : Int) - 1) = (s2 : Int) := by rw [IntKind.wrap_i64] <;> omega
  have hd1 : (s2 : Int) / (b : Int) = (Ls.length : Int) := by rw [hr3]; exact (Int.natCast_ediv _ _).symm
  have hd2 : (s2 : Int).tdiv (b : Int) = (Ls.length : Int) := by rw [Int.tdiv_eq_ediv_of_nonneg (by omega)]; exact hd1
  have hw3 : IntKind.i64.wrap (Ls.length : Int) = (Ls.length : Int) := by rw [IntKind.wrap_i64] <;> omega
  have hbz : ¬ (b : Int) = 0 := by omega
  have hne : ((Ls.length : Int) != (Ls.length : Int)) = false := by simp
  have HS := Lib.hid (And.intro hs1 (And.intro hs2 (And.intro hr3 (And.intro hll (And.intro hb1 hb2)))))
  have HLS := Lib.hid hlsl
  clear h7 HFI H6 hml hs1 hs2 hr3 hll hb1 hb2 hlsl
  (repeat' (first | (go_big_may; fail) | go_values | go_skip | go_guarded | go_step | go_upon | go_back | dsimp only))
  clear hw1 hw2 hd1 hd2 hw3 hne
  have HSTQ := Lib.hid (show Stable (Both (RowT (.slice la Ls.length lc) (mz (List.range' 1 Ls.length))) (Both (FoT k sb ef Q.2.1) (Both (RowG tSx 1 (.slice ta L.length tc) L.length (strs L)) (Both (RowG tSx 1 (.slice ga L.length gc) L.length (strs L)) Nought)))) from (RowT.stable _ _).both ((FoT.stable _ _ _ _).both HSTR.out))
  go_loopw [69] (fun vi wr => ∃ (k' : Nat), vi = .int .i64 k' ∧ k' ≤ Ls.length ∧ At W wr (Both (StoreT sb Q.1) (Both (RowT (.slice la Ls.length lc) (mz (List.range' 1 Ls.length))) (Both (FoT k sb ef Q.2.1) (Both (RowG tSx 1 (.slice ta L.length tc) L.length (strs L)) (Both (RowG tSx 1 (.slice ga L.length gc) L.length (strs L)) Nought)))))) (fun vi _ => Ls.length - (intOf vi).toNat)
  case atStart => exact ⟨0, rfl, Nat.zero_le _, H7.out.perm (by ac_rfl)⟩
  case round =>
    obtain ⟨q, rfl, hq, h8⟩ := hrel
    clear H7
    by_cases hlt : q < Ls.length
    · obtain ⟨Lk, hLk⟩ : ∃ Lk, Ls[q]? = some Lk := ⟨_, List.getElem?_eq_getElem hlt⟩
      obtain ⟨hpc, hqb⟩ := HR4.out q Lk hLk
      obtain ⟨ga', gc', hgv, _, hgc1, hgc2⟩ := own_cut h8.drop.drop.drop.drop.rowG (by omega)
      simp only [Value.slice.injEq] at hgv
      obtain ⟨hg1, _, hg2⟩ := hgv
      subst hg1
      subst hg2
      obtain ⟨t1, t2⟩ := take_min (l := L) (k := q) (b := b) hqb
      rw [hpc] at t1 t2
      have hll := HS.out.2.2.2.1
      have hbb := HS.out.2.2.2.2
      have hqs := HLS.out
      have hmul : q * b ≤ 1048576 := by omega
      have hmul2 : (q + 1) * b ≤ 1048676 := by rw [Nat.succ_mul]; omega
      have hcast : ((q * b : Nat) : Int) = (q : Int) * (b : Int) := by simp
      have hcast2 : (((q + 1) * b : Nat) : Int) = ((q + 1 : Nat) : Int) * (b : Int) := by simp
      have hrd := RdRow.piece9 h8.drop.drop.drop.drop.rowG (i := q * b) (j := min ((q + 1) * b) L.length) (by rw [Nat.succ_mul]; omega) (Nat.min_le_right _ _) (gc - q * b) (by omega) (by omega)
      rw [strs_piece9, t1] at hrd
      have hlo : q * b ≤ min ((q + 1) * b) L.length := by rw [Nat.succ_mul]; omega
      have hhi : min ((q + 1) * b) L.length ≤ gc := by omega
      have hmin : min (((q + 1) * b : Nat) : Int) (L.length : Int) = ((min ((q + 1) * b) L.length : Nat) : Int) := by omega
      rw [← t2] at hrd
      obtain ⟨lo, hlo0⟩ : ∃ lo, lo = q * b := ⟨_, rfl⟩
      obtain ⟨h0, hh0⟩ : ∃ h0, h0 = (q + 1) * b := ⟨_, rfl⟩
      obtain ⟨hi, hhi0⟩ : ∃ hi, hi = min h0 L.length := ⟨_, rfl⟩
      obtain ⟨q1, hq1⟩ : ∃ q1, q1 = q + 1 := ⟨_, rfl⟩
      rw [← hlo0] at hmul hcast hrd hlo hqb t2
      rw [← hh0] at hmul2 hcast2 hlo hhi hmin t2
      rw [← hhi0] at hlo hhi hmin t2
      rw [← hlo0, ← hh0, ← hhi0] at t1
      rw [← hq1] at hcast2
      have hwa : IntKind.i64.wrap ((q : Int) * (b : Int)) = (lo : Int) := by rw [← hcast, IntKind.wrap_i64] <;> omega
      have hwb : IntKind.i64.wrap ((q : Int) + 1) = (q1 : Int) := by rw [IntKind.wrap_i64] <;> omega
      have hwc : IntKind.i64.wrap ((q1 : Int) * (b : Int)) = (h0 : Int) := by rw [← hcast2, IntKind.wrap_i64] <;> omega
      have hi0 : (0 : Int) ≤ q := by omega
      have hi1 : (q : Int) < Ls.length := by omega
      have hb0 : (0 : Int) ≤ lo := by omega
      have hb1 : (lo : Int) ≤ hi := by omega
      have hb2 : (hi : Int) ≤ gc := by omega
      have hrl := RdRow.of_own h8.drop.row
      obtain ⟨gl, off, cl, hsl, hcell⟩ := hrl.intA (k := q) (z := ((1 + q : Nat) : Int)) (by simp [mz, hlt])
      obtain ⟨zr, hzr⟩ : ∃ zr, zr = 1 + q := ⟨_, rfl⟩
      rw [← hzr] at hcell
      have hml := HML.out
      rw [hml] at hsl
      simp only [Value.slice.injEq] at hsl
      obtain ⟨hl1, _, hl2⟩ := hsl
      subst hl1
      subst hl2
      have hgl : ¬ gc = lo := by omega
      have hmem : (zr, (⟨frameL (ofL Lk), true⟩ : RunD)) ∈ Q.1.runs := by
        rw [HR1.out]
        refine List.mem_of_getElem? (i := q) ?_
        rw [runsL_get, hLk, hzr]
        rfl
      have hfl : fits Lk = true := by
        rw [← hpc]
        exact fits_mem.2 fun r hr => fits_mem.1 HFT.out.1 r (List.mem_of_mem_drop (List.mem_of_mem_take hr))
      have hfo := fits_ofL hfl
      have hlk : Lk.length ≤ 50 := by rw [← hpc]; exact Nat.le_trans (List.length_take_le _ _) hbb.2
      have hfsz : (frameL (ofL Lk)).length ≤ 100000 := by
        have h1 := frame_wsum hfo
        have h2 := wsum_fit hfo
        have h3 := ofL_len Lk
        omega
      have htx := text_at h8 HSTQ.out HF.out HGQ.out (z := (zr : Int)) (by unfold inI64; omega)
      rw [textP_of HGQ.out hmem rfl] at htx
      dsimp only at htx
      have hun := fun w' : World => Unframe_calls (⟨(frameL (ofL Lk)).toArray⟩) w' (by show (frameL (ofL Lk)).toArray.size ≤ _; simp; omega)
      have hue : unfL (frameL (ofL Lk)) = (ofL Lk, 0) := unfL_ok (headsL_frame hfo)
      have hun2 : ∀ w' : World, Calls Tryd.prog 18 #[.string ⟨(frameL (ofL Lk)).toArray⟩] w' (StrsErr w' (ofL Lk, 0)) := fun w' => by
        have := hun w'
        rw [show (⟨(frameL (ofL Lk)).toArray⟩ : ByteArray).data.toList = frameL (ofL Lk) by simp, hue] at this
        exact this
      have HTX := Lib.hid htx
      have HUN := Lib.hid hun2
      have HRP := Lib.hid hrd
      have HLK := Lib.hid hlk
      have HQ1 := Lib.hid hq1
      have H8 := Lib.hid h8
      have HLL := Lib.hid t2
      have HPI := Lib.hid t1
      clear hun hun2 hue htx hmem hfl hfo hlk hfsz hrd t1 t2 hpc hcast hcast2 hlo0 hh0 hhi0 hq1 hzr hml hLk hqb hmul hmul2 hlo hhi hbb hll hqs hrl h8
      (repeat' (first | (go_big_may; fail) | go_values | go_skip | go_guarded | go_step | go_upon | go_back | dsimp only))
      refine HTX.out.mono ?_
      rintro e w9 ⟨rfl, h9⟩
      have H9 := Lib.hid h9
      clear h9 HTX H8
      (repeat' (first | (go_big_may; fail) | go_values | go_skip | go_guarded | go_step | go_upon | go_back | dsimp only))
      refine (HUN.out w9).mono ?_
      rintro e w10 ⟨vr, rfl, hro, hbr⟩
      obtain ⟨ra, rc, hvr, _, _⟩ := own_shape hro
      subst hvr
      have hstq : Stable (Both (StoreT sb Q.1) (Both (RowT (.slice (some ⟨gl, off, none⟩) Ls.length lc) (mz (List.range' 1 Ls.length))) (Both (FoT k sb ef Q.2.1) (Both (RowG tSx 1 (.slice ta L.length tc) L.length (strs L)) (Both (RowG tSx 1 (.slice (some ⟨ga', 0, none⟩) L.length gc) L.length (strs L)) Nought))))) := (StoreT.stable _ _).both HSTQ.out
      have h10 := H9.out.mono hstq hbr
      have hrp := HRP.out
      have hgr : RdRow w10 (.slice (some ⟨ga', lo, none⟩) Lk.length (gc - lo)) Lk.length 1 (strs Lk) := by
        have hpc2 := RdRow.piece9 h10.drop.drop.drop.drop.rowG (i := lo) (j := hi) (by omega) (by omega) (gc - lo) (by omega) (by omega)
        rw [strs_piece9, HPI.out, ← HLL.out] at hpc2
        exact hpc2
      have hset := set9_calls (ofL Lk) Lk (.slice ra (ofL Lk).length rc) (.slice (some ⟨ga', lo, none⟩) Lk.length (gc - lo)) w10 (RdRow.of_own hro) hgr (ofL_rises Lk) (ofL_mem Lk)
      rw [HLL.out] at hset
      have HSET := Lib.hid hset
      have H10 := Lib.hid h10
      have HSTQ2 := Lib.hid hstq
      clear hset h10 hgr hrp hro hbr hstq HUN H9
      (repeat' (first | (go_big_may; fail) | go_values | go_skip | go_guarded | go_step | go_upon | go_back | dsimp only))
      refine HSET.out.mono ?_
      rintro e w11 ⟨rfl, hb11⟩
      have H11 := Lib.hid (H10.out.mono HSTQ2.out hb11)
      clear hb11 HSET
      (repeat' (first | (go_big_may; fail) | go_values | go_skip | go_guarded | go_step | go_upon | go_back | dsimp only))
      go_roundw
      case rel => exact ⟨q1, rfl, by have := HQ1.out; omega, H11.out⟩
      case measure => have := HQ1.out; simp [intOf]; omega
    · have hi1 : ¬ (q : Int) < Ls.length := by omega
      have hlv := Live_at h8 HSTQ.out
      have hkl : Q.1.keys.length = Ls.length := by
        unfold St.keys
        rw [HR1.out, List.length_map]
        have := congrArg List.length (runsL_num Ls 1)
        simpa using this
      have HLV := Lib.hid hlv
      have HKL := Lib.hid hkl
      clear hlv hkl h8
      (repeat' (first | (go_big_may; fail) | go_values | go_skip | go_guarded | go_step | go_upon | go_back | dsimp only))
      refine HLV.out.mono ?_
      rintro e w12 ⟨vl, rfl, h12⟩
      obtain ⟨vla, vlc, hvl, _, _⟩ := own_shape h12.row
      subst hvl
      rw [HKL.out]
      have HBE := Lib.hid h12.below
      have hee : ((Ls.length : Int) == (Ls.length : Int)) = true := by simp
      clear h12 HLV
      (repeat' (first | (go_big_may; fail) | go_values | go_skip | go_guarded | go_step | go_upon | go_back | dsimp only))
      go_ret
      exact ⟨rfl, HBE.out⟩
end
end Go.Proofs.YthcicmbkkkhifaaDoor
