/- strings.Join of strings without a separator, walked. -/
import Derived.Test.YtkffeaeacfhobaaDoorGrow
namespace Go.Proofs.YtkffeaeacfhobaaDoor
open Go.RowKit

def cat (ss : List (List UInt8)) : List UInt8 := ss.flatten
theorem cat_at {ss : List (List UInt8)} {k : Nat} {r : List UInt8} (h : ss[k]? = some r) : cat (ss.take (k + 1)) = cat (ss.take k) ++ r := by
  unfold cat; rw [List.take_add_one, h]; simp
theorem cat_take_le (ss : List (List UInt8)) (k : Nat) : (cat (ss.take k)).length ≤ (cat ss).length := by
  have h : cat ss = cat (ss.take k) ++ cat (ss.drop k) := by unfold cat; rw [← List.flatten_append, List.take_append_drop]
  rw [h, List.length_append]; omega

theorem strCells_bvs' (t : List UInt8) : Lib.strCells ⟨t.toArray⟩ = bvs t := by
  simp [Lib.strCells, Lib.byteCells]

set_option maxRecDepth 100000 in
set_option maxHeartbeats 1600000 in
theorem Join_calls (ss : List (List UInt8)) (v : Value) (w : World) (hv : RdRow w v ss.length 1 (strs ss)) (hlen : (cat ss).length ≤ 140737488355328) :
    Calls Tryd.prog 66 #[v, .string ⟨#[]⟩] w fun e w' => e = .returned (.string ⟨(cat ss).toArray⟩) ∧ Below w.heap.size w w' := by
  obtain ⟨a, cap, rfl, hc1, hc2⟩ := hv.shape
  unfold maxLen at hc2
  have HV := Lib.hid hv
  have HLN := Lib.hid hlen
  clear hv hlen
  match ss, hc1, HV, HLN with
  | [], hc1, HV, HLN =>
    simp only [List.length_nil]
    go_enter Tryd.func66, Tryd.ntmps66
    (repeat' (first | (go_big_may; fail) | go_values | go_skip | go_guarded | go_step | go_upon | go_back | dsimp only))
    go_ret
    exact ⟨rfl, Below.refl _ _⟩
  | [x], hc1, HV, HLN =>
    obtain ⟨b, off, cap', hsl, hcell⟩ := HV.out.str (k := 0) (r := x) rfl
    cases hsl
    simp only [List.length_cons, List.length_nil, Nat.zero_add]
    simp only [Nat.add_zero] at hcell
    go_enter Tryd.func66, Tryd.ntmps66
    (repeat' (first | (go_big_may; fail) | go_values | go_skip | go_guarded | go_step | go_upon | go_back | dsimp only))
    go_ret
    exact ⟨by simp [cat], Below.refl _ _⟩
  | x :: y :: l, hc1, HV, HLN =>
    obtain ⟨ss, hss⟩ : ∃ ss, ss = x :: y :: l := ⟨_, rfl⟩
    rw [← hss] at HV HLN hc1 ⊢
    have h2 : 2 ≤ ss.length := by rw [hss]; simp
    have hx : ss[0]? = some x := by rw [hss]; rfl
    have HX := Lib.hid hx
    clear hss hx
    have hn0 : (ss.length : Int) ≠ 0 := by omega
    have hn1 : (ss.length : Int) ≠ 1 := by omega
    have hb0 : ((ss.length : Int) == 0) = false := by rw [beq_eq_false_iff_ne]; omega
    have hb1 : ((ss.length : Int) == 1) = false := by rw [beq_eq_false_iff_ne]; omega
    go_enter Tryd.func66, Tryd.ntmps66
    (repeat' (first | (go_big_may; fail) | go_values | go_skip | go_guarded | go_step | go_upon | go_back | dsimp only))
    go_loopw [5, 41] (fun n i wr => ∃ k : Nat, i = .int .i64 k ∧ k ≤ ss.length ∧ n = .int .i64 ((cat (ss.take k)).length : Nat) ∧ Below w.heap.size w wr) (fun _ i _ => ss.length - (intOf i).toNat)
    case atStart => exact ⟨0, rfl, Nat.zero_le _, rfl, Below.refl _ _⟩
    case round =>
      obtain ⟨k, rfl, hk, rfl, hbel⟩ := hrel
      have hle := HLN.out
      by_cases hlt : k < ss.length
      · obtain ⟨r, hr⟩ : ∃ r, ss[k]? = some r := ⟨_, List.getElem?_eq_getElem hlt⟩
        obtain ⟨b, off, cap', hsl, hcell⟩ := (HV.out.below hbel).str hr
        cases hsl
        have hct := cat_at hr
        have hct2 := cat_take_le ss (k + 1)
        rw [hct, List.length_append] at hct2
        have HCT := Lib.hid hct
        clear hr hct
        (repeat' (first | (go_big_may; fail) | go_values | go_skip | go_guarded | go_step | go_upon | go_back | dsimp only))
        go_roundw
        case rel =>
          refine ⟨k + 1, by go_num, by omega, ?_, hbel⟩
          rw [HCT.out, List.length_append]
          go_num
        case measure => simp [intOf] <;> omega
      · have hkl : k = ss.length := by omega
        have hct : cat (ss.take k) = cat ss := by rw [hkl, List.take_length]
        rw [hct]
        clear hct
        obtain ⟨g, off, cap', hsl, _⟩ := HV.out.str HX.out
        cases hsl
        have hws : w.heap.size ≤ wr.heap.size := hbel.size
        (repeat' (first | (go_big_may; fail) | go_values | go_skip | go_guarded | go_step | go_upon | go_back | dsimp only))
        refine (Grow_fresh wr.heap.size wr.heap.size (cat ss).length _ (Nat.le_refl _) (heap_alloc_new _ _) (by simp) (by omega)).mono ?_
        rintro e w1 ⟨rfl, hbu1, hb1⟩
        have hbw1 : Below w.heap.size w w1 := hbel.trans ((((Below.refl wr.heap.size wr).alloc (Nat.le_refl _) _).trans hb1).mono hws)
        have hs1 : wr.heap.size ≤ w1.heap.size := by have := hb1.size; simp at this; omega
        obtain ⟨g', off', cap1, hsl, hcell⟩ := (HV.out.below hbw1).str HX.out
        cases hsl
        simp only [Nat.add_zero] at hcell
        have hx1 := cat_take_le ss 1
        have hx2 : cat (ss.take 1) = x := by rw [cat_at (k := 0) HX.out]; simp [cat]
        rw [hx2] at hx1
        have HX2 := Lib.hid hx2
        have HB1 := Lib.hid hb1
        have HBW1 := Lib.hid hbw1
        have HBU1 := Lib.hid hbu1
        clear hx2 hb1 hbw1 hbu1
        (repeat' (first | (go_big_may; fail) | go_values | go_skip | go_guarded | go_step | go_upon | go_back | dsimp only))
        refine (WriteString_calls wr.heap.size wr.heap.size _ ⟨x.toArray⟩ _ HBU1.out (by simp [ByteArray.size]; omega) hs1).mono ?_
        rintro e w2 ⟨rfl, hbu2, hb2⟩
        have hs2 := hb2.size
        have hbw2 := HBW1.out.trans (hb2.mono hws)
        have HBU2 := Lib.hid hbu2
        have HBW2 := Lib.hid hbw2
        clear hbu2 hbw2 hcell HBU1 HB1 HBW1
        (repeat' (first | (go_big_may; fail) | go_values | go_skip | go_guarded | go_step | go_upon | go_back | dsimp only))
        generalize hB : wr.heap.size = B at *
        go_loopw [65] (fun i wq => ∃ j : Nat, i = .int .i64 j ∧ j + 1 ≤ ss.length ∧ Lib.IsBuilder tB tU8 B B (bvs (cat (ss.take (j + 1)))) wq ∧ Below w.heap.size w wq ∧ B ≤ wq.heap.size) (fun i _ => ss.length - (intOf i).toNat)
        case atStart =>
          refine ⟨0, rfl, by omega, ?_, HBW2.out, by omega⟩
          have := HBU2.out
          rw [HX2.out]
          simpa [strCells_bvs'] using this
        case round =>
          obtain ⟨j, rfl, hj, hbq, hbwq, hsq⟩ := hrel
          have HBQ := Lib.hid hbq
          have HBWQ := Lib.hid hbwq
          clear hbq hbwq
          by_cases hlt2 : j + 1 < ss.length
          · obtain ⟨r, hr⟩ : ∃ r, ss[j + 1]? = some r := ⟨_, List.getElem?_eq_getElem hlt2⟩
            obtain ⟨g', off', cap1, hsl, hcell⟩ := (HV.out.below HBWQ.out).str hr
            cases hsl
            have hcell' : wr.cell? ⟨g, off + 1 + j, none⟩ = some (.string ⟨r.toArray⟩) := by rw [← hcell]; congr 2; omega
            have hct := cat_at hr
            have hct2 := cat_take_le ss (j + 1 + 1)
            rw [hct, List.length_append] at hct2
            have HCT := Lib.hid hct
            have HR := Lib.hid hr
            clear hct hr hcell
            (repeat' (first | (go_big_may; fail) | go_values | go_skip | go_guarded | go_step | go_upon | go_back | dsimp only))
            refine (WriteString_calls B B _ ⟨#[]⟩ _ HBQ.out (by rw [bvs_length]; simp [ByteArray.size]; omega) hsq).mono ?_
            rintro e w3 ⟨rfl, hbu3, hb3⟩
            have hs3 := hb3.size
            have hbw3 := HBWQ.out.trans (hb3.mono hws)
            have hb3' : Lib.IsBuilder tB tU8 B B (bvs (cat (ss.take (j + 1)))) w3 := by simpa [Lib.strCells] using hbu3
            have HBU3 := Lib.hid hb3'
            have HBW3 := Lib.hid hbw3
            clear hbu3 hb3' hbw3 hb3 HBQ HBWQ
            (repeat' (first | (go_big_may; fail) | go_values | go_skip | go_guarded | go_step | go_upon | go_back | dsimp only))
            refine (WriteString_calls B B _ ⟨r.toArray⟩ _ HBU3.out (by rw [bvs_length]; simp [ByteArray.size]; omega) (by omega)).mono ?_
            rintro e w4 ⟨rfl, hbu4, hb4⟩
            have hs4 := hb4.size
            have HBU4 := Lib.hid hbu4
            have HBW4 := Lib.hid (HBW3.out.trans (hb4.mono hws))
            clear hbu4 hb4 HBU3 HBW3
            (repeat' (first | (go_big_may; fail) | go_values | go_skip | go_guarded | go_step | go_upon | go_back | dsimp only))
            go_roundw
            case rel =>
              refine ⟨j + 1, by go_num, by omega, ?_, HBW4.out, by omega⟩
              have := HBU4.out
              rw [HCT.out, bvs_append, ← strCells_bvs' r]
              exact this
            case measure => simp [intOf] <;> omega
          · have hjl : j + 1 = ss.length := by omega
            have hct : cat (ss.take (j + 1)) = cat ss := by rw [hjl, List.take_length]
            rw [hct] at HBQ
            clear hct
            (repeat' (first | (go_big_may; fail) | go_values | go_skip | go_guarded | go_step | go_upon | go_back | dsimp only))
            refine (Builder_String_any B B _ _ HBQ.out hsq).mono ?_
            rintro e w3 ⟨rfl, hb3⟩
            have HBW3 := Lib.hid (HBWQ.out.trans (hb3.mono hws))
            clear hb3 HBQ HBWQ
            (repeat' (first | (go_big_may; fail) | go_values | go_skip | go_guarded | go_step | go_upon | go_back | dsimp only))
            go_ret
            exact ⟨rfl, HBW3.out⟩
end Go.Proofs.YtkffeaeacfhobaaDoor
