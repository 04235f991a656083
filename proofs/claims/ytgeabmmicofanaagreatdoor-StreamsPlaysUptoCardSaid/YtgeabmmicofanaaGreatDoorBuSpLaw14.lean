/- strings.Builder's grow (the shelf's contract at this seat's numbers) and Grow, walked. · strings.Join of strings without a separator, walked. -/
import Derived.Test.YtgeabmmicofanaaGreatDoorBuSpLaw12
import Derived.Test.YtgeabmmicofanaaGreatDoorBuSpLaw13
import Derived.Test.YtgeabmmicofanaaGreatDoorBuSpLaw03
import Derived.Shelf.Strings.Builder2
import Derived.Deep.QuietTactic
import Derived.BigQuiet
set_option linter.unusedSimpArgs false
set_option linter.unusedVariables false
namespace Go.Proofs.YtgeabmmicofanaaGreatDoor
open Go.Shelf Go.RowKit

def ren241 : Go.Shelf.Ren := ⟨fun | 241 => 90 | 277 => 99 | n => n, fun | 70 => 120 | 9 => 9 | 0 => 0 | 72 => 122 | 37 => 93 | 127 => 146 | 3 => 3 | 5 => 5 | n => n, fun | n => n⟩
theorem lays241 : Go.Proofs.Lays.n241 Tryz.prog ren241 := {
  mixed := by kernel_rfl
  f241 := Tryz.func90.trans (congrArg some (by kernel_rfl))
  f277 := Tryz.func99.trans (congrArg some (by kernel_rfl))
  t0 := Tryz.underlying0
  a0 := Tryz.isAgg0
  z0 := Tryz.sizeOf0
  v0 := Tryz.zeroValue0
  t3 := Tryz.underlying3
  a3 := Tryz.isAgg3
  z3 := Tryz.sizeOf3
  v3 := Tryz.zeroValue3
  t37 := Tryz.underlying93
  a37 := Tryz.isAgg93
  z37 := Tryz.sizeOf93
  v37 := Tryz.zeroValue93
  t70 := Tryz.underlying120
  a70 := Tryz.isAgg120
  z70 := Tryz.sizeOf120
  v70 := Tryz.zeroValue120
  t72 := Tryz.underlying122
  a72 := Tryz.isAgg122
  z72 := Tryz.sizeOf122
  v72 := Tryz.zeroValue122 }
theorem extra241 : Builder.Extra Tryz.prog ren241 := {
  sizeBuilder := by kernel_rfl
  liesBuilder := by kernel_rfl
  t5 := Tryz.underlying5
  a5 := Tryz.isAgg5
  z5 := Tryz.sizeOf5
  v5 := Tryz.zeroValue5
  infoByte := by kernel_rfl
  cellsByte := by kernel_rfl
  sizeByte := by kernel_rfl
  neB5 := by decide }
theorem grow_fresh (B b n : Nat) (w : World) (hB : B ≤ b) (hbk : w.heap[b]? = some (.cells #[.pointer (some ⟨b, 0, none⟩), .slice none 0 0] tB (0, 0))) (hBw : B ≤ w.heap.size) (hn : n ≤ 281474976710656) :
    Calls Tryz.prog 90 #[.pointer (some ⟨b, 0, none⟩), .int .i64 n] w fun e w' => e = .returned (.tuple #[]) ∧ (Lib.BuilderAt tB tU8 B b (.pointer (some ⟨b, 0, none⟩)) [] w' ∧ Below B w w') := Any.Builder_grow_fresh lays241 extra241 B b n w hB hbk hBw hn

set_option maxRecDepth 100000 in
set_option maxHeartbeats 1000000 in
theorem Grow_fresh (B b n : Nat) (w : World) (hB : B ≤ b) (hbk : w.heap[b]? = some (.cells #[.pointer none, .slice none 0 0] tB (0, 0))) (hBw : B ≤ w.heap.size) (hn : n ≤ 281474976710656) :
    Calls Tryz.prog 70 #[.pointer (some ⟨b, 0, none⟩), .int .i64 n] w fun e w' => e = .returned (.tuple #[]) ∧ Lib.IsBuilder tB tU8 B b [] w' ∧ Below B w w' := by
  have h0 : w.cell? ⟨b, 0, none⟩ = some (.pointer none) := by rw [Lib.cell_of_heap hbk]; rfl
  have hsh : w.shape? b = some (tB, 2) := by simp [World.shape?, hbk]
  have hfz : w.frozen? ⟨b, 0, none⟩ = false := Lib.frozen_of_heap hbk 0
  have hcc := copyCheck_fresh b w h0 hsh hfz
  have hbk1 : (w.setCell ⟨b, 0, none⟩ (.pointer (some ⟨b, 0, none⟩))).heap[b]? = some (.cells #[.pointer (some ⟨b, 0, none⟩), .slice none 0 0] tB (0, 0)) := by
    simp [World.setCell, Array.getElem?_modify, hbk]
  have hb1 : Below B w (w.setCell ⟨b, 0, none⟩ (.pointer (some ⟨b, 0, none⟩))) := (Below.refl B w).setCell (p := ⟨b, 0, none⟩) hB _
  obtain ⟨w1, hw1⟩ : ∃ w1, w1 = w.setCell ⟨b, 0, none⟩ (.pointer (some ⟨b, 0, none⟩)) := ⟨_, rfl⟩
  rw [← hw1] at hcc hbk1 hb1
  have c1 : w1.cell? ⟨b, 1, none⟩ = some (.slice none 0 0) := by rw [Lib.cell_of_heap hbk1]; rfl
  have hg : ∀ k, Calls Tryz.prog 90 #[.pointer (some ⟨b, 0, none⟩), .int .i64 n] (w1.drewN k) fun e w' => e = .returned (.tuple #[]) ∧ (Lib.BuilderAt tB tU8 B b (.pointer (some ⟨b, 0, none⟩)) [] w' ∧ Below B (w1.drewN k) w') :=
    fun k => grow_fresh B b n _ hB hbk1 (by have := hb1.size; show B ≤ w1.heap.size; omega) hn
  have hb1n : ∀ k, Below B w (w1.drewN k) := fun k => ⟨hb1.os, hb1.tape, hb1.output, hb1.size, hb1.block⟩
  have hbd : ∀ k, Lib.IsBuilder tB tU8 B b [] (w1.drewN k) := fun k => .inr ⟨hB, .slice none 0 0, hbk1, World.ownsRow_nil _ _ _ _, by simp [Value.ownBlock]⟩
  have HB1N := Lib.hid hb1n
  have HBD := Lib.hid hbd
  have HCC := Lib.hid hcc
  have HG := Lib.hid hg
  have HB1 := Lib.hid hb1
  clear hb1n hbd hcc hg hb1 hw1 hbk1 hfz hsh h0 hbk
  go_enter Tryz.func70, Tryz.ntmps70
  (repeat' (first | (go_big_may; fail) | go_values | go_skip | go_guarded | go_step | go_upon | go_back | dsimp only))
  refine HCC.out.mono ?_
  rintro e w2 ⟨rfl, rfl⟩
  (repeat' (first | (go_big_may; fail) | go_values | go_skip | go_guarded | go_step | go_upon | go_back | dsimp only))
  go_quiet (fail)
  (repeat' (first | (go_big_may; fail) | go_values | go_skip | go_guarded | go_step | go_upon | go_back | dsimp only))
  · refine (HG.out _).mono ?_
    rintro e w3 ⟨rfl, hb3, hw3⟩
    have HR := Lib.hid (And.intro hb3 ((HB1N.out _).trans hw3))
    clear hb3 hw3 HG HCC HB1
    (repeat' (first | (go_big_may; fail) | go_values | go_skip | go_guarded | go_step | go_upon | go_back | dsimp only))
    go_end0
    exact ⟨rfl, .inr HR.out.1, HR.out.2⟩
  · go_end0
    exact ⟨rfl, HBD.out _, HB1N.out _⟩
end Go.Proofs.YtgeabmmicofanaaGreatDoor
namespace Go.Proofs.YtgeabmmicofanaaGreatDoor
open Go.RowKit

def cat (ss : List (List UInt8)) : List UInt8 := ss.flatten
theorem cat_at {ss : List (List UInt8)} {k : Nat} {r : List UInt8} (h : ss[k]? = some r) : cat (ss.take (k + 1)) = cat (ss.take k) ++ r := by
  unfold cat; rw [List.take_add_one, h]; simp
theorem cat_take_le (ss : List (List UInt8)) (k : Nat) : (cat (ss.take k)).length ≤ (cat ss).length := by
  have h : cat ss = cat (ss.take k) ++ cat (ss.drop k) := by unfold cat; rw [← List.flatten_append, List.take_append_drop]
  rw [h, List.length_append]; omega

theorem strCells_bvs' (t : List UInt8) : Lib.strCells ⟨t.toArray⟩ = bvs t := by
  simp [Lib.strCells, Lib.byteCells]

set_option maxRecDepth 100000 in
set_option maxHeartbeats 1600000 in
theorem Join_calls (ss : List (List UInt8)) (v : Value) (w : World) (hv : RdRow w v ss.length 1 (strs ss)) (hlen : (cat ss).length ≤ 140737488355328) :
    Calls Tryz.prog 53 #[v, .string ⟨#[]⟩] w fun e w' => e = .returned (.string ⟨(cat ss).toArray⟩) ∧ Below w.heap.size w w' := by
  obtain ⟨a, cap, rfl, hc1, hc2⟩ := hv.shape
  unfold maxLen at hc2
  have HV := Lib.hid hv
  have HLN := Lib.hid hlen
  clear hv hlen
  match ss, hc1, HV, HLN with
  | [], hc1, HV, HLN =>
    simp only [List.length_nil]
    go_enter Tryz.func53, Tryz.ntmps53
    (repeat' (first | (go_big_may; fail) | go_values | go_skip | go_guarded | go_step | go_upon | go_back | dsimp only))
    go_ret
    exact ⟨rfl, Below.refl _ _⟩
  | [x], hc1, HV, HLN =>
    obtain ⟨b, off, cap', hsl, hcell⟩ := HV.out.str (k := 0) (r := x) rfl
    cases hsl
    simp only [List.length_cons, List.length_nil, Nat.zero_add]
    simp only [Nat.add_zero] at hcell
    go_enter Tryz.func53, Tryz.ntmps53
    (repeat' (first | (go_big_may; fail) | go_values | go_skip | go_guarded | go_step | go_upon | go_back | dsimp only))
    go_ret
    exact ⟨by simp [cat], Below.refl _ _⟩
  | x :: y :: l, hc1, HV, HLN =>
    obtain ⟨ss, hss⟩ : ∃ ss, ss = x :: y :: l := ⟨_, rfl⟩
    rw [← hss] at HV HLN hc1 ⊢
    have h2 : 2 ≤ ss.length := by rw [hss]; simp
    have hx : ss[0]? = some x := by rw [hss]; rfl
    have HX := Lib.hid hx
    clear hss hx
    have hn0 : (ss.length : Int) ≠ 0 := by omega
    have hn1 : (ss.length : Int) ≠ 1 := by omega
    have hb0 : ((ss.length : Int) == 0) = false := by rw [beq_eq_false_iff_ne]; omega
    have hb1 : ((ss.length : Int) == 1) = false := by rw [beq_eq_false_iff_ne]; omega
    go_enter Tryz.func53, Tryz.ntmps53
    (repeat' (first | (go_big_may; fail) | go_values | go_skip | go_guarded | go_step | go_upon | go_back | dsimp only))
    go_loopw [5, 41] (fun n i wr => ∃ k : Nat, i = .int .i64 k ∧ k ≤ ss.length ∧ n = .int .i64 ((cat (ss.take k)).length : Nat) ∧ Below w.heap.size w wr) (fun _ i _ => ss.length - (intOf i).toNat)
    case atStart => exact ⟨0, rfl, Nat.zero_le _, rfl, Below.refl _ _⟩
    case round =>
      obtain ⟨k, rfl, hk, rfl, hbel⟩ := hrel
      have hle := HLN.out
      by_cases hlt : k < ss.length
      · obtain ⟨r, hr⟩ : ∃ r, ss[k]? = some r := ⟨_, List.getElem?_eq_getElem hlt⟩
        obtain ⟨b, off, cap', hsl, hcell⟩ := (HV.out.below hbel).str hr
        cases hsl
        have hct := cat_at hr
        have hct2 := cat_take_le ss (k + 1)
        rw [hct, List.length_append] at hct2
        have HCT := Lib.hid hct
        clear hr hct
        (repeat' (first | (go_big_may; fail) | go_values | go_skip | go_guarded | go_step | go_upon | go_back | dsimp only))
        go_roundw
        case rel =>
          refine ⟨k + 1, by go_num, by omega, ?_, hbel⟩
          rw [HCT.out, List.length_append]
          go_num
        case measure => simp [intOf] <;> omega
      · have hkl : k = ss.length := by omega
        have hct : cat (ss.take k) = cat ss := by rw [hkl, List.take_length]
        rw [hct]
        clear hct
        obtain ⟨g, off, cap', hsl, _⟩ := HV.out.str HX.out
        cases hsl
        have hws : w.heap.size ≤ wr.heap.size := hbel.size
        (repeat' (first | (go_big_may; fail) | go_values | go_skip | go_guarded | go_step | go_upon | go_back | dsimp only))
        refine (Grow_fresh wr.heap.size wr.heap.size (cat ss).length _ (Nat.le_refl _) (heap_alloc_new _ _) (by simp) (by omega)).mono ?_
        rintro e w1 ⟨rfl, hbu1, hb1⟩
        have hbw1 : Below w.heap.size w w1 := hbel.trans ((((Below.refl wr.heap.size wr).alloc (Nat.le_refl _) _).trans hb1).mono hws)
        have hs1 : wr.heap.size ≤ w1.heap.size := by have := hb1.size; simp at this; omega
        obtain ⟨g', off', cap1, hsl, hcell⟩ := (HV.out.below hbw1).str HX.out
        cases hsl
        simp only [Nat.add_zero] at hcell
        have hx1 := cat_take_le ss 1
        have hx2 : cat (ss.take 1) = x := by rw [cat_at (k := 0) HX.out]; simp [cat]
        rw [hx2] at hx1
        have HX2 := Lib.hid hx2
        have HB1 := Lib.hid hb1
        have HBW1 := Lib.hid hbw1
        have HBU1 := Lib.hid hbu1
        clear hx2 hb1 hbw1 hbu1
        (repeat' (first | (go_big_may; fail) | go_values | go_skip | go_guarded | go_step | go_upon | go_back | dsimp only))
        refine (WriteString_calls wr.heap.size wr.heap.size _ ⟨x.toArray⟩ _ HBU1.out (by simp [ByteArray.size]; omega) hs1).mono ?_
        rintro e w2 ⟨rfl, hbu2, hb2⟩
        have hs2 := hb2.size
        have hbw2 := HBW1.out.trans (hb2.mono hws)
        have HBU2 := Lib.hid hbu2
        have HBW2 := Lib.hid hbw2
        clear hbu2 hbw2 hcell HBU1 HB1 HBW1
        (repeat' (first | (go_big_may; fail) | go_values | go_skip | go_guarded | go_step | go_upon | go_back | dsimp only))
        generalize hB : wr.heap.size = B at *
        go_loopw [65] (fun i wq => ∃ j : Nat, i = .int .i64 j ∧ j + 1 ≤ ss.length ∧ Lib.IsBuilder tB tU8 B B (bvs (cat (ss.take (j + 1)))) wq ∧ Below w.heap.size w wq ∧ B ≤ wq.heap.size) (fun i _ => ss.length - (intOf i).toNat)
        case atStart =>
          refine ⟨0, rfl, by omega, ?_, HBW2.out, by omega⟩
          have := HBU2.out
          rw [HX2.out]
          simpa [strCells_bvs'] using this
        case round =>
          obtain ⟨j, rfl, hj, hbq, hbwq, hsq⟩ := hrel
          have HBQ := Lib.hid hbq
          have HBWQ := Lib.hid hbwq
          clear hbq hbwq
          by_cases hlt2 : j + 1 < ss.length
          · obtain ⟨r, hr⟩ : ∃ r, ss[j + 1]? = some r := ⟨_, List.getElem?_eq_getElem hlt2⟩
            obtain ⟨g', off', cap1, hsl, hcell⟩ := (HV.out.below HBWQ.out).str hr
            cases hsl
            have hcell' : wr.cell? ⟨g, off + 1 + j, none⟩ = some (.string ⟨r.toArray⟩) := by rw [← hcell]; congr 2; omega
            have hct := cat_at hr
            have hct2 := cat_take_le ss (j + 1 + 1)
            rw [hct, List.length_append] at hct2
            have HCT := Lib.hid hct
            have HR := Lib.hid hr
            clear hct hr hcell
            (repeat' (first | (go_big_may; fail) | go_values | go_skip | go_guarded | go_step | go_upon | go_back | dsimp only))
            refine (WriteString_calls B B _ ⟨#[]⟩ _ HBQ.out (by rw [bvs_length]; simp [ByteArray.size]; omega) hsq).mono ?_
            rintro e w3 ⟨rfl, hbu3, hb3⟩
            have hs3 := hb3.size
            have hbw3 := HBWQ.out.trans (hb3.mono hws)
            have hb3' : Lib.IsBuilder tB tU8 B B (bvs (cat (ss.take (j + 1)))) w3 := by simpa [Lib.strCells] using hbu3
            have HBU3 := Lib.hid hb3'
            have HBW3 := Lib.hid hbw3
            clear hbu3 hb3' hbw3 hb3 HBQ HBWQ
            (repeat' (first | (go_big_may; fail) | go_values | go_skip | go_guarded | go_step | go_upon | go_back | dsimp only))
            refine (WriteString_calls B B _ ⟨r.toArray⟩ _ HBU3.out (by rw [bvs_length]; simp [ByteArray.size]; omega) (by omega)).mono ?_
            rintro e w4 ⟨rfl, hbu4, hb4⟩
            have hs4 := hb4.size
            have HBU4 := Lib.hid hbu4
            have HBW4 := Lib.hid (HBW3.out.trans (hb4.mono hws))
            clear hbu4 hb4 HBU3 HBW3
            (repeat' (first | (go_big_may; fail) | go_values | go_skip | go_guarded | go_step | go_upon | go_back | dsimp only))
            go_roundw
            case rel =>
              refine ⟨j + 1, by go_num, by omega, ?_, HBW4.out, by omega⟩
              have := HBU4.out
              rw [HCT.out, bvs_append, ← strCells_bvs' r]
              exact this
            case measure => simp [intOf] <;> omega
          · have hjl : j + 1 = ss.length := by omega
            have hct : cat (ss.take (j + 1)) = cat ss := by rw [hjl, List.take_length]
            rw [hct] at HBQ
            clear hct
            (repeat' (first | (go_big_may; fail) | go_values | go_skip | go_guarded | go_step | go_upon | go_back | dsimp only))
            refine (Builder_String_any B B _ _ HBQ.out hsq).mono ?_
            rintro e w3 ⟨rfl, hb3⟩
            have HBW3 := Lib.hid (HBWQ.out.trans (hb3.mono hws))
            clear hb3 HBQ HBWQ
            (repeat' (first | (go_big_may; fail) | go_values | go_skip | go_guarded | go_step | go_upon | go_back | dsimp only))
            go_ret
            exact ⟨rfl, HBW3.out⟩
end Go.Proofs.YtgeabmmicofanaaGreatDoor
