/- hornbookref19.sign walked. -/
import Derived.Test.YthjkfiniafblbaaMinPl
import Derived.Test.YthjkfiniafblbaaWkRef
import Derived.Test.YthjkfiniafblbaaRefU
import Derived.Test.YthjkfiniafblbaaDawgFz
namespace Go.Proofs.Ythjkfiniafblbaa
open Go.RowKit

theorem sgK_take {K : List Nat} {es : List Ed} {j : Nat} {e : Ed} (h : es[j]? = some e) : sgK K (es.take (j + 1)) = sgK K (es.take j) ++ [e.1] ++ uintL (K.getD e.2.toNat 0) := pk_succ h
theorem str_cat {P : Program} (x y : List UInt8) (w : World) (h : x.length + y.length ≤ 9223372036854775807) : (Op.stringOp .add ⟨x.toArray⟩ ⟨y.toArray⟩).run P w = .ok (.string ⟨(x ++ y).toArray⟩) w := by
  rw [run_string_add_sum w _ _ (by simp [ByteArray.size]; omega), ByteArray.mk_append_mk]
theorem RdRow.nat {w : World} {v : Value} {n : Nat} {K : List Nat} (h : RdRow w v n 1 (K.map fun c => Value.int .i64 (c : Nat))) {m c : Nat} (hm : K[m]? = some c) :
    ∃ b off cap, v = .slice (some ⟨b, off, none⟩) n cap ∧ w.cell? ⟨b, off + m, none⟩ = some (.int .i64 (c : Nat)) := by
  obtain ⟨_, a, cap, rfl, _, _, hc⟩ := h
  obtain ⟨b, off, rfl, hcell⟩ := hc m (.int .i64 (c : Nat)) (by simp [hm])
  exact ⟨b, off, cap, rfl, hcell⟩
set_option maxRecDepth 100000 in
set_option maxHeartbeats 3200000 in
theorem sign_calls {w : World} {x : Sta} {ev kv : Value} {K : List Nat} (hE : RdEds w ev x.edges) (hK : RdRow w kv K.length 1 (K.map fun c => Value.int .i64 (c : Nat))) (hel : x.edges.length ≤ 1048576) (hto : ∀ e ∈ x.edges, 0 ≤ e.2 ∧ e.2.toNat < K.length) (hb : ∀ i, K.getD i 0 < 1048577) :
    Calls Try.prog 57 #[.agg #[.bool x.final, ev], kv] w fun e w' => e = .returned (.string ⟨(sgA K x).toArray⟩) ∧ Below w.heap.size w w' := by
  obtain ⟨ea, ec, hev, _, hec⟩ := hE.shape
  subst hev
  unfold maxLen at hec
  have HE := Lib.hid hE
  have HK := Lib.hid hK
  have HTO := Lib.hid hto
  have HB := Lib.hid hb
  have hal : Below w.heap.size w (w.alloc (.cells #[.bool x.final, .slice ea x.edges.length ec] tRS)) := (Below.refl _ _).alloc (Nat.le_refl _) _
  have HAL := Lib.hid hal
  clear hE hK hto hb hal
  obtain ⟨s0, hs0⟩ : ∃ s0 : UInt8, s0 = if x.final = true then 43 else 45 := ⟨_, rfl⟩
  cases hf : x.final with
  | true =>
    rw [hf, if_pos rfl] at hs0
    rw [hf] at HAL
    have HF := Lib.hid hf
    have HS0 := Lib.hid hs0
    clear hf hs0
    go_enter Try.func57, Try.ntmps57
    (repeat' (first | (go_big_may; fail) | go_values | go_skip | go_guarded | go_step | go_upon | go_back | dsimp only))
    go_loopw [5, 6] (fun vs vi wr => ∃ j : Nat, vi = .int .i64 j ∧ j ≤ x.edges.length ∧ vs = .string ⟨((43 : UInt8) :: sgK K (x.edges.take j)).toArray⟩ ∧ Below (w.heap.size + 1) (w.alloc (.cells #[.bool true, .slice ea x.edges.length ec] tRS)) wr) (fun _ vi _ => x.edges.length - (intOf vi).toNat)
    case atStart => exact ⟨0, rfl, Nat.zero_le _, by simp [sgK], Below.refl _ _⟩
    case round =>
      obtain ⟨j, rfl, hj, rfl, hb1⟩ := hrel
      have hBw := HAL.out.trans (hb1.mono (Nat.le_succ _))
      have c1 : wr.cell? ⟨w.heap.size, 1, none⟩ = some (.slice ea x.edges.length ec) := (hb1.cell (p := ⟨w.heap.size, 1, none⟩) (by simp)).trans (by rw [World.cell?, heap_alloc_new]; rfl)
      by_cases hlj : j < x.edges.length
      · obtain ⟨e, he⟩ : ∃ e, x.edges[j]? = some e := ⟨_, List.getElem?_eq_getElem hlj⟩
        obtain ⟨be, oe, ce, hse, e0, e1⟩ := RdEds.at (HE.out.below hBw) he
        cases hse
        obtain ⟨t0, t1⟩ := HTO.out e (List.mem_of_getElem? he)
        obtain ⟨m, hm⟩ := Int.eq_ofNat_of_zero_le t0
        rw [hm, Int.toNat_natCast] at t1
        rw [hm] at e1
        obtain ⟨kb, ko, kc, rfl, k0⟩ := RdRow.nat HK.out (List.getElem?_eq_getElem t1)
        have hKm : K[m] = K.getD m 0 := by rw [List.getD_eq_getElem?_getD, List.getElem?_eq_getElem t1]; rfl
        rw [hKm] at k0
        have k1 := (hBw.cell (World.block_lt_of_cell? _ _ k0)).trans k0
        have hb2 := HB.out m
        have hsl := sgK_take (K := K) he
        rw [hm, Int.toNat_natCast] at hsl
        have hpl : (sgK K (x.edges.take j)).length ≤ 11 * min j x.edges.length := pk_len (fun e _ => Nat.lt_trans (HB.out _) (by decide)) j
        generalize K.getD m 0 = c at *
        have hwrap : IntKind.u64.wrap ((c : Nat) : Int) = ((c : Nat) : Int) := by rw [IntKind.wrap_u64]; omega
        have hul := uintL_length10 (n := c) (by omega)
        have HU := Lib.hid (fun w' => refUint_calls c (by omega) w')
        have hjI : (j : Int) < (x.edges.length : Int) := by omega
        have hmI : (m : Int) < (K.length : Int) := by omega
        have HBW := Lib.hid hBw
        have HSL := Lib.hid hsl
        have hc1 := fun wx => str_cat (P := Try.prog) ((43 : UInt8) :: sgK K (x.edges.take j)) [e.1] wx (by simp; omega)
        have hc2 := fun wx => str_cat (P := Try.prog) ((43 : UInt8) :: sgK K (x.edges.take j) ++ [e.1]) (uintL c) wx (by simp; omega)
        have HB1 := Lib.hid hb1
        clear hBw hsl k0 hKm hm hb1
        (repeat' (first | (go_big_may; fail) | go_values | go_skip | go_guarded | go_step | go_upon | go_back | dsimp only))
        refine (HU.out _).mono ?_
        rintro e7 w7 ⟨rfl, hb7⟩
        have c1' := (hb7.cell (World.block_lt_of_cell? _ _ c1)).trans c1
        have e0' := (hb7.cell (World.block_lt_of_cell? _ _ e0)).trans e0
        have HB7 := Lib.hid hb7
        have hsz7 := hb7.size
        clear hb7 c1 e0 e1 k1
        (repeat' (first | (go_big_may; (with_reducible (show wpList _ _ _ ({ dst := _, op := Op.convert 83 9 _, type := _, pos := _, after := _, guard := _ } :: _) _ _); go_must (refine wpList_string_new rfl 83 9 5 _ rfl Try.underlying83 Try.underlying5 Try.underlying9 (e.1) (rfl) rfl ?_))) | go_values | go_skip | go_guarded | go_step | go_upon | go_back | dsimp only))
        go_roundw
        case rel =>
          refine ⟨j + 1, by simp, by omega, ?_, ?_⟩
          · rw [HSL.out]; simp [ByteArray.mk_append_mk]
          · have hq : w.heap.size + 1 ≤ wr.heap.size := by have := HB1.out.size; simpa using this
            exact (HB1.out.trans (HB7.out.mono hq)).alloc (by omega) _
        case measure => simp [intOf] <;> omega
      · obtain rfl : j = x.edges.length := by omega
        have hjI : ¬ (x.edges.length : Int) < (x.edges.length : Int) := by omega
        have HBW := Lib.hid hBw
        clear hBw
        (repeat' (first | (go_big_may; fail) | go_values | go_skip | go_guarded | go_step | go_upon | go_back | dsimp only))
        go_ret
        refine ⟨?_, HBW.out⟩
        unfold sgA
        rw [HF.out, if_pos rfl, List.take_length]
        rfl
  | false =>
    rw [hf, if_neg Bool.false_ne_true] at hs0
    rw [hf] at HAL
    have HF := Lib.hid hf
    have HS0 := Lib.hid hs0
    clear hf hs0
    go_enter Try.func57, Try.ntmps57
    (repeat' (first | (go_big_may; fail) | go_values | go_skip | go_guarded | go_step | go_upon | go_back | dsimp only))
    go_loopw [5, 6] (fun vs vi wr => ∃ j : Nat, vi = .int .i64 j ∧ j ≤ x.edges.length ∧ vs = .string ⟨((45 : UInt8) :: sgK K (x.edges.take j)).toArray⟩ ∧ Below (w.heap.size + 1) (w.alloc (.cells #[.bool false, .slice ea x.edges.length ec] tRS)) wr) (fun _ vi _ => x.edges.length - (intOf vi).toNat)
    case atStart => exact ⟨0, rfl, Nat.zero_le _, by simp [sgK], Below.refl _ _⟩
    case round =>
      obtain ⟨j, rfl, hj, rfl, hb1⟩ := hrel
      have hBw := HAL.out.trans (hb1.mono (Nat.le_succ _))
      have c1 : wr.cell? ⟨w.heap.size, 1, none⟩ = some (.slice ea x.edges.length ec) := (hb1.cell (p := ⟨w.heap.size, 1, none⟩) (by simp)).trans (by rw [World.cell?, heap_alloc_new]; rfl)
      by_cases hlj : j < x.edges.length
      · obtain ⟨e, he⟩ : ∃ e, x.edges[j]? = some e := ⟨_, List.getElem?_eq_getElem hlj⟩
        obtain ⟨be, oe, ce, hse, e0, e1⟩ := RdEds.at (HE.out.below hBw) he
        cases hse
        obtain ⟨t0, t1⟩ := HTO.out e (List.mem_of_getElem? he)
        obtain ⟨m, hm⟩ := Int.eq_ofNat_of_zero_le t0
        rw [hm, Int.toNat_natCast] at t1
        rw [hm] at e1
        obtain ⟨kb, ko, kc, rfl, k0⟩ := RdRow.nat HK.out (List.getElem?_eq_getElem t1)
        have hKm : K[m] = K.getD m 0 := by rw [List.getD_eq_getElem?_getD, List.getElem?_eq_getElem t1]; rfl
        rw [hKm] at k0
        have k1 := (hBw.cell (World.block_lt_of_cell? _ _ k0)).trans k0
        have hb2 := HB.out m
        have hsl := sgK_take (K := K) he
        rw [hm, Int.toNat_natCast] at hsl
        have hpl : (sgK K (x.edges.take j)).length ≤ 11 * min j x.edges.length := pk_len (fun e _ => Nat.lt_trans (HB.out _) (by decide)) j
        generalize K.getD m 0 = c at *
        have hwrap : IntKind.u64.wrap ((c : Nat) : Int) = ((c : Nat) : Int) := by rw [IntKind.wrap_u64]; omega
        have hul := uintL_length10 (n := c) (by omega)
        have HU := Lib.hid (fun w' => refUint_calls c (by omega) w')
        have hjI : (j : Int) < (x.edges.length : Int) := by omega
        have hmI : (m : Int) < (K.length : Int) := by omega
        have HBW := Lib.hid hBw
        have HSL := Lib.hid hsl
        have hc1 := fun wx => str_cat (P := Try.prog) ((45 : UInt8) :: sgK K (x.edges.take j)) [e.1] wx (by simp; omega)
        have hc2 := fun wx => str_cat (P := Try.prog) ((45 : UInt8) :: sgK K (x.edges.take j) ++ [e.1]) (uintL c) wx (by simp; omega)
        have HB1 := Lib.hid hb1
        clear hBw hsl k0 hKm hm hb1
        (repeat' (first | (go_big_may; fail) | go_values | go_skip | go_guarded | go_step | go_upon | go_back | dsimp only))
        refine (HU.out _).mono ?_
        rintro e7 w7 ⟨rfl, hb7⟩
        have c1' := (hb7.cell (World.block_lt_of_cell? _ _ c1)).trans c1
        have e0' := (hb7.cell (World.block_lt_of_cell? _ _ e0)).trans e0
        have HB7 := Lib.hid hb7
        have hsz7 := hb7.size
        clear hb7 c1 e0 e1 k1
        (repeat' (first | (go_big_may; (with_reducible (show wpList _ _ _ ({ dst := _, op := Op.convert 83 9 _, type := _, pos := _, after := _, guard := _ } :: _) _ _); go_must (refine wpList_string_new rfl 83 9 5 _ rfl Try.underlying83 Try.underlying5 Try.underlying9 (e.1) (rfl) rfl ?_))) | go_values | go_skip | go_guarded | go_step | go_upon | go_back | dsimp only))
        go_roundw
        case rel =>
          refine ⟨j + 1, by simp, by omega, ?_, ?_⟩
          · rw [HSL.out]; simp [ByteArray.mk_append_mk]
          · have hq : w.heap.size + 1 ≤ wr.heap.size := by have := HB1.out.size; simpa using this
            exact (HB1.out.trans (HB7.out.mono hq)).alloc (by omega) _
        case measure => simp [intOf] <;> omega
      · obtain rfl : j = x.edges.length := by omega
        have hjI : ¬ (x.edges.length : Int) < (x.edges.length : Int) := by omega
        have HBW := Lib.hid hBw
        clear hBw
        (repeat' (first | (go_big_may; fail) | go_values | go_skip | go_guarded | go_step | go_upon | go_back | dsimp only))
        go_ret
        refine ⟨?_, HBW.out⟩
        unfold sgA
        rw [HF.out, if_neg Bool.false_ne_true, List.take_length]
        rfl
end Go.Proofs.Ythjkfiniafblbaa
