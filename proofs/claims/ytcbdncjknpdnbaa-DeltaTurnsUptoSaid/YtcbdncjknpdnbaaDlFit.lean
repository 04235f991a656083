/- delta: fit walked. -/
import Derived.Test.YtcbdncjknpdnbaaWkCount
import Derived.Test.YtcbdncjknpdnbaaWkRef
namespace Go.Proofs.Ytcbdncjknpdnbaa
open Go.RowKit

theorem lit_rd {w : World} {T : TypeId} (C : Array Value) (n size : Nat) (h : C.size = n * size) (hn : n ≤ maxLen) : RdRow (w.alloc (.cells C T)) (.slice (some ⟨w.heap.size, 0, none⟩) n n) n size C.toList := by
  refine ⟨by simpa using h, _, n, rfl, Nat.le_refl _, hn, fun j u hu => ⟨w.heap.size, 0, rfl, ?_⟩⟩
  rw [World.cell?_alloc_at _ _ _ _ rfl]
  simpa using hu
/-- What fit answers. -/
def FitR (As : List (List Sta)) (E : Int) : Prop :=
  (E = 190 ∧ ∃ A ∈ As, shapeB A = false) ∨ ((∀ A ∈ As, shapeB A = true) ∧ ((E = 191 ∧ ∃ A ∈ As, ∃ t, Unf A 0 t ∧ 65536 < cntT t) ∨ (E = 0 ∧ ∀ A ∈ As, ∃ t, Unf A 0 t ∧ cntT t ≤ 65536)))
theorem FitR.bad {As : List (List Sta)} {E : Int} (h : FitR As E) {A : List Sta} (hA : A ∈ As) (hs : shapeB A = false) : E = 190 := by
  rcases h with ⟨h, _⟩ | ⟨h, _⟩
  · exact h
  · rw [h A hA] at hs; cases hs
theorem FitR.many {As : List (List Sta)} {E : Int} (h : FitR As E) (hall : ∀ A ∈ As, shapeB A = true) {A : List Sta} (hA : A ∈ As) {t : Trie} (ht : Unf A 0 t) (hc : 65536 < cntT t) : E = 191 := by
  rcases h with ⟨_, B, hB, hs⟩ | ⟨_, ⟨h, _⟩ | ⟨_, h⟩⟩
  · rw [hall B hB] at hs; cases hs
  · exact h
  · obtain ⟨t2, h2, h3⟩ := h A hA
    rw [ht.uniq h2] at hc; omega
theorem FitR.ok {As : List (List Sta)} {E : Int} (h : FitR As E) (hall : ∀ A ∈ As, shapeB A = true) (hc : ∀ A ∈ As, ∀ t, Unf A 0 t → cntT t ≤ 65536) : E = 0 := by
  rcases h with ⟨_, B, hB, hs⟩ | ⟨_, ⟨_, A, hA, t, ht, h⟩ | ⟨h, _⟩⟩
  · rw [hall B hB] at hs; cases hs
  · have := hc A hA t ht; omega
  · exact h
theorem fitR_total (As : List (List Sta)) : ∃ E, FitR As E := by
  by_cases h1 : ∃ A ∈ As, shapeB A = false
  · exact ⟨190, .inl ⟨rfl, h1⟩⟩
  · have hall : ∀ A ∈ As, shapeB A = true := fun A hA => by
      cases hs : shapeB A with
      | true => rfl
      | false => exact absurd ⟨A, hA, hs⟩ h1
    by_cases h2 : ∃ A ∈ As, ∃ t, Unf A 0 t ∧ 65536 < cntT t
    · exact ⟨191, .inr ⟨hall, .inl ⟨rfl, h2⟩⟩⟩
    · refine ⟨0, .inr ⟨hall, .inr ⟨rfl, fun A hA => ?_⟩⟩⟩
      have hsh := shaped_of (hall A hA)
      obtain ⟨t, ht, _⟩ := hsh.tr 0 hsh.pos
      refine ⟨t, ht, Classical.byContradiction fun h => h2 ⟨A, hA, t, ht, by omega⟩⟩
theorem take_all_succ {α : Type} {p : α → Prop} {l : List α} {k : Nat} {x : α} (h : ∀ y ∈ l.take k, p y) (hx : l[k]? = some x) (hp : p x) : ∀ y ∈ l.take (k + 1), p y := fun y hy => by
  rw [List.take_add_one, hx, Option.toList_some] at hy
  rcases List.mem_append.1 hy with h1 | h1
  · exact h y h1
  · simp at h1; subst h1; exact hp
set_option maxRecDepth 100000 in
set_option maxHeartbeats 3200000 in
theorem fit_calls {w : World} {As : List (List Sta)} {vs : List Value} {v : Value} (hv : RdRow w v As.length 1 vs) (hvs : ∀ (i : Nat) (A : List Sta), As[i]? = some A → ∃ u, vs[i]? = some u ∧ RdAut w u A)
    (hl : ∀ A ∈ As, A.length ≤ 1048576 ∧ edgesN A ≤ 1048576) {E : Int} (hE : FitR As E) :
    Calls Try.prog 25 #[v] w fun e w' => e = .returned (.int .i64 E) ∧ Below w.heap.size w w' := by
  obtain ⟨a0, c0, rfl, hc1, hc2⟩ := hv.shape
  unfold maxLen at hc2
  have HV := Lib.hid hv
  have HVS := Lib.hid hvs
  have HL := Lib.hid hl
  have HE := Lib.hid hE
  clear hv hvs hl hE
  go_enter Try.func25, Try.ntmps25
  (repeat' (first | (go_big_may; fail) | go_values | go_skip | go_guarded | go_step | go_upon | go_back | dsimp only))
  go_loopw [12] (fun vi wr => ∃ k : Nat, vi = .int .i64 k ∧ k ≤ As.length ∧ Below w.heap.size w wr ∧ ∀ A ∈ As.take k, shapeB A = true) (fun vi _ => As.length - (intOf vi).toNat)
  case atStart => exact ⟨0, rfl, Nat.zero_le _, Below.refl _ _, by simp⟩
  case round =>
    obtain ⟨k, rfl, hk, hb, hall⟩ := hrel
    by_cases hlt : k < As.length
    · obtain ⟨A, hA⟩ : ∃ A, As[k]? = some A := ⟨_, List.getElem?_eq_getElem hlt⟩
      obtain ⟨u, hu, hrd⟩ := HVS.out k A hA
      obtain ⟨b, off, cap, hsl, hcx⟩ : ∃ b off cap, Value.slice a0 As.length c0 = .slice (some ⟨b, off, none⟩) As.length cap ∧ w.cell? ⟨b, off + k, none⟩ = some u := by
        obtain ⟨_, ad, cap, he, _, _, hc⟩ := HV.out
        obtain ⟨b, off, rfl, h1⟩ := hc k u hu
        exact ⟨b, off, cap, he, h1⟩
      cases hsl
      have hkI : (k : Int) < (As.length : Int) := by omega
      have hAm := List.mem_of_getElem? hA
      obtain ⟨ua, uc, rfl, _, _⟩ := hrd.shape
      have hlA := HL.out A hAm
      replace hcx := (hb.cell (World.block_lt_of_cell? _ _ hcx)).trans hcx
      have HSH := Lib.hid (Shape_calls (hrd.below hb) hlA)
      have HB := Lib.hid hb
      have HA := Lib.hid hA
      have HALL := Lib.hid hall
      have HAM := Lib.hid hAm
      clear hb hA hu hrd hall hAm
      cases hs : shapeB A with
      | false =>
        have h190 := HE.out.bad HAM.out hs
        rw [shapeV_bad hs] at HSH
        have H190 := Lib.hid h190
        clear hs h190
        (repeat' (first | (go_big_may; fail) | go_values | go_skip | go_guarded | go_step | go_upon | go_back | dsimp only))
        refine HSH.out.mono ?_
        rintro e1 w1 ⟨rfl, hb1⟩
        have HB1 := Lib.hid (HB.out.trans (hb1.mono HB.out.size))
        clear hb1
        (repeat' (first | (go_big_may; fail) | go_values | go_skip | go_guarded | go_step | go_upon | go_back | dsimp only))
        go_ret
        exact ⟨by rw [H190.out]; rfl, HB1.out⟩
      | true =>
        rw [shapeV_ok hs] at HSH
        have HS := Lib.hid hs
        clear hs
        (repeat' (first | (go_big_may; fail) | go_values | go_skip | go_guarded | go_step | go_upon | go_back | dsimp only))
        refine HSH.out.mono ?_
        rintro e1 w1 ⟨rfl, hb1⟩
        have HB1 := Lib.hid (HB.out.trans (hb1.mono HB.out.size))
        clear hb1
        (repeat' (first | (go_big_may; fail) | go_values | go_skip | go_guarded | go_step | go_upon | go_back | dsimp only))
        go_roundw
        case rel => exact ⟨k + 1, by simp, by omega, HB1.out, take_all_succ HALL.out HA.out HS.out⟩
        case measure => simp [intOf] <;> omega
    · obtain rfl : k = As.length := by omega
      have hkI : ¬ (As.length : Int) < (As.length : Int) := by omega
      rw [List.take_length] at hall
      have HALL := Lib.hid hall
      have HB0 := Lib.hid hb
      clear hall hb
      (repeat' (first | (go_big_may; fail) | go_values | go_skip | go_guarded | go_step | go_upon | go_back | dsimp only))
      go_loopw [24] (fun vi wi => ∃ k : Nat, vi = .int .i64 k ∧ k ≤ As.length ∧ Below w.heap.size w wi ∧ ∀ A ∈ As.take k, ∀ t, Unf A 0 t → cntT t ≤ 65536) (fun vi _ => As.length - (intOf vi).toNat)
      case atStart => exact ⟨0, rfl, Nat.zero_le _, HB0.out, by simp⟩
      case round =>
        obtain ⟨k, rfl, hk, hb, hcs⟩ := hrel
        by_cases hlt : k < As.length
        · obtain ⟨A, hA⟩ : ∃ A, As[k]? = some A := ⟨_, List.getElem?_eq_getElem hlt⟩
          obtain ⟨u, hu, hrd⟩ := HVS.out k A hA
          obtain ⟨b, off, cap, hsl, hcx⟩ : ∃ b off cap, Value.slice a0 As.length c0 = .slice (some ⟨b, off, none⟩) As.length cap ∧ w.cell? ⟨b, off + k, none⟩ = some u := by
            obtain ⟨_, ad, cap, he, _, _, hc⟩ := HV.out
            obtain ⟨b, off, rfl, h1⟩ := hc k u hu
            exact ⟨b, off, cap, he, h1⟩
          cases hsl
          have hkI : (k : Int) < (As.length : Int) := by omega
          have hAm := List.mem_of_getElem? hA
          obtain ⟨ua, uc, rfl, _, _⟩ := hrd.shape
          have hlA := HL.out A hAm
          replace hcx := (hb.cell (World.block_lt_of_cell? _ _ hcx)).trans hcx
          have hsA := HALL.out A hAm
          have hshA := shaped_of hsA
          obtain ⟨t, ht, _⟩ := hshA.tr 0 hshA.pos
          have HC := Lib.hid (Count_calls (hrd.below hb) hlA hsA ht)
          have HB := Lib.hid hb
          have HA := Lib.hid hA
          have HCS := Lib.hid hcs
          have HAM := Lib.hid hAm
          have HT := Lib.hid ht
          clear hb hA hu hrd hcs hAm hsA hshA ht
          by_cases hbig : 65536 < cntT t
          · have h191 := HE.out.many HALL.out HAM.out HT.out hbig
            have H191 := Lib.hid h191
            clear h191
            by_cases hc : cntT t ≤ 1099511627776
            · have e1 : countV t = (cntT t : Int) := by unfold countV; rw [if_pos hc]
              have e2 : countE t = 0 := by unfold countE; rw [if_pos hc]
              rw [e1, e2] at HC
              have hcI : (65536 : Int) < (cntT t : Int) := by omega
              clear hc e1 e2
              (repeat' (first | (go_big_may; fail) | go_values | go_skip | go_guarded | go_step | go_upon | go_back | dsimp only))
              refine HC.out.mono ?_
              rintro e1 w1 ⟨rfl, hb1⟩
              have HB1 := Lib.hid (HB.out.trans (hb1.mono HB.out.size))
              clear hb1
              (repeat' (first | (go_big_may; fail) | go_values | go_skip | go_guarded | go_step | go_upon | go_back | dsimp only))
              go_ret
              exact ⟨by rw [H191.out]; rfl, HB1.out⟩
            · have e1 : countV t = 0 := by unfold countV; rw [if_neg hc]
              have e2 : countE t = 191 := by unfold countE; rw [if_neg hc]
              rw [e1, e2] at HC
              clear hc e1 e2
              (repeat' (first | (go_big_may; fail) | go_values | go_skip | go_guarded | go_step | go_upon | go_back | dsimp only))
              refine HC.out.mono ?_
              rintro e1 w1 ⟨rfl, hb1⟩
              have HB1 := Lib.hid (HB.out.trans (hb1.mono HB.out.size))
              clear hb1
              (repeat' (first | (go_big_may; fail) | go_values | go_skip | go_guarded | go_step | go_upon | go_back | dsimp only))
              go_ret
              exact ⟨by rw [H191.out]; rfl, HB1.out⟩
          · have hc : cntT t ≤ 1099511627776 := by omega
            have e1 : countV t = (cntT t : Int) := by unfold countV; rw [if_pos hc]
            have e2 : countE t = 0 := by unfold countE; rw [if_pos hc]
            rw [e1, e2] at HC
            have hcI : ¬ (65536 : Int) < (cntT t : Int) := by omega
            clear hc e1 e2
            (repeat' (first | (go_big_may; fail) | go_values | go_skip | go_guarded | go_step | go_upon | go_back | dsimp only))
            refine HC.out.mono ?_
            rintro e1 w1 ⟨rfl, hb1⟩
            have HB1 := Lib.hid (HB.out.trans (hb1.mono HB.out.size))
            clear hb1
            (repeat' (first | (go_big_may; fail) | go_values | go_skip | go_guarded | go_step | go_upon | go_back | dsimp only))
            go_roundw
            case rel => exact ⟨k + 1, by simp, by omega, HB1.out, take_all_succ HCS.out HA.out fun t2 h2 => by rw [h2.uniq HT.out]; omega⟩
            case measure => simp [intOf] <;> omega
        · obtain rfl : k = As.length := by omega
          have hkI : ¬ (As.length : Int) < (As.length : Int) := by omega
          rw [List.take_length] at hcs
          have h0 := HE.out.ok HALL.out hcs
          have H0 := Lib.hid h0
          have HB := Lib.hid hb
          clear hcs h0 hb
          (repeat' (first | (go_big_may; fail) | go_values | go_skip | go_guarded | go_step | go_upon | go_back | dsimp only))
          go_ret
          exact ⟨by rw [H0.out]; rfl, HB.out⟩
end Go.Proofs.Ytcbdncjknpdnbaa
