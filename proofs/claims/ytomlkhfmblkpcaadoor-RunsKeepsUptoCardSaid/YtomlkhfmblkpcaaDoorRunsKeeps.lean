/- RunsKeeps walked. -/
import Derived.Test.YtomlkhfmblkpcaaDoorRunsThing
import Derived.Test.YtomlkhfmblkpcaaDoorAppendAt
import Derived.Test.YtomlkhfmblkpcaaDoorRunsWakesW
import Derived.Test.YtomlkhfmblkpcaaDoorSent8
import Derived.Test.YtomlkhfmblkpcaaDoorCut
import Derived.Test.YtomlkhfmblkpcaaDoorOpen
import Derived.Test.YtomlkhfmblkpcaaDoorCards
import Derived.Test.YtomlkhfmblkpcaaDoorTie
import Derived.Deep.DeepHandedRow
import Derived.Deep.DeepWitnessRowRef
import Derived.LaidMore
namespace Go.Proofs.YtomlkhfmblkpcaaDoor
open Go.RowKit

theorem Create_at6 {W w : World} {R : Thing} {b : Nat} {S : St} {ef : Nat → Nat × Nat} (h : At W w (Both (StoreT b S) R)) (hR : Stable R) (hF : Fails W ef fails6) :
    Calls Tryd.prog 13 #[.pointer (some ⟨b, 0, none⟩)] w fun e w' => e = .returned (.tuple #[.int .i64 (createP S).2.1, errV ef (createP S).2.2]) ∧ At W w' (Both (StoreT b (createP S).1) R) :=
  h.calls hR fun fp hp _ => by
    obtain ⟨mb, blk, val, h1, rfl⟩ := hp
    exact (Create_calls h1 (hF.below h.below) (by decide) (by decide)).mono fun e w' ⟨he, hp⟩ => ⟨he, left_of_post hp⟩
/-- The store behind k calls of Create. -/
def kpS (k : Nat) : St := ⟨10, 0, 0, k, 0, (List.range k).map fun i => (i + 1, ⟨[], false⟩)⟩
theorem kp_new : newSt 10 = kpS 0 := rfl
theorem kp_create {k : Nat} (h : k < 16777216) : createP (kpS k) = (kpS (k + 1), k + 1, 0) := by
  unfold createP
  rw [if_neg (by simp [kpS]), if_neg (by simp [kpS]; omega)]
  simp [kpS, createS, stepS, List.range_succ]
theorem kp_keys (k : Nat) : (kpS k).keys = (List.range k).map fun i : Nat => ((i : Int) + 1) := by
  simp [St.keys, kpS]
def kpL (k : Nat) : List Value := intsV ((List.range k).map fun i : Nat => ((i : Int) + 1))
theorem kpL_get {k i : Nat} (h : i < k) : (kpL k)[i]? = some (.int .i64 ((i : Int) + 1)) := by simp [kpL, intsV, h]
theorem kpT {v : Value} {k : Nat} : RowT v (kpS k).keys = RowG tInt 1 v k (kpL k) := by
  unfold RowT RowG
  rw [kp_keys]
  simp [kpL]

/-- A row, and a cell of a block of its past. -/
def HoldG (g : Nat) (v : Value) (n : Nat) (xs : List Value) : Thing := fun w fp => w.ownsRow 0 tInt 1 v n xs ∧ w.cell? ⟨g, 0, none⟩ = some (.int .i64 (-7)) ∧ fp = g :: rowOf v
theorem HoldG.stable (g : Nat) (v : Value) (n : Nat) (xs : List Value) : Stable (HoldG g v n xs) :=
  ⟨fun w fp h k hk => by
    obtain ⟨h1, h2, rfl⟩ := h
    rcases List.mem_cons.1 hk with rfl | hk
    · exact World.block_lt_of_cell? w ⟨k, 0, none⟩ h2
    · exact (h1.lt k (mem_rowOf.1 hk)).2, fun w w' fp h hs => by
    obtain ⟨h1, h2, rfl⟩ := h
    refine ⟨ownsRow_block h1 fun k hk => hs k (List.mem_cons_of_mem _ (mem_rowOf.2 hk)), ?_, rfl⟩
    have := hs g (by simp)
    simp only [World.cell?] at h2 ⊢
    rw [this]; exact h2⟩
theorem At.hold {W w : World} {R : Thing} {g : Nat} {v : Value} {n : Nat} {xs : List Value} (h : At W w (Both (HoldG g v n xs) R)) : w.ownsRow 0 tInt 1 v n xs ∧ w.cell? ⟨g, 0, none⟩ = some (.int .i64 (-7)) := by
  obtain ⟨_, fp, ⟨f1, f2, ⟨q1, q2, _⟩, _⟩, _⟩ := h
  exact ⟨q1, q2⟩
theorem hold_step {W w : World} {R : Thing} {g : Nat} {v : Value} {n : Nat} {xs : List Value} (hat : At W w (Both (HoldG g v n xs) R)) (hR : Stable R) (hx : xs[0]? = some (.int .i64 (-7))) (hn : n ≤ 1000) :
    ∃ v' w', (Builtin.append_ #[33, 33] 33 #[v, .slice (some ⟨w.heap.size, 0, none⟩) 1 1]).run Tryd.prog (w.alloc (.cells #[.int .i64 (-9)] tInt)) = .ok v' w' ∧ At W w' (Both (HoldG g v' (n + 1) (xs ++ [.int .i64 (-9)])) R) := by
  obtain ⟨fp, ⟨h1, h2, rfl⟩, g2, g3⟩ := hat.step
  have hn0 : 0 < n := by
    have := (List.getElem?_eq_some_iff.1 hx).1
    rw [h1.1] at this; omega
  obtain ⟨i0, hi, hz0, hz1, hz2⟩ := info_parts info_intL
  obtain ⟨v', w', hr, h4, h5, _⟩ := run_append_own (P := Tryd.prog) (w.alloc (.cells #[.int .i64 (-9)] tInt)) 0 33 33 tInt i0 (.int .i64 0) 1 8 Tryd.underlying33 hi hz0 hz1 hz2 rfl (by decide) v n xs (h1.alloc _) ⟨w.heap.size, 0, none⟩ 1 1 [.int .i64 (-9)] rfl (slit_cells w #[.int .i64 (-9)] tInt) (by simp [Value.oneCell']) (by unfold maxLen; omega) (by omega) (Nat.zero_le _)
  have hb := append_block (P := Tryd.prog) (w.alloc (.cells #[.int .i64 (-9)] tInt)) 33 33 tInt i0 (.int .i64 0) 1 8 Tryd.underlying33 hi hz0 hz1 hz2 rfl (by decide) (h1.alloc _) ⟨w.heap.size, 0, none⟩ 1 1 [.int .i64 (-9)] rfl (slit_cells w #[.int .i64 (-9)] tInt) (by simp [Value.oneCell']) (by unfold maxLen; omega) (by omega) hr
  have ho := append_old (P := Tryd.prog) (w.alloc (.cells #[.int .i64 (-9)] tInt)) 33 33 tInt i0 (.int .i64 0) 1 8 Tryd.underlying33 hi hz0 hz1 hz2 rfl (by decide) (h1.alloc _) ⟨w.heap.size, 0, none⟩ 1 1 [.int .i64 (-9)] rfl (slit_cells w #[.int .i64 (-9)] tInt) (by simp [Value.oneCell']) (by unfold maxLen; omega) (by omega) hr
  have hu : Upd (g :: rowOf v) w w' := (Upd.refl _ w).grown (World.grownBy.of_alloc h5) (fun k hk => .inl (List.mem_cons_of_mem _ (mem_rowOf.2 hk)))
  have hgl : g < w.heap.size := World.block_lt_of_cell? w ⟨g, 0, none⟩ h2
  refine ⟨v', w', hr, g3 hR w' _ ⟨g :: rowOf v', ⟨h4, ?_, rfl⟩, hu, fun k hk => ?_⟩⟩
  · have same : w'.heap[g]? = w.heap[g]? → w'.cell? ⟨g, 0, none⟩ = some (.int .i64 (-7)) := fun e => by
      simp only [World.cell?] at h2 ⊢
      rw [e]; exact h2
    by_cases hvg : v.ownBlock = some g
    · rcases ho g hvg with h6 | h6
      · obtain ⟨q, cap, e, _⟩ := own_cut h4 (by omega)
        rw [e] at h6
        simp only [Value.ownBlock, Option.some.injEq] at h6
        subst h6
        rw [e] at h4
        rw [h4.cellAt 0 (by omega), List.getElem?_append_left (List.getElem?_eq_some_iff.1 hx).1, hx]
      · exact same (h6.trans (heap_alloc_old w _ hgl))
    · exact same ((World.grownBy.of_alloc h5).block g hgl (fun e => hvg e.symm))
  · rcases List.mem_cons.1 hk with rfl | hk
    · exact .inl (by simp)
    · rcases hb k (mem_rowOf.1 hk) with h6 | h6
      · exact .inl (List.mem_cons_of_mem _ (mem_rowOf.2 h6))
      · exact .inr (by simp at h6; omega)
theorem wpList_hold {ops : Array Oper} {rest : List Oper} {o : Oper} {a : Act} {W w : World} {Q : Exit → Act → World → Prop} (hgd : o.guard = none)
    (s x : Operand) (ho : o.op = .call { callee := .builtin .append, args := #[s, x], argTypes := #[33, 33] }) (hty : o.type = 33)
    {R : Thing} {g : Nat} {v : Value} {n : Nat} {xs : List Value} (hs : a.eval s = v) (hat : At W w (Both (HoldG g v n xs) R)) (hR : Stable R) (hx0 : xs[0]? = some (.int .i64 (-7))) (hn : n ≤ 1000)
    (hx : a.eval x = .slice (some ⟨w.heap.size, 0, none⟩) 1 1)
    (h : ∀ v' w', At W w' (Both (HoldG g v' (n + 1) (xs ++ [.int .i64 (-9)])) R) → wpList Tryd.prog ops Q rest (a.put o.dst v') w') :
    wpList Tryd.prog ops Q (o :: rest) a (w.alloc (.cells #[.int .i64 (-9)] tInt)) := by
  refine wpList_plain hgd fun K hK' => ?_
  obtain ⟨v', w', hr, h2⟩ := hold_step hat hR hx0 hn
  unfold Oper.wp
  simp [execOp, ho, hty, resolve, invoke, builtin, hs, hx, hr, Result.andThen]
  exact hK' _ _ (h v' w' h2)

set_option maxRecDepth 100000 in
set_option maxHeartbeats 6400000 in
theorem runsKeeps_walk (W : World) (ef : Nat → Nat × Nat) (hF : Fails W ef fails6) (c : Int) (hc : -9223372036854775808 ≤ c ∧ c ≤ 9223372036854775807) :
    Calls Tryd.prog 4 #[.int .i64 c] W fun e w' => e = .returned (.bool true) ∧ Below W.heap.size W w' := by
  have HF := Lib.hid hF
  clear hF
  go_enter Tryd.func4, Tryd.ntmps4
  (repeat' (first | (go_big_may; fail) | go_values | go_skip | go_guarded | go_step | go_upon | go_back | dsimp only))
  refine (New_at (At.nought (Below.refl _ _)) Stable.nought (by unfold inI64; omega)).mono ?_
  rintro e w1 ⟨rfl, h1⟩
  rw [kp_new] at h1
  generalize W.heap.size + 1 = b at *
  have H1 := Lib.hid h1
  clear h1
  (repeat' (first | (go_big_may; fail) | go_values | go_skip | go_guarded | go_step | go_upon | go_back | dsimp only))
  refine (wakes_calls (Below.refl _ _) (HF.out.below H1.out.below) (by decide) (by decide)).mono ?_
  rintro e w2 ⟨rfl, hb2⟩
  have H2 := Lib.hid (H1.out.mono ((StoreT.stable _ _).both Stable.nought) hb2)
  clear hb2 H1
  (repeat' (first | (go_big_may; fail) | go_values | go_skip | go_guarded | go_step | go_upon | go_back | dsimp only))
  go_loop [4, 5] (fun n i => ∃ k : Nat, n = .int .i64 ((k : Int) + 1) ∧ i = .int .i64 k ∧ k ≤ 40) (fun _ i => 40 - (intOf i).toNat)
  case atStart => exact ⟨0, rfl, rfl, by omega⟩
  case round =>
    obtain ⟨m, rfl, rfl, hm⟩ := hrel
    by_cases hlt : (m : Int) < c ∧ m < 40
    · obtain ⟨hl1, hl2⟩ := hlt
      have hl3 : (m : Int) < 40 := by omega
      (repeat' (first | (go_big_may; fail) | go_values | go_skip | go_guarded | go_step | go_upon | go_back | dsimp only))
      exact ⟨⟨m + 1, by simp, by simp, by omega⟩, by simp [intOf] <;> omega⟩
    · have hex : ((m : Int) < c ∧ ¬ (m : Int) < 40) ∨ ¬ (m : Int) < c := by omega
      clear hlt
      rcases hex with ⟨hl1, hl4⟩ | hl1
      all_goals
        (repeat' (first | (go_big_may; fail) | go_values | go_skip | go_guarded | go_step | go_upon | go_back | dsimp only))
        go_loopw [30] (fun i wr => ∃ k : Nat, i = .int .i64 k ∧ k ≤ m + 1 ∧ At W wr (Both (StoreT b (kpS k)) Nought)) (fun i _ => m + 1 - (intOf i).toNat)
        case atStart => exact ⟨0, rfl, by omega, H2.out⟩
        case round =>
          obtain ⟨k, rfl, hk, hh⟩ := hrel
          have HH := Lib.hid hh
          clear hh H2
          by_cases hlt : (k : Int) < (m : Int) + 1
          · have hcr := Create_at6 HH.out Stable.nought HF.out
            rw [kp_create (by omega)] at hcr
            dsimp only at hcr
            rw [errV_zero] at hcr
            have HCR := Lib.hid hcr
            clear hcr
            (repeat' (first | (go_big_may; fail) | go_values | go_skip | go_guarded | go_step | go_upon | go_back | dsimp only))
            refine HCR.out.mono ?_
            rintro e w3 ⟨rfl, h3⟩
            have H3 := Lib.hid h3
            clear h3 HCR HH
            (repeat' (first | (go_big_may; fail) | go_values | go_skip | go_guarded | go_step | go_upon | go_back | dsimp only))
            exact ⟨⟨k + 1, by simp, by omega, H3.out⟩, by simp [intOf] <;> omega⟩
          · have hkm : k = m + 1 := by omega
            subst hkm
            clear hk
            (repeat' (first | (go_big_may; fail) | go_values | go_skip | go_guarded | go_step | go_upon | go_back | dsimp only))
            refine (Live_at HH.out Stable.nought).mono ?_
            rintro e w3 ⟨va, rfl, h3⟩
            have H3 := Lib.hid h3.swap
            clear h3 HH
            (repeat' (first | (go_big_may; fail) | go_values | go_skip | go_guarded | go_step | go_upon | go_back | dsimp only))
            refine (Live_at H3.out ((RowT.stable _ _).both Stable.nought)).mono ?_
            rintro e w4 ⟨vb, rfl, h4⟩
            have h5 := h4.pull3
            rw [kpT, kpT] at h5
            have hra := h5.rowG
            have hrb := h5.drop.rowG
            obtain ⟨g, cap, rfl, _, hc1, hc2⟩ := own_cut hra (by omega)
            obtain ⟨g2, cap2, rfl, _, hd1, hd2⟩ := own_cut hrb (by omega)
            have ca : w4.cell? ⟨g, m, none⟩ = some (.int .i64 ((m : Int) + 1)) := by rw [hra.cellAt m (by omega), kpL_get (by omega)]
            have H5 := Lib.hid h5
            clear h4 h5 hra hrb H3
            have hw1 : IntKind.i64.wrap ((m : Int) + 1 - 1) = m := by rw [IntKind.wrap_i64] <;> omega
            have he1 : (((m + 1 : Nat) : Int) == (m : Int) + 1) = true := by simp
            have he2 : (m : Int) < ((m + 1 : Nat) : Int) := by omega
            (repeat' (first | (go_big_may; fail) | go_values | go_skip | go_guarded | go_step | go_upon | go_back | dsimp only))
            clear ca
            have e1 : ((m + 1 : Nat) : Int) = (m : Int) + 1 := by omega
            rw [e1]
            clear e1
            go_loopw [60] (fun i wr => ∃ (k : Nat) (l : List Value), i = .int .i64 k ∧ k ≤ m + 1 ∧ (0 < k → l[0]? = some (.int .i64 (-7))) ∧ At W wr (Both (RowG tInt 1 (.slice (some ⟨g, 0, none⟩) (m + 1) cap) (m + 1) l) (Both (RowG tInt 1 (.slice (some ⟨g2, 0, none⟩) (m + 1) cap2) (m + 1) (kpL (m + 1))) (Both (StoreT b (kpS (m + 1))) Nought)))) (fun i _ => m + 1 - (intOf i).toNat)
            case atStart => exact ⟨0, _, rfl, by omega, by simp, H5.out⟩
            case round =>
              obtain ⟨k, l, rfl, hk, hl, hh⟩ := hrel
              have hrow := hh.rowG
              have hll : l.length = m + 1 := by have := hrow.1; omega
              have xf := hrow.frozenAt
              have HH := Lib.hid hh
              have HL := Lib.hid hl
              clear hh hl
              by_cases hlt : (k : Int) < (m : Int) + 1
              · have hlt2 : k < m + 1 := by omega
                have hk0 : (0 : Int) ≤ k := by omega
                have x0 : wr.cell? ⟨g, k, none⟩ = some l[k] := by rw [hrow.cellAt k (by omega), List.getElem?_eq_getElem (by omega)]
                clear hrow
                (repeat' (first | (go_big_may; fail) | go_values | go_skip | go_guarded | go_step | go_upon | go_back | dsimp only))
                refine ⟨⟨k + 1, l.set k (.int .i64 (-7)), by simp, by omega, fun _ => ?_, HH.out.storeG ((RowG.stable _ _ _ _ _).both ((StoreT.stable _ _).both Stable.nought)) k _⟩, by simp [intOf] <;> omega⟩
                by_cases hk1 : k = 0
                · subst hk1
                  rw [List.getElem?_set_self (by omega)]
                · rw [List.getElem?_set_ne (by omega)]
                  exact HL.out (by omega)
              · have hkm : k = m + 1 := by omega
                subst hkm
                have h0 := HL.out (by omega)
                have x0 : wr.cell? ⟨g, 0, none⟩ = some (.int .i64 (-7)) := by rw [hrow.cellAt 0 (by omega), h0]
                have hst : Stable (Both (RowG tInt 1 (.slice (some ⟨g2, 0, none⟩) (m + 1) cap2) (m + 1) (kpL (m + 1))) (Both (StoreT b (kpS (m + 1))) Nought)) := (RowG.stable _ _ _ _ _).both ((StoreT.stable _ _).both Stable.nought)
                have HST := Lib.hid hst
                have H6 := Lib.hid (show At W wr (Both (HoldG g (.slice (some ⟨g, 0, none⟩) (m + 1) cap) (m + 1 + 0) l) (Both (RowG tInt 1 (.slice (some ⟨g2, 0, none⟩) (m + 1) cap2) (m + 1) (kpL (m + 1))) (Both (StoreT b (kpS (m + 1))) Nought))) from by
                  obtain ⟨q0, fp, ⟨f1, f2, ⟨q1, rfl⟩, q2, q3, q4⟩, q5⟩ := HH.out
                  exact ⟨q0, fp, ⟨_, f2, ⟨q1, x0, rfl⟩, q2, fun k hk => q3 k (by simpa [rowOf, Value.ownBlock] using hk), fun k => by rw [q4 k]; simp [rowOf, Value.ownBlock]⟩, q5⟩)
                have H0 := Lib.hid h0
                clear HH hst h0 HL xf hrow x0 hk
                (repeat' (first | (go_big_may; fail) | go_values | go_skip | go_guarded | go_step | go_upon | go_back | dsimp only))
                have e1 : ((m + 1 : Nat) : Int) = (m : Int) + 1 := by omega
                rw [e1]
                clear e1
                go_loopw [9, 68] (fun vg i wy => ∃ (k : Nat) (xs : List Value), i = .int .i64 k ∧ k ≤ 20 ∧ xs[0]? = some (.int .i64 (-7)) ∧ At W wy (Both (HoldG g vg (m + 1 + k) xs) (Both (RowG tInt 1 (.slice (some ⟨g2, 0, none⟩) (m + 1) cap2) (m + 1) (kpL (m + 1))) (Both (StoreT b (kpS (m + 1))) Nought)))) (fun _ i _ => 20 - (intOf i).toNat)
                case atStart => exact ⟨0, _, rfl, by omega, H0.out, H6.out⟩
                case round =>
                  rename World => wy
                  obtain ⟨k, xs, rfl, hk, hx, hh⟩ := hrel
                  have HH := Lib.hid hh
                  have HX := Lib.hid hx
                  clear H6 H0 hx
                  by_cases hlt : (k : Int) < 20
                  · clear hh
                    (repeat' (first | (go_big_may; (at_builtin; go_must (refine wpList_hold rfl _ _ rfl rfl rfl HH.out HST.out HX.out (by omega) rfl ?_); intro v2 w2 h2; have H2 := Lib.hid h2; clear h2)) | go_values | go_skip | go_guarded | go_step | go_upon | go_back | dsimp only))
                    go_roundw
                    case rel =>
                      refine ⟨k + 1, _, by simp, by omega, ?_, H2.out⟩
                      rw [List.getElem?_append_left (List.getElem?_eq_some_iff.1 HX.out).1]
                      exact HX.out
                    case measure => simp [intOf] <;> omega
                  · have hk20 : k = 20 := by omega
                    subst hk20
                    clear hlt hk
                    obtain ⟨hrow, hg0⟩ := hh.hold
                    obtain ⟨aog, capg, rfl, _, _⟩ := own_shape hrow
                    have hrb := hh.drop.rowG
                    have y0 : wy.cell? ⟨g2, 0, none⟩ = some (.int .i64 1) := by rw [hrb.cellAt 0 (by omega), kpL_get (by omega)]; rfl
                    have y1 : wy.cell? ⟨g2, m, none⟩ = some (.int .i64 ((m : Int) + 1)) := by rw [hrb.cellAt m (by omega), kpL_get (by omega)]
                    have he3 : (((m + 1 + 20 : Nat) : Int) == (m : Int) + 1 + 20) = true := by simp
                    have hw3 : IntKind.i64.wrap ((m : Int) + 1 + 20) = (m : Int) + 1 + 20 := by rw [IntKind.wrap_i64] <;> omega
                    have hz0 : (0 : Int) < ((m + 1 : Nat) : Int) := by omega
                    have HG0 := Lib.hid hg0
                    clear hrow hg0 hrb HX
                    obtain ⟨mb, blk, val, hsi, _⟩ := hh.drop.drop.store
                    have HSI := Lib.hid hsi
                    have HB := Lib.hid hh.below
                    clear hh hsi HH
                    (repeat' (first | (go_big_may; fail) | go_values | go_skip | go_guarded | go_step | go_upon | go_back | dsimp only))
                    refine (Live_calls HSI.out).mono ?_
                    rintro e w9 ⟨vc, rfl, hrc, hb9⟩
                    have hrc1 : w9.ownsRow wy.heap.size tInt 1 vc (m + 1) (kpL (m + 1)) := by
                      rw [kp_keys] at hrc
                      simpa [kpL] using hrc
                    obtain ⟨gc, capc, rfl, _, _, _⟩ := own_cut hrc1 (by omega)
                    have z0 : w9.cell? ⟨gc, 0, none⟩ = some (.int .i64 1) := by rw [hrc1.cellAt 0 (by omega), kpL_get (by omega)]; rfl
                    have z1 : w9.cell? ⟨gc, m, none⟩ = some (.int .i64 ((m : Int) + 1)) := by rw [hrc1.cellAt m (by omega), kpL_get (by omega)]
                    have z2 : w9.cell? ⟨g, 0, none⟩ = some (.int .i64 (-7)) := by
                      have h := HG0.out
                      rw [hb9.cell (p := ⟨g, 0, none⟩) (World.block_lt_of_cell? wy ⟨g, 0, none⟩ h)]; exact h
                    have HB9 := Lib.hid (HB.out.trans (hb9.mono HB.out.size))
                    clear hrc hrc1 hb9 y0 y1
                    (repeat' (first | (go_big_may; fail) | go_values | go_skip | go_guarded | go_step | go_upon | go_back | dsimp only))
                    go_ret
                    exact ⟨rfl, HB9.out⟩
end Go.Proofs.YtomlkhfmblkpcaaDoor
