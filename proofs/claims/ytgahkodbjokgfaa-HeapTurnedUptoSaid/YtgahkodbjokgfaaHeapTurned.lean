/- HeapTurned walked. -/
import Derived.Test.YtgahkodbjokgfaaHeapTurnP
import Derived.Test.YtgahkodbjokgfaaHeapPlays
namespace Go.Proofs.Ytgahkodbjokgfaa
open Go.RowKit

/-- A reference's list in memory that is new since w0. -/
structure NewR (w0 : World) (b : Nat) (M : List It) (v : Value) (wr : World) : Prop where
  ref : RefH wr b M v
  own : ∀ k ∈ b :: rowOf v, w0.heap.size ≤ k
  below : Below w0.heap.size w0 wr
theorem NewR.step {w0 wr w' : World} {b : Nat} {M M' : List It} {v v' : Value} (h : NewR w0 b M v wr) (hr : RefH w' b M' v') (hu : Upd (b :: rowOf v) wr w') (hg : Grow wr (b :: rowOf v) (b :: rowOf v')) : NewR w0 b M' v' w' :=
  ⟨hr, fun k hk => (hg k hk).elim (h.own k) (fun h1 => Nat.le_trans h.below.size h1), h.below.trans (hu.below h.below.size h.own)⟩
theorem NewR.start (w : World) : NewR w w.heap.size [] (.slice none 0 0) (w.alloc (.cells #[.slice none 0 0] tRH)) :=
  ⟨⟨heap_alloc_new _ _, by simpa [cellsI] using World.ownsRow_nil _ _ _ _⟩, fun k hk => by simp [rowOf, Value.ownBlock] at hk; omega, (Below.refl _ _).alloc (Nat.le_refl _) _⟩
theorem drop_rev {L : List It} {r : Nat} (h : r < L.length) : (L.drop r).reverse = (L.drop (r + 1)).reverse ++ [L.getD r default] := by
  rw [List.drop_eq_getElem_cons h, List.reverse_cons, List.getD_eq_getElem?_getD, List.getElem?_eq_getElem h]; rfl
theorem negOne : ((0 : Nat) : Int) - 1 = -1 := by decide
theorem sub1 (r : Nat) : ((r + 1 : Nat) : Int) - 1 = (r : Int) := by omega

set_option maxRecDepth 100000 in
set_option maxHeartbeats 3200000 in
theorem heapTurned_walk (w : World) (items : List It) (v0 : Value) (rd0 : RdRow w v0 items.length 2 (cellsI items)) (hn0 : items.length ≤ 1048576) :
    Calls Try.prog 3 #[v0] w fun e w' => e = .returned (.bool true) ∧ Below w.heap.size w w' := by
  obtain ⟨a0, c0, hv0, hc0, hd0⟩ := rd0.shape
  unfold maxLen at hd0
  subst hv0
  have RD0 := Lib.hid rd0
  clear rd0
  go_enter Try.func3, Try.ntmps3
  (repeat' (first | (go_big_may; fail) | go_values | go_skip | go_guarded | go_step | go_upon | go_back | dsimp only))
  refine (wakes_calls _).mono ?_
  rintro e w1 ⟨rfl, hb1⟩
  have HB1 := Lib.hid hb1
  clear hb1
  (repeat' (first | (go_big_may; fail) | go_values | go_skip | go_guarded | go_step | go_upon | go_back | dsimp only))
  go_loopw [16] (fun x wr => ∃ k : Nat, x = .int .i64 k ∧ k ≤ items.length ∧ Below w.heap.size w wr) (fun x _ => items.length - (intOf x).toNat)
  case atStart => exact ⟨0, rfl, Nat.zero_le _, HB1.out⟩
  case round =>
    obtain ⟨k, rfl, hk, hb⟩ := hrel
    clear HB1
    by_cases hlt : k < items.length
    · obtain ⟨bx, ox, cp, hsl, x0, x1⟩ := (RD0.out.below hb).item hlt
      cases hsl
      obtain ⟨by_, oy, cq, hsl, y0, y1⟩ := (RD0.out.below hb).item (i := 0) (by omega)
      cases hsl
      simp only [Nat.zero_mul, Nat.add_zero] at y0 y1
      generalize items.getD k default = x at *
      generalize items.getD 0 default = y at *
      have hk1 : (0 : Int) ≤ k := by omega
      have hk2 : (k : Int) < items.length := by omega
      have hk3 : (0 : Int) < items.length := by omega
      have hk4 : 0 < items.length := by omega
      have hS := And.intro x0 (And.intro x1 (And.intro y0 (And.intro y1 hb)))
      clear hb
      cases hxy : decide (x.key < y.key)
      · have hlt1 : ¬ x.key < y.key := by simpa using hxy
        have HXY := Lib.hid hxy
        clear hxy
        (repeat' (first | (go_big_may; fail) | go_values | go_skip | go_guarded | go_step | go_upon | go_back | dsimp only))
        go_region_held3 (fun wx => wx.cell? ⟨bx, ox + k * 2, none⟩ = some (.int .i64 x.key) ∧ wx.cell? ⟨bx, ox + k * 2 + 1, none⟩ = some (.int .i64 x.tag) ∧ wx.cell? ⟨bx, ox, none⟩ = some (.int .i64 y.key) ∧ wx.cell? ⟨bx, ox + 1, none⟩ = some (.int .i64 y.tag) ∧ Below w.heap.size w wx) (first | assumption | exact c4_drew (by assumption) | exact c4_below (by assumption) hb5) (((go_at_call 12); refine (Less_calls x y _).mono ?_; rw [HXY.out]; rintro e w5 ⟨rfl, hb5⟩))
        all_goals
          (repeat' (first | (go_big_may; fail) | go_values | go_skip | go_guarded | go_step | go_upon | go_back | dsimp only))
          go_roundw
          case rel => exact ⟨k + 1, by simp, hlt, c4_bel (by assumption)⟩
          case measure => simp [intOf] <;> omega
      · have hlt1 : x.key < y.key := by simpa using hxy
        have HXY := Lib.hid hxy
        clear hxy
        (repeat' (first | (go_big_may; fail) | go_values | go_skip | go_guarded | go_step | go_upon | go_back | dsimp only))
        go_region_held3 (fun wx => wx.cell? ⟨bx, ox + k * 2, none⟩ = some (.int .i64 x.key) ∧ wx.cell? ⟨bx, ox + k * 2 + 1, none⟩ = some (.int .i64 x.tag) ∧ wx.cell? ⟨bx, ox, none⟩ = some (.int .i64 y.key) ∧ wx.cell? ⟨bx, ox + 1, none⟩ = some (.int .i64 y.tag) ∧ Below w.heap.size w wx) (first | assumption | exact c4_drew (by assumption) | exact c4_below (by assumption) hb5) (((go_at_call 12); refine (Less_calls x y _).mono ?_; rw [HXY.out]; rintro e w5 ⟨rfl, hb5⟩))
        all_goals
          (repeat' (first | (go_big_may; fail) | go_values | go_skip | go_guarded | go_step | go_upon | go_back | dsimp only))
          go_roundw
          case rel => exact ⟨k + 1, by simp, hlt, c4_bel (by assumption)⟩
          case measure => simp [intOf] <;> omega
    · have HB := Lib.hid hb
      clear hb
      (repeat' (first | (go_big_may; fail) | go_values | go_skip | go_guarded | go_step | go_upon | go_back | dsimp only))
      refine (twin_calls (RD0.out.below HB.out) (by omega)).mono ?_
      rintro e w2 ⟨vt, rfl, hown2, hb2⟩
      have HB2 := Lib.hid (HB.out.trans (hb2.mono HB.out.size))
      have HO2 := Lib.hid (RdRow.of_own hown2)
      clear hown2 hb2 HB
      (repeat' (first | (go_big_may; fail) | go_values | go_skip | go_guarded | go_step | go_upon | go_back | dsimp only))
      refine (New_holds lessF HO2.out (by omega)).mono ?_
      rintro e w3 ⟨b, vh, rfl, hh, hu, hg⟩
      have HB3 := Lib.hid (HB2.out.trans (hu.below HB2.out.size (by simp)))
      have hge : ∀ k ∈ b :: rowOf vh, w.heap.size ≤ k := fun k hk => (hg k hk).elim (fun h => by cases h) (fun h => Nat.le_trans HB2.out.size h)
      have HGE := Lib.hid hge
      have HH := Lib.hid hh
      clear hh hu hg hge HB2 HO2
      (repeat' (first | (go_big_may; fail) | go_values | go_skip | go_guarded | go_step | go_upon | go_back | dsimp only))
      refine (Drain_holds lessF HH.out (by omega)).mono ?_
      rintro e w4 ⟨vg, rfl, hi, v4, hh4, hu4, hg4⟩
      have HB4 := Lib.hid (HB3.out.trans (hu4.below HB3.out.size HGE.out))
      have hdl := drainR_len ltF items.length items rfl
      have htn := turned items
      have hrd := hi.rd
      clear hi hh4 hu4 hg4 HB3 HGE HH
      generalize drainR ltF items.length items = D at *
      rw [hdl] at hrd
      have HTN := Lib.hid htn
      have HDL := Lib.hid hdl
      obtain ⟨ag, cg, hvg, hg1, hg2⟩ := hrd.shape
      subst hvg
      unfold maxLen at hg2
      have HRD := Lib.hid hrd
      have hq : ((items.length : Int) != items.length) = false := by simp
      clear hrd htn hdl
      (repeat' (first | (go_big_may; fail) | go_values | go_skip | go_guarded | go_step | go_upon | go_back | dsimp only))
      have HN := Lib.hid (NewR.start w4)
      go_loopw [7] (fun x wr => ∃ r : Nat, x = .int .i64 ((r : Int) - 1) ∧ r ≤ items.length ∧ ∃ vl, NewR w4 w4.heap.size ((D.drop r).reverse) vl wr) (fun x _ => (intOf x + 1).toNat)
      case atStart => exact ⟨items.length, rfl, Nat.le_refl _, _, by rw [List.drop_of_length_le (by rw [HDL.out]; exact Nat.le_refl _)]; exact HN.out⟩
      case round =>
        obtain ⟨r, rfl, hr, vl, hn⟩ := hrel
        clear HN
        by_cases hr0 : r = 0
        · subst hr0
          rw [List.drop_zero] at hn
          have hz := negOne
          have hrd := HRD.out.below hn.below
          have HL := Lib.hid hn
          have HRD2 := Lib.hid hrd
          clear hn hz hrd
          rw [negOne]
          (repeat' (first | (go_big_may; fail) | go_values | go_skip | go_guarded | go_step | go_upon | go_back | dsimp only))
          obtain ⟨wo, rfl⟩ : ∃ wo : World, wo = wr := ⟨_, rfl⟩
          have HN := Lib.hid (NewR.start wo)
          have HBO := Lib.hid (HB4.out.trans (HL.out.below.mono HB4.out.size))
          go_loopw [9] (fun x wr => ∃ r : Nat, x = .int .i64 ((r : Int) - 1) ∧ r ≤ items.length ∧ ∃ vb, NewR wo wo.heap.size ((items.drop r).reverse) vb wr) (fun x _ => (intOf x + 1).toNat)
          case atStart => exact ⟨items.length, rfl, Nat.le_refl _, _, by rw [List.drop_of_length_le (Nat.le_refl _)]; exact HN.out⟩
          case round =>
            obtain ⟨r, rfl, hr, vb, hn⟩ := hrel
            clear HN
            by_cases hr0 : r = 0
            · subst hr0
              rw [List.drop_zero] at hn
              have hD : D.reverse.length = items.length := by rw [List.length_reverse, HDL.out]
              have hdis : ∀ k ∈ w4.heap.size :: rowOf vl, k ∉ wo.heap.size :: rowOf vb := fun k hk hm => by
                have h1 := HL.out.ref.lt k hk
                have h2 := hn.own k hm
                omega
              have HREF := Lib.hid (HL.out.ref.below hn.below)
              have HDIS := Lib.hid hdis
              have HNB := Lib.hid hn
              have HBW := Lib.hid (HBO.out.trans (hn.below.mono HBO.out.size))
              have HWO := Lib.hid HBO.out.size
              clear hn hdis HL HBO HRD2
              rw [negOne]
              (repeat' (first | (go_big_may; fail) | go_values | go_skip | go_guarded | go_step | go_upon | go_back | dsimp only))
              refine (rDrain_calls HNB.out.ref (by rw [List.length_reverse]; omega)).mono ?_
              rintro e w7 ⟨vr, rfl, hown, vb7, hh7, _, hu7, hg7⟩
              have hs7 := HREF.out.upd hu7 HDIS.out
              have HB7 := Lib.hid (HBW.out.trans (hu7.below HBW.out.size fun k hk => Nat.le_trans HWO.out (HNB.out.own k hk)))
              have htn := HTN.out
              rw [List.length_reverse, ← htn] at hown
              have hrd7 := RdRow.of_own hown
              generalize D.reverse = E at *
              obtain ⟨ar, cr, hvr, hr1, hr2⟩ := hrd7.shape
              subst hvr
              obtain ⟨al, cl, hvl, hl1, hl2⟩ := hs7.rd.shape
              rw [hD] at hvl
              subst hvl
              unfold maxLen at hr2 hl2
              have HD := Lib.hid hD
              have HS7 := Lib.hid hs7
              have HR7 := Lib.hid hrd7
              clear hown hh7 hu7 hg7 hs7 hrd7 htn HNB HREF HBW HDIS hD
              (repeat' (first | (go_big_may; fail) | go_values | go_skip | go_guarded | go_step | go_upon | go_back | dsimp only))
              go_loopw [111] (fun x wr => ∃ k : Nat, x = .int .i64 k ∧ k ≤ items.length ∧ RefH wr w4.heap.size E (.slice al items.length cl) ∧ RdRow wr (.slice ar items.length cr) items.length 2 (cellsI E) ∧ Below w.heap.size w wr) (fun x _ => items.length - (intOf x).toNat)
              case atStart => exact ⟨0, rfl, Nat.zero_le _, HS7.out, HR7.out, HB7.out⟩
              case round =>
                obtain ⟨k, rfl, hk, hs, hrd, hb⟩ := hrel
                clear HS7 HR7 HB7
                have HB := Lib.hid hb
                have HS := Lib.hid hs
                have HR := Lib.hid hrd
                by_cases hlt : k < items.length
                · obtain ⟨bx, ox, cp, hsl, x0, x1⟩ := hs.rd.item (i := k) (by rw [HD.out]; omega)
                  rw [HD.out] at hsl
                  cases hsl
                  obtain ⟨by_, oy, cq, hsl, y0, y1⟩ := hrd.item (i := k) (by rw [HD.out]; omega)
                  cases hsl
                  have c0 := hs.c0
                  generalize E.getD k default = y at *
                  have hk1 : (0 : Int) ≤ k := by omega
                  have hk2 : (k : Int) < items.length := by omega
                  clear hb hs hrd
                  (repeat' (first | (go_big_may; fail) | go_values | go_skip | go_guarded | go_step | go_upon | go_back | dsimp only))
                  go_quiet (fail)
                  (repeat' (first | (go_big_may; fail) | go_values | go_skip | go_guarded | go_step | go_upon | go_back | dsimp only))
                  go_roundw
                  case rel => exact ⟨k + 1, by simp, hlt, HS.out.below (below_dW _ _), HR.out.below (below_dW _ _), HB.out.trans ((below_dW _ _).mono HB.out.size)⟩
                  case measure => simp [intOf] <;> omega
                · clear hb hs hrd
                  (repeat' (first | (go_big_may; fail) | go_values | go_skip | go_guarded | go_step | go_upon | go_back | dsimp only))
                  go_ret
                  exact ⟨rfl, HB.out⟩
            · obtain ⟨r, rfl⟩ : ∃ r', r = r' + 1 := ⟨r - 1, by omega⟩
              rw [sub1]
              have hbi := HBO.out.trans (hn.below.mono HBO.out.size)
              obtain ⟨bx, ox, cp, hsl, x0, x1⟩ := (RD0.out.below hbi).item (i := r) (by omega)
              cases hsl
              have hbx : bx < wr.heap.size := World.block_lt_of_cell? _ _ x0
              have hdr := drop_rev (L := items) (r := r) (by omega)
              generalize items.getD r default = y at *
              have hll : ((items.drop (r + 1)).reverse).length ≤ 1099511627776 := by rw [List.length_reverse, List.length_drop]; omega
              obtain ⟨a2, cp2, w2, hrun, d0, e0, hb2, hh2, hu2, hg2⟩ := rf_push_run (w := wr.drew) hn.ref y hll
              have c0 := hn.ref.c0
              have hbs := lt_of_heap hn.ref.1
              rw [← hdr] at hh2
              have HN2 := Lib.hid (hn.step hh2 (Upd.of_drew hu2) hg2)
              have hk1 : (0 : Int) ≤ r := by omega
              have hk2 : (r : Int) < items.length := by omega
              generalize hlll : ((items.drop (r + 1)).reverse).length = ll at *
              clear hh2 hu2 hg2 hn hdr hlll hbi
              (repeat' (first | (go_big_may; fail) | go_values | go_skip | go_guarded | go_step | go_upon | go_back | dsimp only))
              go_region_law (refine step_append_run rfl _ _ 33 rfl _ _ rfl rfl hrun ?_)
              all_goals
                clear hrun d0 e0 c0 x0 x1
                (repeat' (first | (go_big_may; fail) | go_values | go_skip | go_guarded | go_step | go_upon | go_back | dsimp only))
                go_roundw
                case rel => exact ⟨r, by simp, by omega, _, HN2.out⟩
                case measure => simp [intOf] <;> omega
        · obtain ⟨r, rfl⟩ : ∃ r', r = r' + 1 := ⟨r - 1, by omega⟩
          rw [sub1]
          obtain ⟨bx, ox, cp, hsl, x0, x1⟩ := (HRD.out.below hn.below).item (i := r) (by rw [HDL.out]; omega)
          cases hsl
          have hbx : bx < wr.heap.size := World.block_lt_of_cell? _ _ x0
          have hdr := drop_rev (L := D) (r := r) (by rw [HDL.out]; omega)
          generalize D.getD r default = y at *
          have hll : ((D.drop (r + 1)).reverse).length ≤ 1099511627776 := by rw [List.length_reverse, List.length_drop, HDL.out]; omega
          obtain ⟨a2, cp2, w2, hrun, d0, e0, hb2, hh2, hu2, hg2⟩ := rf_push_run (w := wr.drew) hn.ref y hll
          have c0 := hn.ref.c0
          have hbs := lt_of_heap hn.ref.1
          rw [← hdr] at hh2
          have HN2 := Lib.hid (hn.step hh2 (Upd.of_drew hu2) hg2)
          have hk1 : (0 : Int) ≤ r := by omega
          have hk2 : (r : Int) < items.length := by omega
          generalize hlll : ((D.drop (r + 1)).reverse).length = ll at *
          clear hh2 hu2 hg2 hn hdr hlll
          (repeat' (first | (go_big_may; fail) | go_values | go_skip | go_guarded | go_step | go_upon | go_back | dsimp only))
          go_region_law (refine step_append_run rfl _ _ 33 rfl _ _ rfl rfl hrun ?_)
          all_goals
            clear hrun d0 e0 c0 x0 x1
            (repeat' (first | (go_big_may; fail) | go_values | go_skip | go_guarded | go_step | go_upon | go_back | dsimp only))
            go_roundw
            case rel => exact ⟨r, by simp, by omega, _, HN2.out⟩
            case measure => simp [intOf] <;> omega
end Go.Proofs.Ytgahkodbjokgfaa
