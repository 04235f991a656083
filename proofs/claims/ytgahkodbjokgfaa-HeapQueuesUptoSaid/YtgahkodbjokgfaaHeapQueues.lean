/- HeapQueues walked. -/
import Derived.Test.YtgahkodbjokgfaaHeapQueuesP
import Derived.Test.YtgahkodbjokgfaaHeapTwin
namespace Go.Proofs.Ytgahkodbjokgfaa
open Go.RowKit

theorem HeapH.lt {w : World} {b : Nat} {fl : FuncId} {lt : It → It → Bool} {L : List It} {n : Nat} {v : Value} (h : HeapH w b fl lt L n v) : ∀ k, k ∈ b :: rowOf v → k < w.heap.size := by
  obtain ⟨l, h1, _⟩ := h; exact h1.lt
theorem HeapH.upd {fp : List Nat} {w w' : World} {b : Nat} {fl : FuncId} {lt : It → It → Bool} {L : List It} {n : Nat} {v : Value} (h : HeapH w b fl lt L n v) (hu : Upd fp w w') (hd : ∀ k ∈ b :: rowOf v, k ∉ fp) : HeapH w' b fl lt L n v := by
  obtain ⟨l, h1, h2⟩ := h; exact ⟨l, h1.upd hu hd, h2⟩
theorem HeapH.below {w w' : World} {b : Nat} {fl : FuncId} {lt : It → It → Bool} {L : List It} {n : Nat} {v : Value} (h : HeapH w b fl lt L n v) (hb : Below w.heap.size w w') : HeapH w' b fl lt L n v :=
  h.upd (Upd.of_below hb []) (by simp)

theorem below_dN (w : World) (n : Nat) : Below w.heap.size w (w.drewN n) := ⟨rfl, rfl, rfl, Nat.le_refl _, fun _ _ => rfl⟩

/-- The last loop: two rows, read. -/
def TwoRd (w : World) (v0 v1 : Value) (A B : List It) (wr : World) : Prop :=
  RdRow wr v0 A.length 2 (cellsI A) ∧ RdRow wr v1 B.length 2 (cellsI B) ∧ Below w.heap.size w wr
theorem TwoRd.below {w : World} {v0 v1 : Value} {A B : List It} {wr w' : World} (h : TwoRd w v0 v1 A B wr) (hb : Below wr.heap.size wr w') : TwoRd w v0 v1 A B w' :=
  ⟨h.1.below hb, h.2.1.below hb, h.2.2.trans (hb.mono h.2.2.size)⟩

/-- The loop over 'more'. -/
def QAt (w : World) (B b : Nat) (items more : List It) (va : Value) (i : Nat) (wr : World) : Prop :=
  i ≤ more.length ∧ ∃ v, HeapH wr b fNone ltN (queueAt items more i) (items.length + i) v ∧ Upd [] w wr ∧ wr.ownsRow B 25 2 va (items.length + more.length) (cellsI (items ++ more)) ∧ (∀ k, va.ownBlock = some k → k ∉ b :: rowOf v) ∧ Grow w [] (b :: rowOf v)

theorem QAt.below {w : World} {B b : Nat} {items more : List It} {va : Value} {i : Nat} {wr w' : World} (h : QAt w B b items more va i wr) (hb : Below wr.heap.size wr w') : QAt w B b items more va i w' := by
  obtain ⟨h0, v, h1, h2, h3, h4, h5⟩ := h
  exact ⟨h0, v, h1.below hb, h2.trans (Upd.of_below hb []) (Grow.nil _ _), ownsRow_below h3 hb, h4, h5⟩
theorem QAt.own {w : World} {B b : Nat} {items more : List It} {va : Value} {i : Nat} {wr : World} (h : QAt w B b items more va i wr) : wr.ownsRow B 25 2 va (items ++ more).length (cellsI (items ++ more)) := by
  obtain ⟨h0, v, h1, h2, h3, h4, h5⟩ := h
  rw [List.length_append]; exact h3

set_option maxRecDepth 100000 in
set_option maxHeartbeats 3200000 in
theorem heapQueues_walk (w : World) (items : List It) (v0 : Value) (rd0 : RdRow w v0 items.length 2 (cellsI items)) (hn0 : items.length ≤ 1048576) (more : List It) (v1 : Value) (rd1 : RdRow w v1 more.length 2 (cellsI more)) (hn1 : more.length ≤ 1048576) :
    Calls Try.prog 4 #[v0, v1] w fun e w' => e = .returned (.bool true) ∧ Below w.heap.size w w' := by
  obtain ⟨a0, c0, hv0, hc0, hd0⟩ := rd0.shape
  obtain ⟨a1, c1, hv1, hc1, hd1⟩ := rd1.shape
  unfold maxLen at hd0 hd1
  subst hv0 hv1
  have RD0 := Lib.hid rd0
  have RD1 := Lib.hid rd1
  clear rd0 rd1
  go_enter Try.func4, Try.ntmps4
  (repeat' (first | (go_big_may; fail) | go_values | go_skip | go_guarded | go_step | go_upon | go_back | dsimp only))
  refine (twin_calls RD0.out (by omega)).mono ?_
  rintro e w1 ⟨vt, rfl, hown1, hb1⟩
  have HO1 := Lib.hid hown1
  have HB1 := Lib.hid hb1
  clear hown1 hb1
  (repeat' (first | (go_big_may; fail) | go_values | go_skip | go_guarded | go_step | go_upon | go_back | dsimp only))
  refine (New_nil_holds (RdRow.of_own HO1.out) (by omega)).mono ?_
  rintro e w2 ⟨b, vh, rfl, hh, hu, hg⟩
  have HU2 := Lib.hid ((Upd.of_below HB1.out []).trans hu (Grow.nil _ _))
  have HG2 := Lib.hid ((Grow.refl w []).trans hg HB1.out.size)
  have HH2 := Lib.hid hh
  clear hh hu hg HO1 HB1
  (repeat' (first | (go_big_may; fail) | go_values | go_skip | go_guarded | go_step | go_upon | go_back | dsimp only))
  refine (wakes_calls w2).mono ?_
  rintro e w3 ⟨rfl, hb3⟩
  have HU3 := Lib.hid (HU2.out.trans (Upd.of_below hb3 []) (Grow.nil _ _))
  have HH3 := Lib.hid (HH2.out.below hb3)
  clear hb3 HU2 HH2
  (repeat' (first | (go_big_may; fail) | go_values | go_skip | go_guarded | go_step | go_upon | go_back | dsimp only))
  have hbw3 : Below w.heap.size w w3 := HU3.out.below (Nat.le_refl _) (by simp)
  refine (twin_calls (RD0.out.below hbw3) (by omega)).mono ?_
  rintro e w4 ⟨vt', rfl, hown4, hb4⟩
  have HRD1 := Lib.hid (RD1.out.below ((HU3.out.trans (Upd.of_below hb4 []) (Grow.nil _ _)).below (Nat.le_refl _) (by simp)))
  have hs4 := hb4.size
  have HB4 := Lib.hid hb4
  clear hb4 hbw3
  (repeat' (first | (go_big_may; (at_builtin; go_must (refine wpList_append_rd rfl _ _ 22 25 rfl Try.underlying22 info_It rfl (by decide) rfl hown4 rfl HRD1.out (cellsI_oneCell _) hs4 (by unfold maxLen; omega) (by omega) ?_); intro va w5 hown5 hg5 _; have HO5 := Lib.hid hown5; have HB5 := Lib.hid (grownOwn HB4.out hs4 hown4 hg5); clear hown5 hg5 hown4 hs4)) | go_values | go_skip | go_guarded | go_step | go_upon | go_back | dsimp only))
  obtain ⟨aa, ca, hva, hca1, hca2⟩ := (RdRow.of_own HO5.out).shape
  subst hva
  unfold maxLen at hca2
  go_loopw [7, 29] (fun at_ x wr => ∃ i : Nat, at_ = .int .i64 i ∧ x = .int .i64 i ∧ QAt w w3.heap.size b items more (.slice aa (items.length + more.length) ca) i wr) (fun _ x _ => more.length - (intOf x).toNat)
  case atStart =>
    refine ⟨0, rfl, rfl, Nat.zero_le _, vh, ?_, HU3.out.trans (Upd.of_below HB5.out []) (Grow.nil _ _), by rw [cellsI_append]; exact HO5.out, fun k hk hm => ?_, HG2.out⟩
    · rw [queueAt_zero]; exact HH3.out.below HB5.out
    · have h1 := (HO5.out.lt k hk).1
      have h2 := HH3.out.lt k hm
      omega
  case round =>
    obtain ⟨i, rfl, rfl, hi, v, hh, hu, ho, hd, hg⟩ := hrel
    have hbw := hu.below (Nat.le_refl _) (by simp)
    clear HU3 HH3 HB5 HO5 HRD1 HB4 HG2
    by_cases hlt : i < more.length
    · obtain ⟨bx, off, cp, hsl, hx0, hx1⟩ := (RD1.out.below hbw).item hlt
      cases hsl
      have hbx := World.block_lt_of_cell? _ _ hx0
      have hqp := queueAt_push items more i hlt
      have hql := queueAt_length items more i hi
      generalize more.getD i default = x at *
      have HQP := Lib.hid hqp
      have HQL := Lib.hid hql
      have HH := Lib.hid hh
      have HU := Lib.hid hu
      have HO := Lib.hid ho
      have HD := Lib.hid hd
      have HG := Lib.hid hg
      clear hqp hql hh hu ho hd hg hbw
      have hi1 : (0 : Int) ≤ i := by omega
      have hi2 : (i : Int) < more.length := by omega
      (repeat' (first | (go_big_may; fail) | go_values | go_skip | go_guarded | go_step | go_upon | go_back | dsimp only))
      have hba : Below wr.heap.size wr ((wr.alloc (.cells #[.int .i64 x.key, .int .i64 x.tag] 25)).alloc (.cells #[.int .i64 x.key, .int .i64 x.tag] 25)) := ((Below.refl _ _).alloc (Nat.le_refl _) _).alloc (by simp) _
      have hrd : RdRow ((wr.alloc (.cells #[.int .i64 x.key, .int .i64 x.tag] 25)).alloc (.cells #[.int .i64 x.key, .int .i64 x.tag] 25)) (.slice (some ⟨wr.heap.size + 1, 0, none⟩) 1 1) [x].length 2 (cellsI [x]) := by
        have := RdRow.fresh (wr.alloc (.cells #[.int .i64 x.key, .int .i64 x.tag] 25)) #[.int .i64 x.key, .int .i64 x.tag] 25 1 2 rfl (by unfold maxLen; omega)
        simpa [cellsI] using this
      have hh2 := HH.out.below hba
      have hu2 := HU.out.trans (Upd.of_below hba []) (Grow.nil _ _)
      have ho2 := ownsRow_below HO.out hba
      have hs2 := hba.size
      have hdx : ∀ k off c, Value.slice (some ⟨wr.heap.size + 1, 0, none⟩) 1 1 = .slice (some ⟨k, off, none⟩) [x].length c → [x] ≠ [] → k ∉ b :: rowOf v := by
        intro k off c e _ hm
        cases e
        have := HH.out.lt _ hm
        omega
      generalize (wr.alloc (.cells #[.int .i64 x.key, .int .i64 x.tag] 25)).alloc (.cells #[.int .i64 x.key, .int .i64 x.tag] 25) = W2 at *
      refine (Push_holds lessN hh2 hrd hdx (by rw [HQL.out]; simp; omega) (by simp; omega)).mono ?_
      rintro e W3 ⟨rfl, v3, hh3, hu3, hg3⟩
      rw [HQP.out] at hh3
      have ho3 := ownsRow_block ho2 fun k hk => hu3.block k (ho2.lt k hk).2 (HD.out k hk)
      have hd3 : ∀ k, (Value.slice aa (items.length + more.length) ca).ownBlock = some k → k ∉ b :: rowOf v3 := fun k hk hm => by
        rcases hg3 k hm with h | h
        · exact HD.out k hk h
        · have := (ho2.lt k hk).2; omega
      have hU3 := hu2.trans hu3 HG.out
      have hG3 := HG.out.trans hg3 hu2.size
      have hpop := Pop_holds lessN hh3 (by rw [List.length_cons, queueAt_length items more (i + 1) (by omega)]; omega)
      rw [if_neg (by simp), firstR_N, leftR_N] at hpop
      simp only [List.getD_cons_zero, List.tail_cons] at hpop
      have HPOP := Lib.hid hpop
      have HO3 := Lib.hid ho3
      have HD3 := Lib.hid hd3
      have HU3 := Lib.hid hU3
      have HG3 := Lib.hid hG3
      clear hba hrd hh2 hu2 ho2 hs2 hdx hh3 hu3 hg3 ho3 hd3 hU3 hG3 hpop HO HD HU HG HH HQP hx0 hx1 hbx
      generalize hy : (items ++ more).getD i default = y at *
      have HY := Lib.hid hy
      clear hy
      (repeat' (first | (go_big_may; fail) | go_values | go_skip | go_guarded | go_step | go_upon | go_back | dsimp only))
      refine HPOP.out.mono ?_
      rintro e W4 ⟨rfl, v4, hh4, hu4, hg4⟩
      have ho4 := ownsRow_block HO3.out fun k hk => hu4.block k (HO3.out.lt k hk).2 (HD3.out k hk)
      have hd4 : ∀ k, (Value.slice aa (items.length + more.length) ca).ownBlock = some k → k ∉ b :: rowOf v4 := fun k hk hm => by
        rcases hg4 k hm with h | h
        · exact HD3.out k hk h
        · have := (HO3.out.lt k hk).2; omega
      have hU4 := HU3.out.trans hu4 HG3.out
      have hG4 := HG3.out.trans hg4 HU3.out.size
      have hfin : QAt w w3.heap.size b items more (.slice aa (items.length + more.length) ca) (i + 1) W4 := ⟨hlt, v4, hh4, hU4, ho4, hd4, hG4⟩
      have HF := Lib.hid hfin
      clear hh4 hu4 hg4 ho4 hd4 hU4 hG4 HPOP HO3 HD3 HU3 HG3 hfin
      (repeat' (first | (go_big_may; fail) | go_values | go_skip | go_guarded | go_step | go_upon | go_back | dsimp only))
      have hba : Below W4.heap.size W4 (W4.alloc (.cells #[.int .i64 y.key, .int .i64 y.tag] 25)) := (Below.refl _ _).alloc (Nat.le_refl _) _
      have hfin5 := HF.out.below hba
      have z0 : (W4.alloc (.cells #[.int .i64 y.key, .int .i64 y.tag] 25)).cell? ⟨W4.heap.size, 0, none⟩ = some (.int .i64 y.key) := by rw [World.cell?_alloc_at _ _ _ _ rfl]; rfl
      have z1 : (W4.alloc (.cells #[.int .i64 y.key, .int .i64 y.tag] 25)).cell? ⟨W4.heap.size, 1, none⟩ = some (.int .i64 y.tag) := by rw [World.cell?_alloc_at _ _ _ _ rfl]; rfl
      generalize W4.alloc (.cells #[.int .i64 y.key, .int .i64 y.tag] 25) = W5 at *
      obtain ⟨b2, o2, c2, hva, q0, q1⟩ := (RdRow.of_own hfin5.own).item (i := i) (by simp; omega)
      rw [HY.out] at q0 q1
      rw [List.length_append] at hva
      cases hva
      have HF5 := Lib.hid hfin5
      clear hba hfin5 HF
      go_quiet (fail)
      (repeat' (first | (go_big_may; fail) | go_values | go_skip | go_guarded | go_step | go_upon | go_back | dsimp only))
      go_roundw
      case rel => exact ⟨i + 1, by simp, by simp, HF5.out.below (below_dN _ _)⟩
      case measure => simp [intOf] <;> omega
    · obtain rfl : i = more.length := by omega
      have hq := queueAt_end items more
      rw [hq] at hh
      have hlen : ((items ++ more).drop more.length).length = items.length := by simp
      generalize hD : (items ++ more).drop more.length = D at *
      have hdr := Drain_holds lessN hh (by omega)
      rw [drainR_N _ _ rfl] at hdr
      have HDR := Lib.hid hdr
      have HU := Lib.hid hu
      have HO := Lib.hid ho
      have HOD := Lib.hid hd
      have HG := Lib.hid hg
      have HDD := Lib.hid hD
      have HLEN := Lib.hid hlen
      clear hdr hu ho hd hg hh hq hD hlen hbw RD0 RD1
      (repeat' (first | (go_big_may; fail) | go_values | go_skip | go_guarded | go_step | go_upon | go_back | dsimp only))
      refine HDR.out.mono ?_
      rintro e W1 ⟨vr, rfl, hi, v', hh', hu', hg'⟩
      have hb1 : Below w.heap.size w W1 := (HU.out.trans hu' HG.out).below (Nat.le_refl _) (by simp)
      have ho1 := ownsRow_block HO.out fun k hk => hu'.block k (HO.out.lt k hk).2 (HOD.out k hk)
      have hall : (items ++ more).length = items.length + more.length := List.length_append
      rw [← hall] at ho1
      have ht : TwoRd w vr (.slice aa (items.length + more.length) ca) D (items ++ more) W1 := ⟨hi.rd, by have := RdRow.of_own ho1; rwa [hall] at this ⊢, hb1⟩
      obtain ⟨ar, cr, hvr, hcr1, hcr2⟩ := hi.rd.shape
      rw [HLEN.out] at hvr
      subst hvr
      unfold maxLen at hcr2
      have HT := Lib.hid ht
      have HALL := Lib.hid hall
      clear hi hh' hu' hg' hb1 ho1 hall ht HU HO HG HOD HDR
      (repeat' (first | (go_big_may; fail) | go_values | go_skip | go_guarded | go_step | go_upon | go_back | dsimp only))
      go_loopw [66] (fun x wr => ∃ i : Nat, x = .int .i64 i ∧ i ≤ items.length ∧ TwoRd w (.slice ar items.length cr) (.slice aa (items.length + more.length) ca) D (items ++ more) wr) (fun x _ => items.length - (intOf x).toNat)
      case atStart => exact ⟨0, rfl, Nat.zero_le _, HT.out⟩
      case round =>
        obtain ⟨i, rfl, hi, ht⟩ := hrel
        clear HT
        by_cases hlt : i < items.length
        · obtain ⟨bx, ox, cx, hx, x0, x1⟩ := ht.1.item (i := i) (by rw [HLEN.out]; exact hlt)
          obtain ⟨by_, oy, cy, hy, y0, y1⟩ := ht.2.1.item (i := more.length + i) (by rw [HALL.out]; omega)
          rw [HLEN.out] at hx
          rw [HALL.out] at hy
          cases hx
          cases hy
          have hget : D.getD i default = (items ++ more).getD (more.length + i) default := by
            rw [← HDD.out]; simp [List.getD_eq_getElem?_getD]
          rw [hget] at x0 x1
          generalize (items ++ more).getD (more.length + i) default = y at *
          have HT := Lib.hid ht
          clear hget ht
          have hi1 : (0 : Int) ≤ i := by omega
          have hi2 : (i : Int) < items.length := by omega
          have hi3 : (0 : Int) ≤ more.length + i := by omega
          have hi4 : ((more.length : Int) + i).toNat = more.length + i := by omega
          have hi5 : IntKind.i64.wrap ((more.length : Int) + i) = (more.length : Int) + i := by rw [IntKind.wrap_i64]; omega
          have hi6 : (more.length : Int) + i < items.length + more.length := by omega
          (repeat' (first | (go_big_may; fail) | go_values | go_skip | go_guarded | go_step | go_upon | go_back | dsimp only))
          go_quiet (fail)
          clear hi3 hi4 hi5 hi6
          (repeat' (first | (go_big_may; fail) | go_values | go_skip | go_guarded | go_step | go_upon | go_back | dsimp only))
          go_roundw
          case rel => exact ⟨i + 1, by simp, hlt, HT.out.below (below_dN _ _)⟩
          case measure => simp [intOf] <;> omega
        · (repeat' (first | (go_big_may; fail) | go_values | go_skip | go_guarded | go_step | go_upon | go_back | dsimp only))
          go_ret
          exact ⟨rfl, ht.2.2⟩
end Go.Proofs.Ytgahkodbjokgfaa
