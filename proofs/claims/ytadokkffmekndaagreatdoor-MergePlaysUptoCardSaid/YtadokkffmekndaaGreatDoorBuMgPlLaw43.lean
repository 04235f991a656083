/- hornbookref06: the document's writer walked: Open, Drop, Put, Close. · RecordDrops: what a writer does to a store that holds its run alone. · record.From refused; the document's Open at a bad block. -/
import Derived.Test.YtadokkffmekndaaGreatDoorBuMgPlLaw36
import Derived.Test.YtadokkffmekndaaGreatDoorBuMgPlLaw20
import Derived.Test.YtadokkffmekndaaGreatDoorBuMgPlLaw22
import Derived.Test.YtadokkffmekndaaGreatDoorBuMgPlLaw28
set_option linter.unusedSimpArgs false
set_option linter.unusedVariables false
namespace Go.Proofs.YtadokkffmekndaaGreatDoor
open Go.RowKit
abbrev tRw : TypeId := 207
abbrev rwCells (x : WrD) : Array Value := #[.int .i64 x.run, .int .i64 x.block, .int .i64 x.dead, .string ⟨x.buf.toArray⟩]
def RwT (k : Nat) (x : WrD) : Thing := CellT k (rwCells x) tRw
theorem RwT.stable (k : Nat) (x : WrD) : Stable (RwT k x) := CellT.stable _ _ _
structure RwFacts (w : World) (k : Nat) (x : WrD) : Prop where
  c0 : w.cell? ⟨k, 0, none⟩ = some (.int .i64 x.run)
  c1 : w.cell? ⟨k, 1, none⟩ = some (.int .i64 x.block)
  c2 : w.cell? ⟨k, 2, none⟩ = some (.int .i64 x.dead)
  c3 : w.cell? ⟨k, 3, none⟩ = some (.string ⟨x.buf.toArray⟩)
  fz : ∀ j, w.frozen? ⟨k, j, none⟩ = false
  lt : k < w.heap.size
section
variable {W w : World} {R : Thing} {rb k : Nat} {S : St} {x : WrD}
theorem At.rw6 (h : At W w (Both (RwT k x) R)) : RwFacts w k x := by
  have h1 := (show At W w (Both (CellT k (rwCells x) tRw) R) from h).cell.1
  exact ⟨cell_at h1 0, cell_at h1 1, cell_at h1 2, cell_at h1 3, thaw_at h1, lt_of_heap h1⟩
theorem At.setHeld (h : At W w (Both (RwT k x) R)) (hR : Stable R) (t : List UInt8) : At W (w.setCell ⟨k, 3, none⟩ (.string ⟨t.toArray⟩)) (Both (RwT k { x with buf := t }) R) :=
  (show At W w (Both (CellT k (rwCells x) tRw) R) from h).setCell hR 3 (.string ⟨t.toArray⟩)
theorem At.setDead6 (h : At W w (Both (RwT k x) R)) (hR : Stable R) (c : Nat) : At W (w.setCell ⟨k, 2, none⟩ (.int .i64 c)) (Both (RwT k { x with dead := c }) R) :=
  (show At W w (Both (CellT k (rwCells x) tRw) R) from h).setCell hR 2 (.int .i64 c)
structure WSim (x y : WrD) : Prop where
  run : y.run = x.run
  block : y.block = x.block
  dead : y.dead = x.dead
  buf : x.dead = 0 → y.buf = x.buf
theorem WSim.refl (x : WrD) : WSim x x := ⟨rfl, rfl, rfl, fun _ => rfl⟩
theorem WSim.eq {x y : WrD} (h : WSim x y) (hd : x.dead = 0) : y = x := by
  have h1 := h.run
  have h2 := h.block
  have h3 := h.dead
  have h4 := h.buf hd
  cases x
  cases y
  simp only at h1 h2 h3 h4
  subst h1 h2 h3 h4
  rfl
set_option maxRecDepth 100000 in
set_option maxHeartbeats 3200000 in
theorem rDrop_at (h : At W w (Both (RwT k x) (Both (RefT rb S) R))) (hR : Stable R) (hG : GoodS S) (hrun : inI64 x.run) :
    Calls Tryz.prog 108 #[.pointer (some ⟨rb, 0, none⟩), .pointer (some ⟨k, 0, none⟩)] w fun e w' => e = .returned (.tuple #[]) ∧ At W w' (Both (RwT k (dropP S x).2) (Both (RefT rb (dropP S x).1) R)) := by
  obtain ⟨c0, c1, c2, c3, fz, hlt⟩ := h.rw6
  unfold dropP
  by_cases h13 : x.dead = 13
  · have hq : ((x.dead : Int) == 13) = true := by rw [h13]; rfl
    rw [if_pos h13]
    have H := Lib.hid h
    clear h hR hG h13
    go_enter Tryz.func108, Tryz.ntmps108
    (repeat' (first | go_values | go_skip | go_guarded | go_step | go_upon | go_back | dsimp only))
    refine bodyPost_ret (results_none rfl _ _ _) rfl ?_
    exact ⟨rfl, H.out⟩
  · have hq : ((x.dead : Int) == 13) = false := beq_eq_false_iff_ne.2 (by omega)
    rw [if_neg h13]
    have HRM := Lib.hid (rRemove_at h.swap ((RwT.stable k x).both hR) hG hrun)
    have HST := Lib.hid ((RefT.stable rb (removeP S x.run).1).both hR)
    clear h hR hG h13
    go_enter Tryz.func108, Tryz.ntmps108
    (repeat' (first | go_values | go_skip | go_guarded | go_step | go_upon | go_back | dsimp only))
    refine HRM.out.mono ?_
    rintro e w1 ⟨rfl, h1⟩
    have h2 := h1.swap
    obtain ⟨_, _, d2, _, fz1, hlt1⟩ := h2.rw6
    have fz2 := fz1 2
    have H3 := Lib.hid (h2.setDead6 HST.out 13)
    clear h1 h2
    (repeat' (first | go_values | go_skip | go_guarded | go_step | go_upon | go_back | dsimp only))
    go_end0
    exact ⟨rfl, H3.out⟩
set_option maxRecDepth 100000 in
set_option maxHeartbeats 3200000 in
theorem rOpen_ok (h : At W w (Both (RefT rb S) R)) (hR : Stable R) (hG : GoodS S) {n : Nat} (hn : 1 ≤ n ∧ n ≤ 4096) (hc : (createP S).2.2 = 0) :
    Calls Tryz.prog 106 #[.pointer (some ⟨rb, 0, none⟩), .int .i64 n] w fun e w' => ∃ k, e = .returned (.tuple #[.pointer (some ⟨k, 0, none⟩), .int .i64 0]) ∧ At W w' (Both (RwT k ⟨(createP S).2.1, n, [], 0⟩) (Both (RefT rb (createP S).1) R)) := by
  have hcr := rCreate_at h hR hG
  rw [hc] at hcr
  have HCR := Lib.hid hcr
  have h1 : ¬ (n : Int) < 1 := by omega
  have h2 : ¬ 4096 < (n : Int) := by omega
  generalize (createP S).2.1 = r at *
  have HST := Lib.hid ((RefT.stable rb (createP S).1).both hR)
  clear h hR hG hc hcr hn
  go_enter Tryz.func106, Tryz.ntmps106
  (repeat' (first | go_values | go_skip | go_guarded | go_step | go_upon | go_back | dsimp only))
  refine HCR.out.mono ?_
  rintro e w1 ⟨rfl, h1⟩
  have hnew := h1.newCell HST.out (rwCells ⟨r, n, [], 0⟩) tRw
  have HN := Lib.hid hnew
  clear h1 hnew
  (repeat' (first | go_values | go_skip | go_guarded | go_step | go_upon | go_back | dsimp only))
  go_ret2
  exact ⟨_, rfl, HN.out⟩
set_option maxRecDepth 100000 in
set_option maxHeartbeats 3200000 in
theorem rOpen_fail (h : At W w (Both (RefT rb S) R)) (hR : Stable R) (hG : GoodS S) {n : Nat} (hn : 1 ≤ n ∧ n ≤ 4096) (hc : (createP S).2.2 ≠ 0) :
    Calls Tryz.prog 106 #[.pointer (some ⟨rb, 0, none⟩), .int .i64 n] w fun e w' => e = .returned (.tuple #[.pointer none, .int .i64 (createP S).2.2]) ∧ At W w' (Both (RefT rb (createP S).1) R) := by
  have HCR := Lib.hid (rCreate_at h hR hG)
  have h1 : ¬ (n : Int) < 1 := by omega
  have h2 : ¬ 4096 < (n : Int) := by omega
  have h3 : (((createP S).2.2 : Int) == 0) = false := beq_eq_false_iff_ne.2 (by omega)
  have h4 : (((createP S).2.2 : Int) != 0) = true := by simp; omega
  generalize (createP S).2.1 = r at *
  generalize (createP S).2.2 = c at *
  clear h hR hG hc hn
  go_enter Tryz.func106, Tryz.ntmps106
  (repeat' (first | go_values | go_skip | go_guarded | go_step | go_upon | go_back | dsimp only))
  refine HCR.out.mono ?_
  rintro e w1 ⟨rfl, h1⟩
  have H1 := Lib.hid h1
  clear h1
  (repeat' (first | go_values | go_skip | go_guarded | go_step | go_upon | go_back | dsimp only))
  go_ret2
  exact ⟨rfl, H1.out⟩
end
theorem At.newLit6 {W w : World} {Φ : Thing} (h : At W w Φ) (hs : Stable Φ) (e : TypeId) (v : Value) : At W (w.alloc (.cells #[v] e)) (Both (RowG e 1 (.slice (some ⟨w.heap.size, 0, none⟩) 1 1) 1 [v]) Φ) :=
  h.newRowG hs ((Below.refl _ _).alloc (Nat.le_refl _) _) ⟨rfl, .inr ⟨w.heap.size, 1, #[v], rfl, Nat.le_refl _, heap_alloc_new _ _, Nat.le_refl _, by unfold maxLen; omega, rfl, rfl⟩⟩
theorem ex_mid (t : List UInt8) (a n : Nat) : (⟨t.toArray⟩ : ByteArray).extract a (a + n) = ⟨((t.drop a).take n).toArray⟩ := by
  rw [Lib.extract_eq]
  simp
theorem putL_go {n : Nat} {S : St} {x : WrD} (h : x.block ≤ x.buf.length) (hz : (flushP S x x.block).2.2 = 0) : putL (n + 1) S x = putL n (flushP S x x.block).1 (flushP S x x.block).2.1 := by
  rw [putL, if_pos h, if_pos hz]
theorem putL_bad {n : Nat} {S : St} {x : WrD} (h : x.block ≤ x.buf.length) (hz : (flushP S x x.block).2.2 ≠ 0) : putL (n + 1) S x = flushP S x x.block := by
  rw [putL, if_pos h, if_neg hz]
theorem putL_end {n : Nat} {S : St} {x : WrD} (h : ¬ x.block ≤ x.buf.length) : putL (n + 1) S x = (S, x, 0) := by
  rw [putL, if_neg h]
section
variable {W w : World} {R : Thing} {rb k : Nat} {S : St} {x : WrD}
theorem rAppend_one (h : At W w (Both (RwT k x) (Both (RefT rb S) R))) (hR : Stable R) (hG : GoodS S) {z : Int} (hz : inI64 z) {t : List UInt8} (ht : t.length ≤ 1000000) :
    Calls Tryz.prog 45 #[.pointer (some ⟨rb, 0, none⟩), .int .i64 z, .slice (some ⟨w.heap.size, 0, none⟩) 1 1] (w.alloc (.cells #[.string ⟨t.toArray⟩] 9)).drew fun e w' => e = .returned (.int .i64 (appendP S z t).2) ∧ At W w' (Both (RwT k x) (Both (RefT rb (appendP S z t).1) R)) := by
  have hst := (RwT.stable k x).both ((RefT.stable rb S).both hR)
  have h2 := (h.newLit6 hst 9 (.string ⟨t.toArray⟩)).mono ((RowG.stable _ _ _ _ _).both hst) (show Below _ _ (w.alloc (.cells #[.string ⟨t.toArray⟩] 9)).drew from ⟨rfl, rfl, rfl, Nat.le_refl _, fun _ _ => rfl⟩)
  have h3 := h2.pull3
  have ha := rAppend_atR (ss := [t]) (v := .slice (some ⟨w.heap.size, 0, none⟩) 1 1) h3 ((RowG.stable _ _ _ _ _).both ((RwT.stable k x).both hR)) hG hz (fun w' h' => RdRow.of_own h'.rowG) (by simp [cat]; omega)
  have e : cat [t] = t := by simp [cat]
  rw [e] at ha
  exact ha.mono fun e w' ⟨he, h'⟩ => ⟨he, h'.swap.drop.swap⟩
set_option maxRecDepth 100000 in
set_option maxHeartbeats 6400000 in
theorem rPut_at (h : At W w (Both (RwT k x) (Both (RefT rb S) R))) (hR : Stable R) (hG : GoodS S) (hb1 : 1 ≤ x.block) (hb2 : x.block ≤ 4096) (hrun : inI64 x.run) {v : Value} {ss : List (List UInt8)} (hrd : RdRow w v ss.length 1 (strs ss)) (hlen : x.dead = 0 → x.buf.length + (frameL ss).length ≤ 1099511627776) :
    Calls Tryz.prog 107 #[.pointer (some ⟨rb, 0, none⟩), .pointer (some ⟨k, 0, none⟩), v] w fun e w' => e = .returned (.int .i64 (putP S x ss).2.2) ∧ ∃ y, WSim (putP S x ss).2.1 y ∧ At W w' (Both (RwT k y) (Both (RefT rb (putP S x ss).1) R)) := by
  have HST := Lib.hid ((RwT.stable k x).both ((RefT.stable rb S).both hR))
  have HRUN := Lib.hid hrun
  have HR := Lib.hid hR
  have H := Lib.hid h
  have HG := Lib.hid hG
  obtain ⟨res, hres⟩ : ∃ res, res = putP S x ss := ⟨_, rfl⟩
  rw [← hres]
  unfold putP at hres
  obtain ⟨c0, c1, c2, c3, fz, hlt⟩ := h.rw6
  by_cases hd : x.dead = 0
  · have hlen := hlen hd
    rw [if_neg (by simpa using hd)] at hres
    by_cases hfit : fits ss = false
    · rw [if_pos hfit] at hres
      have hfr : frameR ss = ([], 62) := by unfold frameR; rw [hfit]; rfl
      have hfc := refFrame_calls ss v w hrd (by omega)
      rw [hfr] at hfc
      have HFC := Lib.hid hfc
      have HRES := Lib.hid hres
      clear h hfc hfr hfit hrd hR hG hres
      go_enter Tryz.func107, Tryz.ntmps107
      (repeat' (first | go_values | go_skip | go_guarded | go_step | go_upon | go_back | dsimp only))
      refine HFC.out.mono ?_
      rintro e w2 ⟨rfl, hb⟩
      have H2 := Lib.hid (H.out.mono HST.out hb)
      clear hb
      (repeat' (first | go_values | go_skip | go_guarded | go_step | go_upon | go_back | dsimp only))
      go_ret
      rw [HRES.out]
      exact ⟨rfl, x, WSim.refl _, H2.out⟩
    · rw [if_neg hfit] at hres
      have hft : fits ss = true := by simpa using hfit
      have hfr : frameR ss = (frameL ss, 0) := by unfold frameR; rw [hft]; rfl
      have hfc := refFrame_calls ss v w hrd (by omega)
      rw [hfr] at hfc
      have HFC := Lib.hid hfc
      have hcat : (⟨x.buf.toArray⟩ : ByteArray) ++ ⟨(frameL ss).toArray⟩ = ⟨(x.buf ++ frameL ss).toArray⟩ := by
        apply ByteArray.ext
        simp [ByteArray.data_append]
      have hsum : ¬ 9223372036854775807 < x.buf.length + (frameL ss).length := by omega
      have hAl : (x.buf ++ frameL ss).length ≤ 1099511627776 := by rw [List.length_append]; exact hlen
      have HRES := Lib.hid hres
      have HB1 := Lib.hid hb1
      clear h hfc hfr hfit hft hrd hR hG hres hlen hb1
      go_enter Tryz.func107, Tryz.ntmps107
      (repeat' (first | go_values | go_skip | go_guarded | go_step | go_upon | go_back | dsimp only))
      refine HFC.out.mono ?_
      rintro e w2 ⟨rfl, hb⟩
      have H2 := Lib.hid (H.out.mono HST.out hb)
      clear c0 c1 c2 c3 fz hlt
      obtain ⟨c0, c1, c2, c3, fz, hlt⟩ := H2.out.rw6
      clear hb H HFC
      (repeat' (first | go_values | go_skip | go_guarded | go_step | go_upon | go_back | dsimp only))
      clear c0 c1 c2 c3 fz hlt hcat hsum
      generalize x.buf ++ frameL ss = T at *
      go_loopw [10] (fun vi wr => ∃ (a n : Nat) (S1 : St), vi = .int .i64 a ∧ a ≤ T.length ∧ T.length - a < n ∧ GoodS S1 ∧ res = putL n S1 { x with buf := T.drop a } ∧ At W wr (Both (RwT k x) (Both (RefT rb S1) R))) (fun vi _ => T.length - (intOf vi).toNat)
      case atStart => exact ⟨0, T.length + 1, S, rfl, Nat.zero_le _, by omega, HG.out, HRES.out, H2.out⟩
      case round =>
        obtain ⟨a, n, S1, rfl, ha, hn, hG1, hr1, h1⟩ := hrel
        clear HRES H2 HG
        have H1 := Lib.hid h1
        have HG1 := Lib.hid hG1
        obtain ⟨c0, c1, _, _, _, hlt⟩ := h1.rw6
        obtain ⟨n, rfl⟩ : ∃ m, n = m + 1 := ⟨n - 1, by omega⟩
        by_cases hge : x.block ≤ T.length - a
        · have hge1 : ({ x with buf := T.drop a } : WrD).block ≤ ({ x with buf := T.drop a } : WrD).buf.length := by simpa using hge
          have hge2 : (x.block : Int) ≤ (T.length : Int) - a := by omega
          have happ := rAppend_one (t := (T.drop a).take x.block) h1 HR.out hG1 HRUN.out (by simp; omega)
          have hex := ex_mid T a x.block
          have hab : a + x.block ≤ T.length := by omega
          have hwr : IntKind.i64.wrap ((a : Int) + x.block) = ((a + x.block : Nat) : Int) := by rw [IntKind.wrap_i64] <;> omega
          have ha0 : (0 : Int) ≤ a := by omega
          have ha1 : (a : Int) ≤ ((a + x.block : Nat) : Int) := by omega
          have ha2 : ((a + x.block : Nat) : Int) ≤ (T.length : Int) := by omega
          have ha3 : (0 : Int) ≤ ((a + x.block : Nat) : Int) := by omega
          have ha4 : (((a + x.block : Nat) : Int)).toNat = a + x.block := by omega
          obtain ⟨ab, hab0⟩ : ∃ ab, ab = a + x.block := ⟨_, rfl⟩
          rw [← hab0] at hwr ha1 ha2 ha3 ha4 hex
          have HAB := Lib.hid hab0
          clear hab0 ha4
          have hcg := And.intro c0 c1
          by_cases hz : (appendP S1 x.run ((T.drop a).take x.block)).2 = 0
          · have hfl : flushP S1 { x with buf := T.drop a } x.block = ((appendP S1 x.run ((T.drop a).take x.block)).1, { x with buf := T.drop (a + x.block) }, 0) := by
              unfold flushP
              rw [if_pos hz]
              simp only [List.drop_drop]
            rw [putL_go hge1 (by show (flushP S1 { x with buf := T.drop a } x.block).2.2 = 0; rw [hfl])] at hr1
            rw [show flushP S1 { x with buf := T.drop a } ({ x with buf := T.drop a } : WrD).block = _ from hfl] at hr1
            dsimp only at hr1
            rw [hz] at happ
            have hg2 := hG1.append x.run ((T.drop a).take x.block)
            have HG2 := Lib.hid hg2
            have HA := Lib.hid happ
            have HR1 := Lib.hid hr1
            generalize (appendP S1 x.run ((T.drop a).take x.block)).1 = S2 at *
            clear happ hr1 hfl hz h1 hG1 hge1 HG1 H1 hg2
            go_upto_region 9 with (fail)
            go_region_held3 (fun wx => wx.cell? ⟨k, 0, none⟩ = some (.int .i64 x.run) ∧ wx.cell? ⟨k, 1, none⟩ = some (.int .i64 x.block)) (first | assumption | go_keep) (((with_reducible refine Calls.mono HA.out ?_); rintro e w3 ⟨rfl, h4⟩; have H4 := Lib.hid h4; have cg4 := And.intro h4.rw6.c0 h4.rw6.c1; have hl4 := h4.rw6.lt; clear h4))
            all_goals
              clear cg4 hcg c0 c1
              obtain ⟨_, c1, _, _, _, _⟩ := H4.out.rw6
              clear HA
              (repeat' (first | go_values | go_skip | go_guarded | go_step | go_upon | go_back | dsimp only))
              (refine ⟨?_, ?measure⟩; (repeat apply Exists.intro); refine ⟨?rel, rfl⟩)
              case rel => exact ⟨a + x.block, n, S2, by rw [HAB.out], hab, by have := HB1.out; omega, HG2.out, HR1.out, H4.out⟩
              case measure => have h1 := HB1.out; have h2 := HAB.out; simp [intOf]; omega
          · have hfl : flushP S1 { x with buf := T.drop a } x.block = ((appendP S1 x.run ((T.drop a).take x.block)).1, { x with buf := T.drop a, dead := (appendP S1 x.run ((T.drop a).take x.block)).2 }, (appendP S1 x.run ((T.drop a).take x.block)).2) := by
              unfold flushP
              rw [if_neg hz]
            rw [putL_bad hge1 (by show (flushP S1 { x with buf := T.drop a } x.block).2.2 ≠ 0; rw [hfl]; exact hz)] at hr1
            rw [show flushP S1 { x with buf := T.drop a } ({ x with buf := T.drop a } : WrD).block = _ from hfl] at hr1
            have HA := Lib.hid happ
            have HR1 := Lib.hid hr1
            generalize (appendP S1 x.run ((T.drop a).take x.block)).1 = S2 at *
            generalize (appendP S1 x.run ((T.drop a).take x.block)).2 = c at *
            have hcz : ((c : Int) == 0) = false := beq_eq_false_iff_ne.2 (by omega)
            have HZ := Lib.hid hz
            clear happ hr1 hfl h1 hG1 hge1 HG1 H1 hz
            go_upto_region 9 with (fail)
            go_region_held3 (fun wx => wx.cell? ⟨k, 0, none⟩ = some (.int .i64 x.run) ∧ wx.cell? ⟨k, 1, none⟩ = some (.int .i64 x.block)) (first | assumption | go_keep) (((with_reducible refine Calls.mono HA.out ?_); rintro e w3 ⟨rfl, h4⟩; have H4 := Lib.hid h4; have cg4 := And.intro h4.rw6.c0 h4.rw6.c1; have hl4 := h4.rw6.lt; clear h4))
            all_goals
              clear cg4 hcg c0 c1
              obtain ⟨_, _, c2, _, fz, _⟩ := H4.out.rw6
              have HEND := Lib.hid (H4.out.setDead6 ((RefT.stable _ _).both HR.out) c)
              clear HA H4
              (repeat' (first | go_values | go_skip | go_guarded | go_step | go_upon | go_back | dsimp only))
              go_ret
              rw [HR1.out]
              dsimp only
              exact ⟨rfl, { x with dead := c }, ⟨rfl, rfl, rfl, fun e => absurd e HZ.out⟩, HEND.out⟩
        · have hge1 : ¬ ({ x with buf := T.drop a } : WrD).block ≤ ({ x with buf := T.drop a } : WrD).buf.length := by simpa using hge
          have hge2 : ¬ (x.block : Int) ≤ (T.length : Int) - a := by omega
          rw [putL_end hge1] at hr1
          have HR1 := Lib.hid hr1
          clear c0
          obtain ⟨_, c1, _, c3, fz, hlt⟩ := h1.rw6
          have HEND := Lib.hid (h1.setHeld ((RefT.stable _ _).both HR.out) (T.drop a))
          have hed : (⟨T.toArray⟩ : ByteArray).extract a T.length = ⟨(T.drop a).toArray⟩ := by
            rw [Lib.extract_eq]
            congr 2
            rw [List.take_of_length_le]
            simp
          clear hr1 hge1 h1 hG1 H1 HG1
          (repeat' (first | go_values | go_skip | go_guarded | go_step | go_upon | go_back | dsimp only))
          go_ret
          rw [HR1.out]
          exact ⟨rfl, _, WSim.refl _, HEND.out⟩
  · rw [if_pos (by simpa using hd)] at hres
    have HRES := Lib.hid hres
    have hcz : ((x.dead : Int) == 0) = false := beq_eq_false_iff_ne.2 (by omega)
    clear h hrd hR hG hres
    go_enter Tryz.func107, Tryz.ntmps107
    (repeat' (first | go_values | go_skip | go_guarded | go_step | go_upon | go_back | dsimp only))
    go_ret
    rw [HRES.out]
    exact ⟨rfl, x, WSim.refl _, H.out⟩
end
section
variable {W w : World} {R : Thing} {rb k : Nat} {S : St} {x : WrD}
set_option maxRecDepth 100000 in
set_option maxHeartbeats 6400000 in
theorem rClose_at (h : At W w (Both (RwT k x) (Both (RefT rb S) R))) (hR : Stable R) (hG : GoodS S) (hrun : inI64 x.run) (hlen : x.dead = 0 → x.buf.length ≤ 1000000) :
    Calls Tryz.prog 109 #[.pointer (some ⟨rb, 0, none⟩), .pointer (some ⟨k, 0, none⟩)] w fun e w' => e = .returned (.tuple #[.int .i64 (closeP S x).2.2.1, .int .i64 (closeP S x).2.2.2]) ∧ ∃ y, WSim (closeP S x).2.1 y ∧ At W w' (Both (RwT k y) (Both (RefT rb (closeP S x).1) R)) := by
  have HRUN := Lib.hid hrun
  have HR := Lib.hid hR
  have H := Lib.hid h
  obtain ⟨res, hres⟩ : ∃ res, res = closeP S x := ⟨_, rfl⟩
  rw [← hres]
  unfold closeP at hres
  obtain ⟨c0, c1, c2, c3, fz, hlt⟩ := h.rw6
  by_cases hd : x.dead = 0
  · have hlen := hlen hd
    rw [if_neg (by simpa using hd)] at hres
    by_cases hb0 : x.buf = []
    · have hre : restP S x = (S, x, 0) := if_pos hb0
      rw [hre] at hres
      dsimp only at hres
      rw [if_neg (by simp)] at hres
      rw [hb0] at c3
      have HG1 := Lib.hid hG
      clear h hG hb0 hre hlen
      go_enter Tryz.func109, Tryz.ntmps109
      have hseal := (rSeal_at H.out.swap ((RwT.stable _ _).both HR.out) HG1.out HRUN.out).mono (fun e w' (h' : _ ∧ _) => (⟨h'.1, h'.2.swap⟩ : e = .returned (.int .i64 (sealP S x.run).2) ∧ At W w' (Both (RwT k x) (Both (RefT rb (sealP S x.run).1) R))))
      by_cases hs : (sealP S x.run).2 = 0
      · rw [if_neg (by simpa using hs)] at hres
        rw [hs] at hseal
        have HSEAL := Lib.hid hseal
        have HRES := Lib.hid hres
        clear hseal hs hres
        (repeat' (first | go_values | go_skip | go_guarded | go_step | go_upon | go_back | dsimp only))
        refine HSEAL.out.mono ?_
        rintro e w5 ⟨rfl, h5⟩
        obtain ⟨d0, _, d2, _, fz5, hlt5⟩ := h5.rw6
        have HEND := Lib.hid (h5.setDead6 ((RefT.stable _ _).both HR.out) 13)
        clear h5 HSEAL
        (repeat' (first | go_values | go_skip | go_guarded | go_step | go_upon | go_back | dsimp only))
        go_ret2
        rw [HRES.out]
        exact ⟨rfl, _, ⟨rfl, rfl, rfl, fun e => absurd e (show ¬ (13 : Nat) = 0 by decide)⟩, HEND.out⟩
      · rw [if_pos (by simpa using hs)] at hres
        generalize hcc : (sealP S x.run).2 = c at *
        have hcz : ((c : Int) == 0) = false := beq_eq_false_iff_ne.2 (by omega)
        have HZ := Lib.hid hs
        have HSEAL := Lib.hid hseal
        have HRES := Lib.hid hres
        clear hseal hs hres hcc
        (repeat' (first | go_values | go_skip | go_guarded | go_step | go_upon | go_back | dsimp only))
        refine HSEAL.out.mono ?_
        rintro e w5 ⟨rfl, h5⟩
        obtain ⟨d0, _, d2, _, fz5, hlt5⟩ := h5.rw6
        have HEND := Lib.hid (h5.setDead6 ((RefT.stable _ _).both HR.out) c)
        clear h5 HSEAL
        (repeat' (first | go_values | go_skip | go_guarded | go_step | go_upon | go_back | dsimp only))
        go_ret2
        rw [HRES.out]
        exact ⟨rfl, _, ⟨rfl, rfl, rfl, fun e => absurd e HZ.out⟩, HEND.out⟩
    · have hre : restP S x = flushP S x x.buf.length := if_neg hb0
      have happ := rAppend_one (t := x.buf) h hR hG hrun hlen
      have hl0 : 0 < x.buf.length := List.length_pos_iff.2 hb0
      have hg2 := hG.append x.run x.buf
      have hcg := And.intro c0 c3
      by_cases hz : (appendP S x.run x.buf).2 = 0
      · have hfl : flushP S x x.buf.length = ((appendP S x.run x.buf).1, { x with buf := [] }, 0) := by
          unfold flushP
          rw [List.take_length, if_pos hz, List.drop_length]
        rw [hre, hfl] at hres
        dsimp only at hres
        rw [if_neg (by simp)] at hres
        rw [hz] at happ
        have HG1 := Lib.hid hg2
        have HA := Lib.hid happ
        generalize (appendP S x.run x.buf).1 = S2 at *
        have HRESA := Lib.hid hres
        clear h hG hb0 hre hlen happ hfl hz hg2 hres
        go_enter Tryz.func109, Tryz.ntmps109
        go_upto_region 4 with (fail)
        go_region_held3 (fun wx => wx.cell? ⟨k, 0, none⟩ = some (.int .i64 x.run) ∧ wx.cell? ⟨k, 3, none⟩ = some (.string ⟨x.buf.toArray⟩)) (first | assumption | go_keep) (((with_reducible refine Calls.mono HA.out ?_); rintro e w3 ⟨rfl, h4⟩; have H4 := Lib.hid h4; have cg4 := And.intro h4.rw6.c0 h4.rw6.c3; have hl4 := h4.rw6.lt; clear h4))
        all_goals
          clear cg4 hcg c0 c1 c2 c3 fz hl4 hlt
          obtain ⟨_, _, _, c3, fz, hlt⟩ := H4.out.rw6
          have H5 := Lib.hid (H4.out.setHeld ((RefT.stable _ _).both HR.out) [])
          clear HA
          obtain ⟨c0, _, _, _, _, _⟩ := H5.out.rw6
          have hres := HRESA.out
          clear HRESA
          have hseal := (rSeal_at H5.out.swap ((RwT.stable _ _).both HR.out) HG1.out HRUN.out).mono (fun e w' (h' : _ ∧ _) => (⟨h'.1, h'.2.swap⟩ : e = .returned (.int .i64 (sealP S2 x.run).2) ∧ At W w' (Both (RwT k { x with buf := [] }) (Both (RefT rb (sealP S2 x.run).1) R))))
          by_cases hs : (sealP S2 x.run).2 = 0
          · rw [if_neg (by simpa using hs)] at hres
            rw [hs] at hseal
            have HSEAL := Lib.hid hseal
            have HRES := Lib.hid hres
            clear hseal hs hres
            (repeat' (first | go_values | go_skip | go_guarded | go_step | go_upon | go_back | dsimp only))
            refine HSEAL.out.mono ?_
            rintro e w5 ⟨rfl, h5⟩
            obtain ⟨d0, _, d2, _, fz5, hlt5⟩ := h5.rw6
            have HEND := Lib.hid (h5.setDead6 ((RefT.stable _ _).both HR.out) 13)
            clear h5 HSEAL
            (repeat' (first | go_values | go_skip | go_guarded | go_step | go_upon | go_back | dsimp only))
            go_ret2
            rw [HRES.out]
            exact ⟨rfl, _, ⟨rfl, rfl, rfl, fun e => absurd e (show ¬ (13 : Nat) = 0 by decide)⟩, HEND.out⟩
          · rw [if_pos (by simpa using hs)] at hres
            generalize hcc : (sealP S2 x.run).2 = c at *
            have hcz : ((c : Int) == 0) = false := beq_eq_false_iff_ne.2 (by omega)
            have HZ := Lib.hid hs
            have HSEAL := Lib.hid hseal
            have HRES := Lib.hid hres
            clear hseal hs hres hcc
            (repeat' (first | go_values | go_skip | go_guarded | go_step | go_upon | go_back | dsimp only))
            refine HSEAL.out.mono ?_
            rintro e w5 ⟨rfl, h5⟩
            obtain ⟨d0, _, d2, _, fz5, hlt5⟩ := h5.rw6
            have HEND := Lib.hid (h5.setDead6 ((RefT.stable _ _).both HR.out) c)
            clear h5 HSEAL
            (repeat' (first | go_values | go_skip | go_guarded | go_step | go_upon | go_back | dsimp only))
            go_ret2
            rw [HRES.out]
            exact ⟨rfl, _, ⟨rfl, rfl, rfl, fun e => absurd e HZ.out⟩, HEND.out⟩
      · have hfl : flushP S x x.buf.length = ((appendP S x.run x.buf).1, { x with dead := (appendP S x.run x.buf).2 }, (appendP S x.run x.buf).2) := by
          unfold flushP
          rw [List.take_length, if_neg hz]
        rw [hre, hfl] at hres
        dsimp only at hres
        rw [if_pos hz] at hres
        have HA := Lib.hid happ
        generalize (appendP S x.run x.buf).1 = S2 at *
        generalize (appendP S x.run x.buf).2 = c at *
        have hcz : ((c : Int) == 0) = false := beq_eq_false_iff_ne.2 (by omega)
        have HZ := Lib.hid hz
        have HRES := Lib.hid hres
        clear h hG hb0 hre hlen happ hfl hz hg2 hres
        go_enter Tryz.func109, Tryz.ntmps109
        go_upto_region 4 with (fail)
        go_region_held3 (fun wx => wx.cell? ⟨k, 0, none⟩ = some (.int .i64 x.run) ∧ wx.cell? ⟨k, 3, none⟩ = some (.string ⟨x.buf.toArray⟩)) (first | assumption | go_keep) (((with_reducible refine Calls.mono HA.out ?_); rintro e w3 ⟨rfl, h4⟩; have H4 := Lib.hid h4; have cg4 := And.intro h4.rw6.c0 h4.rw6.c3; have hl4 := h4.rw6.lt; clear h4))
        all_goals
          clear cg4 hcg c0 c1 c2 c3 fz hl4 hlt
          obtain ⟨_, _, c2, _, fz, hlt⟩ := H4.out.rw6
          have HEND := Lib.hid (H4.out.setDead6 ((RefT.stable _ _).both HR.out) c)
          clear HA H4
          (repeat' (first | go_values | go_skip | go_guarded | go_step | go_upon | go_back | dsimp only))
          go_ret2
          rw [HRES.out]
          exact ⟨rfl, _, ⟨rfl, rfl, rfl, fun e => absurd e HZ.out⟩, HEND.out⟩
  · rw [if_pos (by simpa using hd)] at hres
    have HRES := Lib.hid hres
    have HST := Lib.hid ((RwT.stable k x).both ((RefT.stable rb S).both hR))
    have hcz : ((x.dead : Int) == 0) = false := beq_eq_false_iff_ne.2 (by omega)
    clear h hR hG hres
    go_enter Tryz.func109, Tryz.ntmps109
    (repeat' (first | go_values | go_skip | go_guarded | go_step | go_upon | go_back | dsimp only))
    go_quiet (fail)
    (repeat' (first | go_values | go_skip | go_guarded | go_step | go_upon | go_back | dsimp only))
    go_ret2
    rw [HRES.out]
    exact ⟨rfl, x, WSim.refl _, H.out.mono HST.out ⟨rfl, rfl, rfl, Nat.le_refl _, fun _ _ => rfl⟩⟩
end
def One (S : St) : Prop := GoodS S ∧ ∃ r, S.runs = [(1, r)]
theorem One.find {S : St} (h : One S) : ∃ r, S.runs = [(1, r)] ∧ S.find ((1 : Nat) : Int) = some (1, r) := by
  obtain ⟨_, r, hr⟩ := h
  exact ⟨r, hr, by simp [St.find, hr]⟩
theorem One.with {S : St} (h : One S) {f : Nat × RunD → St × Nat} (hf : ∀ r, S.runs = [(1, r)] → ∃ r', (f (1, r)).1.runs = [(1, r')]) : ∃ r', (withRun S ((1 : Nat) : Int) f).1.runs = [(1, r')] := by
  obtain ⟨r, hr, hfd⟩ := h.find
  unfold withRun
  rw [hfd]
  split
  · exact ⟨r, hr⟩
  · dsimp only
    split
    · exact ⟨r, hr⟩
    · exact hf r hr
theorem One.append {S : St} (h : One S) (t : List UInt8) : One (appendP S ((1 : Nat) : Int) t).1 := by
  refine ⟨h.1.append _ t, h.with fun r hr => ?_⟩
  split
  · exact ⟨r, hr⟩
  · exact ⟨_, by simp [grownS, stepS, St.setRun, hr]; rfl⟩
theorem One.seal {S : St} (h : One S) : One (sealP S ((1 : Nat) : Int)).1 := by
  refine ⟨h.1.seal _, h.with fun r hr => ?_⟩
  exact ⟨_, by simp [stepS, St.setRun, hr]; rfl⟩
structure OkW (B : Nat) (x : WrD) : Prop where
  run : x.run = 1
  block : x.block = B
  code : okC x.dead
  open_ : x.dead ≠ 13
  alive : x.dead = 0 → x.buf.length < B
  small : x.buf.length ≤ 100000
theorem WSim.trans {x y z : WrD} (h : WSim x y) (k : WSim y z) : WSim x z :=
  ⟨k.run.trans h.run, k.block.trans h.block, k.dead.trans h.dead, fun e => (k.buf (by rw [h.dead]; exact e)).trans (h.buf e)⟩
section
variable {W w : World} {R : Thing} {b rb : Nat} {ef : Nat → Nat × Nat} {S : St}
end
end Go.Proofs.YtadokkffmekndaaGreatDoor
