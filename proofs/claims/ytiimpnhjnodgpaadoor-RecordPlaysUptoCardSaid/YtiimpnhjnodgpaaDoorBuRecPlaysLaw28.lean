/- hornbookref06: the document's writer walked: Open, Drop, Put, Close. · record.From refused; the document's Open at a bad block. · RecordDrops: what a writer does to a store that holds its run alone. · A script's state over one store, writers and readers: what stays true of it; no program in sight. · records: an argument '[]Op', opened. -/
import Derived.Test.YtiimpnhjnodgpaaDoorBuRecPlaysLaw24
import Derived.Test.YtiimpnhjnodgpaaDoorBuRecPlaysLaw27
import Derived.Test.YtiimpnhjnodgpaaDoorBuRecPlaysLaw20
import Derived.Test.YtiimpnhjnodgpaaDoorBuRecPlaysLaw23
import Derived.Test.YtiimpnhjnodgpaaDoorBuRecPlaysLaw21
import Derived.Test.YtiimpnhjnodgpaaDoorBuRecPlaysLaw25
import Derived.Test.YtiimpnhjnodgpaaDoorBuRecPlaysLaw11
set_option linter.unusedSimpArgs false
set_option linter.unusedVariables false
namespace Go.Proofs.YtiimpnhjnodgpaaDoor
open Go.RowKit

abbrev tRw : TypeId := 137
abbrev rwCells (x : WrD) : Array Value := #[.int .i64 x.run, .int .i64 x.block, .int .i64 x.dead, .string ⟨x.buf.toArray⟩]
/-- The document's writer. -/
def RwT (k : Nat) (x : WrD) : Thing := CellT k (rwCells x) tRw
theorem RwT.stable (k : Nat) (x : WrD) : Stable (RwT k x) := CellT.stable _ _ _
structure RwFacts (w : World) (k : Nat) (x : WrD) : Prop where
  c0 : w.cell? ⟨k, 0, none⟩ = some (.int .i64 x.run)
  c1 : w.cell? ⟨k, 1, none⟩ = some (.int .i64 x.block)
  c2 : w.cell? ⟨k, 2, none⟩ = some (.int .i64 x.dead)
  c3 : w.cell? ⟨k, 3, none⟩ = some (.string ⟨x.buf.toArray⟩)
  fz : ∀ j, w.frozen? ⟨k, j, none⟩ = false
  lt : k < w.heap.size
section
variable {W w : World} {R : Thing} {rb k : Nat} {S : St} {x : WrD}
theorem At.rw6 (h : At W w (Both (RwT k x) R)) : RwFacts w k x := by
  have h1 := (show At W w (Both (CellT k (rwCells x) tRw) R) from h).cell.1
  exact ⟨cell_at h1 0, cell_at h1 1, cell_at h1 2, cell_at h1 3, thaw_at h1, lt_of_heap h1⟩
theorem At.setHeld (h : At W w (Both (RwT k x) R)) (hR : Stable R) (t : List UInt8) : At W (w.setCell ⟨k, 3, none⟩ (.string ⟨t.toArray⟩)) (Both (RwT k { x with buf := t }) R) :=
  (show At W w (Both (CellT k (rwCells x) tRw) R) from h).setCell hR 3 (.string ⟨t.toArray⟩)
theorem At.setDead6 (h : At W w (Both (RwT k x) R)) (hR : Stable R) (c : Nat) : At W (w.setCell ⟨k, 2, none⟩ (.int .i64 c)) (Both (RwT k { x with dead := c }) R) :=
  (show At W w (Both (CellT k (rwCells x) tRw) R) from h).setCell hR 2 (.int .i64 c)
/-- The same run, the same block, dead of the same; what is held is alike while alive. -/
structure WSim (x y : WrD) : Prop where
  run : y.run = x.run
  block : y.block = x.block
  dead : y.dead = x.dead
  buf : x.dead = 0 → y.buf = x.buf
theorem WSim.refl (x : WrD) : WSim x x := ⟨rfl, rfl, rfl, fun _ => rfl⟩
theorem WSim.eq {x y : WrD} (h : WSim x y) (hd : x.dead = 0) : y = x := by
  have h1 := h.run
  have h2 := h.block
  have h3 := h.dead
  have h4 := h.buf hd
  cases x
  cases y
  simp only at h1 h2 h3 h4
  subst h1 h2 h3 h4
  rfl

set_option maxRecDepth 100000 in
set_option maxHeartbeats 3200000 in
theorem rDrop_at (h : At W w (Both (RwT k x) (Both (RefT rb S) R))) (hR : Stable R) (hG : GoodS S) (hrun : inI64 x.run) :
    Calls Tryd.prog 64 #[.pointer (some ⟨rb, 0, none⟩), .pointer (some ⟨k, 0, none⟩)] w fun e w' => e = .returned (.tuple #[]) ∧ At W w' (Both (RwT k (dropP S x).2) (Both (RefT rb (dropP S x).1) R)) := by
  obtain ⟨c0, c1, c2, c3, fz, hlt⟩ := h.rw6
  unfold dropP
  by_cases h13 : x.dead = 13
  · have hq : ((x.dead : Int) == 13) = true := by rw [h13]; rfl
    rw [if_pos h13]
    have H := Lib.hid h
    clear h hR hG h13
    go_enter Tryd.func64, Tryd.ntmps64
    (repeat' (first | (go_big_may; fail) | go_values | go_skip | go_guarded | go_step | go_upon | go_back | dsimp only))
    refine bodyPost_ret (results_none rfl _ _ _) rfl ?_
    exact ⟨rfl, H.out⟩
  · have hq : ((x.dead : Int) == 13) = false := beq_eq_false_iff_ne.2 (by omega)
    rw [if_neg h13]
    have HRM := Lib.hid (rRemove_at h.swap ((RwT.stable k x).both hR) hG hrun)
    have HST := Lib.hid ((RefT.stable rb (removeP S x.run).1).both hR)
    clear h hR hG h13
    go_enter Tryd.func64, Tryd.ntmps64
    (repeat' (first | (go_big_may; fail) | go_values | go_skip | go_guarded | go_step | go_upon | go_back | dsimp only))
    refine HRM.out.mono ?_
    rintro e w1 ⟨rfl, h1⟩
    have h2 := h1.swap
    obtain ⟨_, _, d2, _, fz1, hlt1⟩ := h2.rw6
    have fz2 := fz1 2
    have H3 := Lib.hid (h2.setDead6 HST.out 13)
    clear h1 h2
    (repeat' (first | (go_big_may; fail) | go_values | go_skip | go_guarded | go_step | go_upon | go_back | dsimp only))
    go_end0
    exact ⟨rfl, H3.out⟩
set_option maxRecDepth 100000 in
set_option maxHeartbeats 3200000 in
theorem rOpen_ok (h : At W w (Both (RefT rb S) R)) (hR : Stable R) (hG : GoodS S) {n : Nat} (hn : 1 ≤ n ∧ n ≤ 4096) (hc : (createP S).2.2 = 0) :
    Calls Tryd.prog 32 #[.pointer (some ⟨rb, 0, none⟩), .int .i64 n] w fun e w' => ∃ k, e = .returned (.tuple #[.pointer (some ⟨k, 0, none⟩), .int .i64 0]) ∧ At W w' (Both (RwT k ⟨(createP S).2.1, n, [], 0⟩) (Both (RefT rb (createP S).1) R)) := by
  have hcr := rCreate_at h hR hG
  rw [hc] at hcr
  have HCR := Lib.hid hcr
  have h1 : ¬ (n : Int) < 1 := by omega
  have h2 : ¬ 4096 < (n : Int) := by omega
  generalize (createP S).2.1 = r at *
  have HST := Lib.hid ((RefT.stable rb (createP S).1).both hR)
  clear h hR hG hc hcr hn
  go_enter Tryd.func32, Tryd.ntmps32
  (repeat' (first | (go_big_may; fail) | go_values | go_skip | go_guarded | go_step | go_upon | go_back | dsimp only))
  refine HCR.out.mono ?_
  rintro e w1 ⟨rfl, h1⟩
  have hnew := h1.newCell HST.out (rwCells ⟨r, n, [], 0⟩) tRw
  have HN := Lib.hid hnew
  clear h1 hnew
  (repeat' (first | (go_big_may; fail) | go_values | go_skip | go_guarded | go_step | go_upon | go_back | dsimp only))
  go_ret2
  exact ⟨_, rfl, HN.out⟩
set_option maxRecDepth 100000 in
set_option maxHeartbeats 3200000 in
theorem rOpen_fail (h : At W w (Both (RefT rb S) R)) (hR : Stable R) (hG : GoodS S) {n : Nat} (hn : 1 ≤ n ∧ n ≤ 4096) (hc : (createP S).2.2 ≠ 0) :
    Calls Tryd.prog 32 #[.pointer (some ⟨rb, 0, none⟩), .int .i64 n] w fun e w' => e = .returned (.tuple #[.pointer none, .int .i64 (createP S).2.2]) ∧ At W w' (Both (RefT rb (createP S).1) R) := by
  have HCR := Lib.hid (rCreate_at h hR hG)
  have h1 : ¬ (n : Int) < 1 := by omega
  have h2 : ¬ 4096 < (n : Int) := by omega
  have h3 : (((createP S).2.2 : Int) == 0) = false := beq_eq_false_iff_ne.2 (by omega)
  have h4 : (((createP S).2.2 : Int) != 0) = true := by simp; omega
  generalize (createP S).2.1 = r at *
  generalize (createP S).2.2 = c at *
  clear h hR hG hc hn
  go_enter Tryd.func32, Tryd.ntmps32
  (repeat' (first | (go_big_may; fail) | go_values | go_skip | go_guarded | go_step | go_upon | go_back | dsimp only))
  refine HCR.out.mono ?_
  rintro e w1 ⟨rfl, h1⟩
  have H1 := Lib.hid h1
  clear h1
  (repeat' (first | (go_big_may; fail) | go_values | go_skip | go_guarded | go_step | go_upon | go_back | dsimp only))
  go_ret2
  exact ⟨rfl, H1.out⟩
end

theorem At.newLit6 {W w : World} {Φ : Thing} (h : At W w Φ) (hs : Stable Φ) (e : TypeId) (v : Value) : At W (w.alloc (.cells #[v] e)) (Both (RowG e 1 (.slice (some ⟨w.heap.size, 0, none⟩) 1 1) 1 [v]) Φ) :=
  h.newRowG hs ((Below.refl _ _).alloc (Nat.le_refl _) _) ⟨rfl, .inr ⟨w.heap.size, 1, #[v], rfl, Nat.le_refl _, heap_alloc_new _ _, Nat.le_refl _, by unfold maxLen; omega, rfl, rfl⟩⟩
theorem ex_mid (t : List UInt8) (a n : Nat) : (⟨t.toArray⟩ : ByteArray).extract a (a + n) = ⟨((t.drop a).take n).toArray⟩ := by
  rw [Lib.extract_eq]
  simp
theorem putL_go {n : Nat} {S : St} {x : WrD} (h : x.block ≤ x.buf.length) (hz : (flushP S x x.block).2.2 = 0) : putL (n + 1) S x = putL n (flushP S x x.block).1 (flushP S x x.block).2.1 := by
  rw [putL, if_pos h, if_pos hz]
theorem putL_bad {n : Nat} {S : St} {x : WrD} (h : x.block ≤ x.buf.length) (hz : (flushP S x x.block).2.2 ≠ 0) : putL (n + 1) S x = flushP S x x.block := by
  rw [putL, if_pos h, if_neg hz]
theorem putL_end {n : Nat} {S : St} {x : WrD} (h : ¬ x.block ≤ x.buf.length) : putL (n + 1) S x = (S, x, 0) := by
  rw [putL, if_neg h]
section
variable {W w : World} {R : Thing} {rb k : Nat} {S : St} {x : WrD}
/-- The document's Append of one text that is laid for it. -/
theorem rAppend_one (h : At W w (Both (RwT k x) (Both (RefT rb S) R))) (hR : Stable R) (hG : GoodS S) {z : Int} (hz : inI64 z) {t : List UInt8} (ht : t.length ≤ 1000000) :
    Calls Tryd.prog 65 #[.pointer (some ⟨rb, 0, none⟩), .int .i64 z, .slice (some ⟨w.heap.size, 0, none⟩) 1 1] (w.alloc (.cells #[.string ⟨t.toArray⟩] 9)).drew fun e w' => e = .returned (.int .i64 (appendP S z t).2) ∧ At W w' (Both (RwT k x) (Both (RefT rb (appendP S z t).1) R)) := by
  have hst := (RwT.stable k x).both ((RefT.stable rb S).both hR)
  have h2 := (h.newLit6 hst 9 (.string ⟨t.toArray⟩)).mono ((RowG.stable _ _ _ _ _).both hst) (show Below _ _ (w.alloc (.cells #[.string ⟨t.toArray⟩] 9)).drew from ⟨rfl, rfl, rfl, Nat.le_refl _, fun _ _ => rfl⟩)
  have h3 := h2.pull3
  have ha := rAppend_atR (ss := [t]) (v := .slice (some ⟨w.heap.size, 0, none⟩) 1 1) h3 ((RowG.stable _ _ _ _ _).both ((RwT.stable k x).both hR)) hG hz (fun w' h' => RdRow.of_own h'.rowG) (by simp [cat]; omega)
  have e : cat [t] = t := by simp [cat]
  rw [e] at ha
  exact ha.mono fun e w' ⟨he, h'⟩ => ⟨he, h'.swap.drop.swap⟩

set_option maxRecDepth 100000 in
set_option maxHeartbeats 6400000 in
theorem rPut_at (h : At W w (Both (RwT k x) (Both (RefT rb S) R))) (hR : Stable R) (hG : GoodS S) (hb1 : 1 ≤ x.block) (hb2 : x.block ≤ 4096) (hrun : inI64 x.run) {v : Value} {ss : List (List UInt8)} (hrd : RdRow w v ss.length 1 (strs ss)) (hlen : x.dead = 0 → x.buf.length + (frameL ss).length ≤ 1099511627776) :
    Calls Tryd.prog 60 #[.pointer (some ⟨rb, 0, none⟩), .pointer (some ⟨k, 0, none⟩), v] w fun e w' => e = .returned (.int .i64 (putP S x ss).2.2) ∧ ∃ y, WSim (putP S x ss).2.1 y ∧ At W w' (Both (RwT k y) (Both (RefT rb (putP S x ss).1) R)) := by
  have HST := Lib.hid ((RwT.stable k x).both ((RefT.stable rb S).both hR))
  have HRUN := Lib.hid hrun
  have HR := Lib.hid hR
  have H := Lib.hid h
  have HG := Lib.hid hG
  obtain ⟨res, hres⟩ : ∃ res, res = putP S x ss := ⟨_, rfl⟩
  rw [← hres]
  unfold putP at hres
  obtain ⟨c0, c1, c2, c3, fz, hlt⟩ := h.rw6
  by_cases hd : x.dead = 0
  · have hlen := hlen hd
    rw [if_neg (by simpa using hd)] at hres
    by_cases hfit : fits ss = false
    · rw [if_pos hfit] at hres
      have hfr : frameR ss = ([], 62) := by unfold frameR; rw [hfit]; rfl
      have hfc := refFrame_calls ss v w hrd (by omega)
      rw [hfr] at hfc
      have HFC := Lib.hid hfc
      have HRES := Lib.hid hres
      clear h hfc hfr hfit hrd hR hG hres
      go_enter Tryd.func60, Tryd.ntmps60
      (repeat' (first | (go_big_may; fail) | go_values | go_skip | go_guarded | go_step | go_upon | go_back | dsimp only))
      refine HFC.out.mono ?_
      rintro e w2 ⟨rfl, hb⟩
      have H2 := Lib.hid (H.out.mono HST.out hb)
      clear hb
      (repeat' (first | (go_big_may; fail) | go_values | go_skip | go_guarded | go_step | go_upon | go_back | dsimp only))
      go_ret
      rw [HRES.out]
      exact ⟨rfl, x, WSim.refl _, H2.out⟩
    · rw [if_neg hfit] at hres
      have hft : fits ss = true := by simpa using hfit
      have hfr : frameR ss = (frameL ss, 0) := by unfold frameR; rw [hft]; rfl
      have hfc := refFrame_calls ss v w hrd (by omega)
      rw [hfr] at hfc
      have HFC := Lib.hid hfc
      have hcat : (⟨x.buf.toArray⟩ : ByteArray) ++ ⟨(frameL ss).toArray⟩ = ⟨(x.buf ++ frameL ss).toArray⟩ := by
        apply ByteArray.ext
        simp [ByteArray.data_append]
      have hsum : ¬ 9223372036854775807 < x.buf.length + (frameL ss).length := by omega
      have hAl : (x.buf ++ frameL ss).length ≤ 1099511627776 := by rw [List.length_append]; exact hlen
      have HRES := Lib.hid hres
      have HB1 := Lib.hid hb1
      clear h hfc hfr hfit hft hrd hR hG hres hlen hb1
      go_enter Tryd.func60, Tryd.ntmps60
      (repeat' (first | (go_big_may; fail) | go_values | go_skip | go_guarded | go_step | go_upon | go_back | dsimp only))
      refine HFC.out.mono ?_
      rintro e w2 ⟨rfl, hb⟩
      have H2 := Lib.hid (H.out.mono HST.out hb)
      clear c0 c1 c2 c3 fz hlt
      obtain ⟨c0, c1, c2, c3, fz, hlt⟩ := H2.out.rw6
      clear hb H HFC
      (repeat' (first | (go_big_may; fail) | go_values | go_skip | go_guarded | go_step | go_upon | go_back | dsimp only))
      clear c0 c1 c2 c3 fz hlt hcat hsum
      generalize x.buf ++ frameL ss = T at *
      go_loopw [10] (fun vi wr => ∃ (a n : Nat) (S1 : St), vi = .int .i64 a ∧ a ≤ T.length ∧ T.length - a < n ∧ GoodS S1 ∧ res = putL n S1 { x with buf := T.drop a } ∧ At W wr (Both (RwT k x) (Both (RefT rb S1) R))) (fun vi _ => T.length - (intOf vi).toNat)
      case atStart => exact ⟨0, T.length + 1, S, rfl, Nat.zero_le _, by omega, HG.out, HRES.out, H2.out⟩
      case round =>
        obtain ⟨a, n, S1, rfl, ha, hn, hG1, hr1, h1⟩ := hrel
        clear HRES H2 HG
        have H1 := Lib.hid h1
        have HG1 := Lib.hid hG1
        obtain ⟨c0, c1, _, _, _, hlt⟩ := h1.rw6
        obtain ⟨n, rfl⟩ : ∃ m, n = m + 1 := ⟨n - 1, by omega⟩
        by_cases hge : x.block ≤ T.length - a
        · have hge1 : ({ x with buf := T.drop a } : WrD).block ≤ ({ x with buf := T.drop a } : WrD).buf.length := by simpa using hge
          have hge2 : (x.block : Int) ≤ (T.length : Int) - a := by omega
          have happ := rAppend_one (t := (T.drop a).take x.block) h1 HR.out hG1 HRUN.out (by simp; omega)
          have hex := ex_mid T a x.block
          have hab : a + x.block ≤ T.length := by omega
          have hwr : IntKind.i64.wrap ((a : Int) + x.block) = ((a + x.block : Nat) : Int) := by rw [IntKind.wrap_i64] <;> omega
          have ha0 : (0 : Int) ≤ a := by omega
          have ha1 : (a : Int) ≤ ((a + x.block : Nat) : Int) := by omega
          have ha2 : ((a + x.block : Nat) : Int) ≤ (T.length : Int) := by omega
          have ha3 : (0 : Int) ≤ ((a + x.block : Nat) : Int) := by omega
          have ha4 : (((a + x.block : Nat) : Int)).toNat = a + x.block := by omega
          obtain ⟨ab, hab0⟩ : ∃ ab, ab = a + x.block := ⟨_, rfl⟩
          rw [← hab0] at hwr ha1 ha2 ha3 ha4 hex
          have HAB := Lib.hid hab0
          clear hab0 ha4
          have hcg := And.intro c0 c1
          by_cases hz : (appendP S1 x.run ((T.drop a).take x.block)).2 = 0
          · have hfl : flushP S1 { x with buf := T.drop a } x.block = ((appendP S1 x.run ((T.drop a).take x.block)).1, { x with buf := T.drop (a + x.block) }, 0) := by
              unfold flushP
              rw [if_pos hz]
              simp only [List.drop_drop]
            rw [putL_go hge1 (by show (flushP S1 { x with buf := T.drop a } x.block).2.2 = 0; rw [hfl])] at hr1
            rw [show flushP S1 { x with buf := T.drop a } ({ x with buf := T.drop a } : WrD).block = _ from hfl] at hr1
            dsimp only at hr1
            rw [hz] at happ
            have hg2 := hG1.append x.run ((T.drop a).take x.block)
            have HG2 := Lib.hid hg2
            have HA := Lib.hid happ
            have HR1 := Lib.hid hr1
            generalize (appendP S1 x.run ((T.drop a).take x.block)).1 = S2 at *
            clear happ hr1 hfl hz h1 hG1 hge1 HG1 H1 hg2
            go_upto_region 9 with (fail)
            go_region_held3 (fun wx => wx.cell? ⟨k, 0, none⟩ = some (.int .i64 x.run) ∧ wx.cell? ⟨k, 1, none⟩ = some (.int .i64 x.block)) (first | assumption | go_keep) (((with_reducible refine Calls.mono HA.out ?_); rintro e w3 ⟨rfl, h4⟩; have H4 := Lib.hid h4; have cg4 := And.intro h4.rw6.c0 h4.rw6.c1; have hl4 := h4.rw6.lt; clear h4))
            all_goals
              clear cg4 hcg c0 c1
              obtain ⟨_, c1, _, _, _, _⟩ := H4.out.rw6
              clear HA
              (repeat' (first | (go_big_may; fail) | go_values | go_skip | go_guarded | go_step | go_upon | go_back | dsimp only))
              (refine ⟨?_, ?measure⟩; (repeat apply Exists.intro); refine ⟨?rel, rfl⟩)
              case rel => exact ⟨a + x.block, n, S2, by rw [HAB.out], hab, by have := HB1.out; omega, HG2.out, HR1.out, H4.out⟩
              case measure => have h1 := HB1.out; have h2 := HAB.out; simp [intOf]; omega
          · have hfl : flushP S1 { x with buf := T.drop a } x.block = ((appendP S1 x.run ((T.drop a).take x.block)).1, { x with buf := T.drop a, dead := (appendP S1 x.run ((T.drop a).take x.block)).2 }, (appendP S1 x.run ((T.drop a).take x.block)).2) := by
              unfold flushP
              rw [if_neg hz]
            rw [putL_bad hge1 (by show (flushP S1 { x with buf := T.drop a } x.block).2.2 ≠ 0; rw [hfl]; exact hz)] at hr1
            rw [show flushP S1 { x with buf := T.drop a } ({ x with buf := T.drop a } : WrD).block = _ from hfl] at hr1
            have HA := Lib.hid happ
            have HR1 := Lib.hid hr1
            generalize (appendP S1 x.run ((T.drop a).take x.block)).1 = S2 at *
            generalize (appendP S1 x.run ((T.drop a).take x.block)).2 = c at *
            have hcz : ((c : Int) == 0) = false := beq_eq_false_iff_ne.2 (by omega)
            have HZ := Lib.hid hz
            clear happ hr1 hfl h1 hG1 hge1 HG1 H1 hz
            go_upto_region 9 with (fail)
            go_region_held3 (fun wx => wx.cell? ⟨k, 0, none⟩ = some (.int .i64 x.run) ∧ wx.cell? ⟨k, 1, none⟩ = some (.int .i64 x.block)) (first | assumption | go_keep) (((with_reducible refine Calls.mono HA.out ?_); rintro e w3 ⟨rfl, h4⟩; have H4 := Lib.hid h4; have cg4 := And.intro h4.rw6.c0 h4.rw6.c1; have hl4 := h4.rw6.lt; clear h4))
            all_goals
              clear cg4 hcg c0 c1
              obtain ⟨_, _, c2, _, fz, _⟩ := H4.out.rw6
              have HEND := Lib.hid (H4.out.setDead6 ((RefT.stable _ _).both HR.out) c)
              clear HA H4
              (repeat' (first | (go_big_may; fail) | go_values | go_skip | go_guarded | go_step | go_upon | go_back | dsimp only))
              go_ret
              rw [HR1.out]
              dsimp only
              exact ⟨rfl, { x with dead := c }, ⟨rfl, rfl, rfl, fun e => absurd e HZ.out⟩, HEND.out⟩
        · have hge1 : ¬ ({ x with buf := T.drop a } : WrD).block ≤ ({ x with buf := T.drop a } : WrD).buf.length := by simpa using hge
          have hge2 : ¬ (x.block : Int) ≤ (T.length : Int) - a := by omega
          rw [putL_end hge1] at hr1
          have HR1 := Lib.hid hr1
          clear c0
          obtain ⟨_, c1, _, c3, fz, hlt⟩ := h1.rw6
          have HEND := Lib.hid (h1.setHeld ((RefT.stable _ _).both HR.out) (T.drop a))
          have hed : (⟨T.toArray⟩ : ByteArray).extract a T.length = ⟨(T.drop a).toArray⟩ := by
            rw [Lib.extract_eq]
            congr 2
            rw [List.take_of_length_le]
            simp
          clear hr1 hge1 h1 hG1 H1 HG1
          (repeat' (first | (go_big_may; fail) | go_values | go_skip | go_guarded | go_step | go_upon | go_back | dsimp only))
          go_ret
          rw [HR1.out]
          exact ⟨rfl, _, WSim.refl _, HEND.out⟩
  · rw [if_pos (by simpa using hd)] at hres
    have HRES := Lib.hid hres
    have hcz : ((x.dead : Int) == 0) = false := beq_eq_false_iff_ne.2 (by omega)
    clear h hrd hR hG hres
    go_enter Tryd.func60, Tryd.ntmps60
    (repeat' (first | (go_big_may; fail) | go_values | go_skip | go_guarded | go_step | go_upon | go_back | dsimp only))
    go_ret
    rw [HRES.out]
    exact ⟨rfl, x, WSim.refl _, H.out⟩
end

section
variable {W w : World} {R : Thing} {rb k : Nat} {S : St} {x : WrD}
set_option maxRecDepth 100000 in
set_option maxHeartbeats 6400000 in
theorem rClose_at (h : At W w (Both (RwT k x) (Both (RefT rb S) R))) (hR : Stable R) (hG : GoodS S) (hrun : inI64 x.run) (hlen : x.dead = 0 → x.buf.length ≤ 1000000) :
    Calls Tryd.prog 62 #[.pointer (some ⟨rb, 0, none⟩), .pointer (some ⟨k, 0, none⟩)] w fun e w' => e = .returned (.tuple #[.int .i64 (closeP S x).2.2.1, .int .i64 (closeP S x).2.2.2]) ∧ ∃ y, WSim (closeP S x).2.1 y ∧ At W w' (Both (RwT k y) (Both (RefT rb (closeP S x).1) R)) := by
  have HRUN := Lib.hid hrun
  have HR := Lib.hid hR
  have H := Lib.hid h
  obtain ⟨res, hres⟩ : ∃ res, res = closeP S x := ⟨_, rfl⟩
  rw [← hres]
  unfold closeP at hres
  obtain ⟨c0, c1, c2, c3, fz, hlt⟩ := h.rw6
  by_cases hd : x.dead = 0
  · have hlen := hlen hd
    rw [if_neg (by simpa using hd)] at hres
    by_cases hb0 : x.buf = []
    · have hre : restP S x = (S, x, 0) := if_pos hb0
      rw [hre] at hres
      dsimp only at hres
      rw [if_neg (by simp)] at hres
      rw [hb0] at c3
      have HG1 := Lib.hid hG
      clear h hG hb0 hre hlen
      go_enter Tryd.func62, Tryd.ntmps62
      have hseal := (rSeal_at H.out.swap ((RwT.stable _ _).both HR.out) HG1.out HRUN.out).mono (fun e w' (h' : _ ∧ _) => (⟨h'.1, h'.2.swap⟩ : e = .returned (.int .i64 (sealP S x.run).2) ∧ At W w' (Both (RwT k x) (Both (RefT rb (sealP S x.run).1) R))))
      by_cases hs : (sealP S x.run).2 = 0
      · rw [if_neg (by simpa using hs)] at hres
        rw [hs] at hseal
        have HSEAL := Lib.hid hseal
        have HRES := Lib.hid hres
        clear hseal hs hres
        (repeat' (first | (go_big_may; fail) | go_values | go_skip | go_guarded | go_step | go_upon | go_back | dsimp only))
        refine HSEAL.out.mono ?_
        rintro e w5 ⟨rfl, h5⟩
        obtain ⟨d0, _, d2, _, fz5, hlt5⟩ := h5.rw6
        have HEND := Lib.hid (h5.setDead6 ((RefT.stable _ _).both HR.out) 13)
        clear h5 HSEAL
        (repeat' (first | (go_big_may; fail) | go_values | go_skip | go_guarded | go_step | go_upon | go_back | dsimp only))
        go_ret2
        rw [HRES.out]
        exact ⟨rfl, _, ⟨rfl, rfl, rfl, fun e => absurd e (show ¬ (13 : Nat) = 0 by decide)⟩, HEND.out⟩
      · rw [if_pos (by simpa using hs)] at hres
        generalize hcc : (sealP S x.run).2 = c at *
        have hcz : ((c : Int) == 0) = false := beq_eq_false_iff_ne.2 (by omega)
        have HZ := Lib.hid hs
        have HSEAL := Lib.hid hseal
        have HRES := Lib.hid hres
        clear hseal hs hres hcc
        (repeat' (first | (go_big_may; fail) | go_values | go_skip | go_guarded | go_step | go_upon | go_back | dsimp only))
        refine HSEAL.out.mono ?_
        rintro e w5 ⟨rfl, h5⟩
        obtain ⟨d0, _, d2, _, fz5, hlt5⟩ := h5.rw6
        have HEND := Lib.hid (h5.setDead6 ((RefT.stable _ _).both HR.out) c)
        clear h5 HSEAL
        (repeat' (first | (go_big_may; fail) | go_values | go_skip | go_guarded | go_step | go_upon | go_back | dsimp only))
        go_ret2
        rw [HRES.out]
        exact ⟨rfl, _, ⟨rfl, rfl, rfl, fun e => absurd e HZ.out⟩, HEND.out⟩
    · have hre : restP S x = flushP S x x.buf.length := if_neg hb0
      have happ := rAppend_one (t := x.buf) h hR hG hrun hlen
      have hl0 : 0 < x.buf.length := List.length_pos_iff.2 hb0
      have hg2 := hG.append x.run x.buf
      have hcg := And.intro c0 c3
      by_cases hz : (appendP S x.run x.buf).2 = 0
      · have hfl : flushP S x x.buf.length = ((appendP S x.run x.buf).1, { x with buf := [] }, 0) := by
          unfold flushP
          rw [List.take_length, if_pos hz, List.drop_length]
        rw [hre, hfl] at hres
        dsimp only at hres
        rw [if_neg (by simp)] at hres
        rw [hz] at happ
        have HG1 := Lib.hid hg2
        have HA := Lib.hid happ
        generalize (appendP S x.run x.buf).1 = S2 at *
        have HRESA := Lib.hid hres
        clear h hG hb0 hre hlen happ hfl hz hg2 hres
        go_enter Tryd.func62, Tryd.ntmps62
        go_upto_region 4 with (fail)
        go_region_held3 (fun wx => wx.cell? ⟨k, 0, none⟩ = some (.int .i64 x.run) ∧ wx.cell? ⟨k, 3, none⟩ = some (.string ⟨x.buf.toArray⟩)) (first | assumption | go_keep) (((with_reducible refine Calls.mono HA.out ?_); rintro e w3 ⟨rfl, h4⟩; have H4 := Lib.hid h4; have cg4 := And.intro h4.rw6.c0 h4.rw6.c3; have hl4 := h4.rw6.lt; clear h4))
        all_goals
          clear cg4 hcg c0 c1 c2 c3 fz hl4 hlt
          obtain ⟨_, _, _, c3, fz, hlt⟩ := H4.out.rw6
          have H5 := Lib.hid (H4.out.setHeld ((RefT.stable _ _).both HR.out) [])
          clear HA
          obtain ⟨c0, _, _, _, _, _⟩ := H5.out.rw6
          have hres := HRESA.out
          clear HRESA
          have hseal := (rSeal_at H5.out.swap ((RwT.stable _ _).both HR.out) HG1.out HRUN.out).mono (fun e w' (h' : _ ∧ _) => (⟨h'.1, h'.2.swap⟩ : e = .returned (.int .i64 (sealP S2 x.run).2) ∧ At W w' (Both (RwT k { x with buf := [] }) (Both (RefT rb (sealP S2 x.run).1) R))))
          by_cases hs : (sealP S2 x.run).2 = 0
          · rw [if_neg (by simpa using hs)] at hres
            rw [hs] at hseal
            have HSEAL := Lib.hid hseal
            have HRES := Lib.hid hres
            clear hseal hs hres
            (repeat' (first | (go_big_may; fail) | go_values | go_skip | go_guarded | go_step | go_upon | go_back | dsimp only))
            refine HSEAL.out.mono ?_
            rintro e w5 ⟨rfl, h5⟩
            obtain ⟨d0, _, d2, _, fz5, hlt5⟩ := h5.rw6
            have HEND := Lib.hid (h5.setDead6 ((RefT.stable _ _).both HR.out) 13)
            clear h5 HSEAL
            (repeat' (first | (go_big_may; fail) | go_values | go_skip | go_guarded | go_step | go_upon | go_back | dsimp only))
            go_ret2
            rw [HRES.out]
            exact ⟨rfl, _, ⟨rfl, rfl, rfl, fun e => absurd e (show ¬ (13 : Nat) = 0 by decide)⟩, HEND.out⟩
          · rw [if_pos (by simpa using hs)] at hres
            generalize hcc : (sealP S2 x.run).2 = c at *
            have hcz : ((c : Int) == 0) = false := beq_eq_false_iff_ne.2 (by omega)
            have HZ := Lib.hid hs
            have HSEAL := Lib.hid hseal
            have HRES := Lib.hid hres
            clear hseal hs hres hcc
            (repeat' (first | (go_big_may; fail) | go_values | go_skip | go_guarded | go_step | go_upon | go_back | dsimp only))
            refine HSEAL.out.mono ?_
            rintro e w5 ⟨rfl, h5⟩
            obtain ⟨d0, _, d2, _, fz5, hlt5⟩ := h5.rw6
            have HEND := Lib.hid (h5.setDead6 ((RefT.stable _ _).both HR.out) c)
            clear h5 HSEAL
            (repeat' (first | (go_big_may; fail) | go_values | go_skip | go_guarded | go_step | go_upon | go_back | dsimp only))
            go_ret2
            rw [HRES.out]
            exact ⟨rfl, _, ⟨rfl, rfl, rfl, fun e => absurd e HZ.out⟩, HEND.out⟩
      · have hfl : flushP S x x.buf.length = ((appendP S x.run x.buf).1, { x with dead := (appendP S x.run x.buf).2 }, (appendP S x.run x.buf).2) := by
          unfold flushP
          rw [List.take_length, if_neg hz]
        rw [hre, hfl] at hres
        dsimp only at hres
        rw [if_pos hz] at hres
        have HA := Lib.hid happ
        generalize (appendP S x.run x.buf).1 = S2 at *
        generalize (appendP S x.run x.buf).2 = c at *
        have hcz : ((c : Int) == 0) = false := beq_eq_false_iff_ne.2 (by omega)
        have HZ := Lib.hid hz
        have HRES := Lib.hid hres
        clear h hG hb0 hre hlen happ hfl hz hg2 hres
        go_enter Tryd.func62, Tryd.ntmps62
        go_upto_region 4 with (fail)
        go_region_held3 (fun wx => wx.cell? ⟨k, 0, none⟩ = some (.int .i64 x.run) ∧ wx.cell? ⟨k, 3, none⟩ = some (.string ⟨x.buf.toArray⟩)) (first | assumption | go_keep) (((with_reducible refine Calls.mono HA.out ?_); rintro e w3 ⟨rfl, h4⟩; have H4 := Lib.hid h4; have cg4 := And.intro h4.rw6.c0 h4.rw6.c3; have hl4 := h4.rw6.lt; clear h4))
        all_goals
          clear cg4 hcg c0 c1 c2 c3 fz hl4 hlt
          obtain ⟨_, _, c2, _, fz, hlt⟩ := H4.out.rw6
          have HEND := Lib.hid (H4.out.setDead6 ((RefT.stable _ _).both HR.out) c)
          clear HA H4
          (repeat' (first | (go_big_may; fail) | go_values | go_skip | go_guarded | go_step | go_upon | go_back | dsimp only))
          go_ret2
          rw [HRES.out]
          exact ⟨rfl, _, ⟨rfl, rfl, rfl, fun e => absurd e HZ.out⟩, HEND.out⟩
  · rw [if_pos (by simpa using hd)] at hres
    have HRES := Lib.hid hres
    have HST := Lib.hid ((RwT.stable k x).both ((RefT.stable rb S).both hR))
    have hcz : ((x.dead : Int) == 0) = false := beq_eq_false_iff_ne.2 (by omega)
    clear h hR hG hres
    go_enter Tryd.func62, Tryd.ntmps62
    (repeat' (first | (go_big_may; fail) | go_values | go_skip | go_guarded | go_step | go_upon | go_back | dsimp only))
    go_quiet (fail)
    (repeat' (first | (go_big_may; fail) | go_values | go_skip | go_guarded | go_step | go_upon | go_back | dsimp only))
    go_ret2
    rw [HRES.out]
    exact ⟨rfl, x, WSim.refl _, H.out.mono HST.out ⟨rfl, rfl, rfl, Nat.le_refl _, fun _ _ => rfl⟩⟩
end
end Go.Proofs.YtiimpnhjnodgpaaDoor
namespace Go.Proofs.YtiimpnhjnodgpaaDoor
open Go.RowKit

section
variable {W w : World} {R : Thing} {b rb : Nat} {ef : Nat → Nat × Nat} {S : St}
set_option maxRecDepth 100000 in
set_option maxHeartbeats 1600000 in
theorem From_limits (h : At W w (Both (StoreT b S) R)) (hR : Stable R) (hF : Fails W ef fails10) {r z : Int} (hz : z < 1 ∨ 4096 < z) :
    Calls Tryd.prog 17 #[.pointer (some ⟨b, 0, none⟩), .int .i64 r, .int .i64 z] w fun e w' => e = .returned (.tuple #[.pointer none, .iface tES (.pointer (some ⟨(ef 2).1, (ef 2).2, none⟩))]) ∧ At W w' (Both (StoreT b S) R) := by
  have cg := (hF.below h.below).cell (2, 5) (by decide)
  have HA := Lib.hid (fun n => h.mono ((StoreT.stable b S).both hR) (below_dW w n))
  clear h hR hF
  by_cases h1 : z < 1
  · clear hz
    go_enter Tryd.func17, Tryd.ntmps17
    (repeat' (first | (go_big_may; fail) | go_values | go_skip | go_guarded | go_step | go_upon | go_back | dsimp only))
    go_quiet (fail)
    (repeat' (first | (go_big_may; fail) | go_values | go_skip | go_guarded | go_step | go_upon | go_back | dsimp only))
    go_ret2
    exact ⟨rfl, HA.out _⟩
  · have h2 : 4096 < z := by omega
    clear hz
    go_enter Tryd.func17, Tryd.ntmps17
    (repeat' (first | (go_big_may; fail) | go_values | go_skip | go_guarded | go_step | go_upon | go_back | dsimp only))
    go_quiet (fail)
    (repeat' (first | (go_big_may; fail) | go_values | go_skip | go_guarded | go_step | go_upon | go_back | dsimp only))
    go_ret2
    exact ⟨rfl, HA.out _⟩
set_option maxRecDepth 100000 in
set_option maxHeartbeats 1600000 in
theorem From_fail (h : At W w (Both (StoreT b S) R)) (hR : Stable R) (hF : Fails W ef fails10) {n : Nat} {r : Int} (hn : 1 ≤ n ∧ n ≤ 4096) (hr : inI64 r) (hc : readC S r 0 0 ≠ 0) :
    Calls Tryd.prog 17 #[.pointer (some ⟨b, 0, none⟩), .int .i64 r, .int .i64 n] w fun e w' => e = .returned (.tuple #[.pointer none, errV ef (readC S r 0 0)]) ∧ At W w' (Both (StoreT b S) R) := by
  have hrd := Read_at h hR (fails10_all hF) hr (a := 0) (n := 0) (by unfold inI64; omega) (by unfold inI64; omega)
  rw [errV_pos ef hc] at hrd ⊢
  generalize readC S r 0 0 = c at *
  generalize readT S r 0 0 = t at *
  have neqi := run_neq_iface_nil2 ⟨(ef c).1, (ef c).2, none⟩
  have h1 : ¬ (n : Int) < 1 := by omega
  have h2 : ¬ 4096 < (n : Int) := by omega
  have HRD := Lib.hid hrd
  clear h hR hF hc hn hrd
  go_enter Tryd.func17, Tryd.ntmps17
  (repeat' (first | (go_big_may; fail) | go_values | go_skip | go_guarded | go_step | go_upon | go_back | dsimp only))
  refine HRD.out.mono ?_
  rintro e w1 ⟨rfl, h1⟩
  have H1 := Lib.hid h1
  clear h1
  (repeat' (first | (go_big_may; fail) | go_values | go_skip | go_guarded | go_step | go_upon | go_back | dsimp only))
  go_ret2
  exact ⟨rfl, H1.out⟩
set_option maxRecDepth 100000 in
set_option maxHeartbeats 1600000 in
theorem rOpen_limits (h : At W w (Both (RefT rb S) R)) {z : Int} (hz : z < 1 ∨ 4096 < z) :
    Calls Tryd.prog 32 #[.pointer (some ⟨rb, 0, none⟩), .int .i64 z] w fun e w' => e = .returned (.tuple #[.pointer none, .int .i64 2]) ∧ At W w' (Both (RefT rb S) R) := by
  have H := Lib.hid h
  clear h
  by_cases h1 : z < 1
  · clear hz
    go_enter Tryd.func32, Tryd.ntmps32
    (repeat' (first | (go_big_may; fail) | go_values | go_skip | go_guarded | go_step | go_upon | go_back | dsimp only))
    go_ret2
    exact ⟨rfl, H.out⟩
  · have h2 : 4096 < z := by omega
    clear hz
    go_enter Tryd.func32, Tryd.ntmps32
    (repeat' (first | (go_big_may; fail) | go_values | go_skip | go_guarded | go_step | go_upon | go_back | dsimp only))
    go_ret2
    exact ⟨rfl, H.out⟩
end
end Go.Proofs.YtiimpnhjnodgpaaDoor
namespace Go.Proofs.YtiimpnhjnodgpaaDoor
open Go.RowKit

def okC (c : Nat) : Prop := c = 0 ∨ ∃ g, (c, g) ∈ fails11
theorem okC_zero : okC 0 := .inl rfl
theorem okC_of {c : Nat} (h : c = 0 ∨ c = 3 ∨ c = 4 ∨ c = 7 ∨ c = 9 ∨ c = 10 ∨ c = 13 ∨ c = 8) : okC c := by
  rcases h with rfl | rfl | rfl | rfl | rfl | rfl | rfl | rfl
  · exact .inl rfl
  · exact .inr ⟨2, by decide⟩
  · exact .inr ⟨8, by decide⟩
  · exact .inr ⟨4, by decide⟩
  · exact .inr ⟨7, by decide⟩
  · exact .inr ⟨9, by decide⟩
  · exact .inr ⟨10, by decide⟩
  · exact .inr ⟨3, by decide⟩
/-- The store holds the run 1 alone. -/
def One (S : St) : Prop := GoodS S ∧ ∃ r, S.runs = [(1, r)]
theorem One.find {S : St} (h : One S) : ∃ r, S.runs = [(1, r)] ∧ S.find ((1 : Nat) : Int) = some (1, r) := by
  obtain ⟨_, r, hr⟩ := h
  exact ⟨r, hr, by simp [St.find, hr]⟩
/-- A call at the run 1: the store still holds it alone. -/
theorem One.with {S : St} (h : One S) {f : Nat × RunD → St × Nat} (hf : ∀ r, S.runs = [(1, r)] → ∃ r', (f (1, r)).1.runs = [(1, r')]) : ∃ r', (withRun S ((1 : Nat) : Int) f).1.runs = [(1, r')] := by
  obtain ⟨r, hr, hfd⟩ := h.find
  unfold withRun
  rw [hfd]
  split
  · exact ⟨r, hr⟩
  · dsimp only
    split
    · exact ⟨r, hr⟩
    · exact hf r hr
theorem withCode {S : St} {z : Int} {f : Nat × RunD → St × Nat} {P : Nat → Prop} (h9 : P 9) (h3 : P 3) (h4 : P 4) (hf : ∀ p, P (f p).2) : P (withRun S z f).2 := by
  unfold withRun
  split
  · exact h9
  · split
    · exact h3
    · split
      · exact h4
      · exact hf _
theorem One.append {S : St} (h : One S) (t : List UInt8) : One (appendP S ((1 : Nat) : Int) t).1 := by
  refine ⟨h.1.append _ t, h.with fun r hr => ?_⟩
  split
  · exact ⟨r, hr⟩
  · exact ⟨_, by simp [grownS, stepS, St.setRun, hr]; rfl⟩
theorem One.seal {S : St} (h : One S) : One (sealP S ((1 : Nat) : Int)).1 := by
  refine ⟨h.1.seal _, h.with fun r hr => ?_⟩
  exact ⟨_, by simp [stepS, St.setRun, hr]; rfl⟩
theorem append_code (S : St) (z : Int) (t : List UInt8) : okC (appendP S z t).2 ∧ (appendP S z t).2 ≠ 13 :=
  withCode (P := fun c => okC c ∧ c ≠ 13) ⟨okC_of (by omega), by decide⟩ ⟨okC_of (by omega), by decide⟩ ⟨okC_of (by omega), by decide⟩ fun p => by
    split
    · exact ⟨okC_of (.inr (.inr (.inr (.inl rfl)))), by show ¬ (7 : Nat) = 13; decide⟩
    · exact ⟨okC_zero, by show ¬ (0 : Nat) = 13; decide⟩
theorem seal_code (S : St) (z : Int) : okC (sealP S z).2 ∧ (sealP S z).2 ≠ 13 :=
  withCode (P := fun c => okC c ∧ c ≠ 13) ⟨okC_of (by omega), by decide⟩ ⟨okC_of (by omega), by decide⟩ ⟨okC_of (by omega), by decide⟩ fun p => ⟨okC_zero, by show ¬ (0 : Nat) = 13; decide⟩

/-- A writer at work at the run 1. -/
structure OkW (B : Nat) (x : WrD) : Prop where
  run : x.run = 1
  block : x.block = B
  code : okC x.dead
  open_ : x.dead ≠ 13
  alive : x.dead = 0 → x.buf.length < B
  small : x.buf.length ≤ 100000
theorem flushP_keep (S : St) (x : WrD) (n : Nat) : (flushP S x n).2.1.run = x.run ∧ (flushP S x n).2.1.block = x.block ∧ ((flushP S x n).2.2 = 0 → (flushP S x n).2.1.dead = x.dead) ∧ ((flushP S x n).2.2 ≠ 0 → (flushP S x n).2.1.dead = (flushP S x n).2.2) ∧ okC (flushP S x n).2.2 ∧ (flushP S x n).2.2 ≠ 13 ∧ (flushP S x n).2.1.buf.length ≤ x.buf.length := by
  have h := append_code S x.run (x.buf.take n)
  unfold flushP
  by_cases hz : (appendP S x.run (x.buf.take n)).2 = 0
  · rw [if_pos hz]
    exact ⟨rfl, rfl, fun _ => rfl, fun e => absurd rfl e, okC_zero, by show ¬ (0 : Nat) = 13; decide, by simp⟩
  · rw [if_neg hz]
    exact ⟨rfl, rfl, fun e => absurd e hz, fun _ => rfl, h.1, h.2, Nat.le_refl _⟩
/-- The document's writer does the same. -/
theorem putP_sim {S : St} {x y : WrD} (h : WSim x y) (ss : List (List UInt8)) : (putP S y ss).1 = (putP S x ss).1 ∧ (putP S y ss).2.2 = (putP S x ss).2.2 ∧ WSim (putP S x ss).2.1 (putP S y ss).2.1 := by
  by_cases hd : x.dead = 0
  · rw [h.eq hd]; exact ⟨rfl, rfl, WSim.refl _⟩
  · unfold putP
    rw [if_pos hd, if_pos (by rw [h.dead]; exact hd)]
    exact ⟨rfl, h.dead, h⟩
theorem WSim.trans {x y z : WrD} (h : WSim x y) (k : WSim y z) : WSim x z :=
  ⟨k.run.trans h.run, k.block.trans h.block, k.dead.trans h.dead, fun e => (k.buf (by rw [h.dead]; exact e)).trans (h.buf e)⟩
theorem closeP_sim {S : St} {x y : WrD} (h : WSim x y) : (closeP S y).1 = (closeP S x).1 ∧ (closeP S y).2.2 = (closeP S x).2.2 ∧ WSim (closeP S x).2.1 (closeP S y).2.1 := by
  by_cases hd : x.dead = 0
  · rw [h.eq hd]; exact ⟨rfl, rfl, WSim.refl _⟩
  · unfold closeP
    rw [if_pos hd, if_pos (by rw [h.dead]; exact hd)]
    exact ⟨rfl, by rw [h.dead], h⟩
end Go.Proofs.YtiimpnhjnodgpaaDoor
namespace Go.Proofs.YtiimpnhjnodgpaaDoor
open Go.RowKit

/-- A live writer: the program's and the document's. -/
structure PW where
  k : Nat
  kr : Nat
  x : WrD
  y : WrD
/-- A live reader: the program's and the document's. -/
structure PR where
  k : Nat
  kr : Nat
  x : RdD
  v : Value
  T : List UInt8
  l : List (List UInt8)
  i : Nat
  aft : Nat
structure WOk (S : St) (x y : WrD) : Prop where
  sim : WSim x y
  made : x.run ≤ S.made
  shut : x.dead = 13 ∨ OpenAt S x.run
  block : 1 ≤ x.block ∧ x.block ≤ 4096
  code : okC x.dead
  alive : x.dead = 0 → x.buf.length < x.block
  small : x.buf.length ≤ 33554432
structure ROk (S : St) (p : PR) : Prop where
  has : HasT S p.x.run p.T
  block : 1 ≤ p.x.block
  sim : RSim p.T p.x (p.l.drop p.i) p.aft
  at_ : p.i ≤ p.l.length
  aft : p.aft = 0 ∨ p.aft = 11
  len : p.T.length ≤ 67108864
structure PlayI (S : St) (ws : List (Option PW)) (rs : List (Option PR)) : Prop where
  good : GoodS S
  wr : ∀ (i : Nat) p, ws[i]? = some (some p) → WOk S p.x p.y
  apart : ∀ (i j : Nat) p q, ws[i]? = some (some p) → ws[j]? = some (some q) → i ≠ j → p.x.run ≠ q.x.run
  rd : ∀ (i : Nat) p, rs[i]? = some (some p) → ROk S p
/-- A step of the store that leaves sealed runs and open ones as they are. -/
structure StoreStep (S S' : St) : Prop where
  good : GoodS S'
  made : S.made ≤ S'.made
  has : ∀ z T, HasT S z T → HasT S' z T
  open_ : ∀ z, z ≤ S.made → OpenAt S z → OpenAt S' z
theorem StoreStep.refl {S : St} (h : GoodS S) : StoreStep S S := ⟨h, Nat.le_refl _, fun _ _ h => h, fun _ _ h => h⟩
theorem StoreStep.trans {S S' S'' : St} (h : StoreStep S S') (k : StoreStep S' S'') : StoreStep S S'' :=
  ⟨k.good, Nat.le_trans h.made k.made, fun z T q => k.has z T (h.has z T q), fun z hz q => k.open_ z (Nat.le_trans hz h.made) (h.open_ z hz q)⟩
theorem WOk.step {S S' : St} {x y : WrD} (h : WOk S x y) (k : StoreStep S S') : WOk S' x y :=
  ⟨h.sim, Nat.le_trans h.made k.made, h.shut.imp (fun e => e) (fun e => k.open_ _ h.made e), h.block, h.code, h.alive, h.small⟩
theorem ROk.step {S S' : St} {p : PR} (h : ROk S p) (k : ∀ T, HasT S p.x.run T → HasT S' p.x.run T) : ROk S' p := ⟨k _ h.has, h.block, h.sim, h.at_, h.aft, h.len⟩
section
variable {S : St} {ws : List (Option PW)} {rs : List (Option PR)}
theorem PlayI.new (c : Int) : PlayI (newSt c) [] [] := ⟨GoodS.new c, fun i p h => by simp at h, fun i j p q h => by simp at h, fun i p h => by simp at h⟩
theorem PlayI.step {S' : St} (h : PlayI S ws rs) (k : StoreStep S S') : PlayI S' ws rs :=
  ⟨k.good, fun i p hp => (h.wr i p hp).step k, h.apart, fun i p hp => (h.rd i p hp).step (k.has _)⟩
theorem step_create (h : GoodS S) : StoreStep S (createP S).1 :=
  ⟨h.create, by rcases made_create S with h | h <;> omega, fun _ _ q => q.create, fun _ _ q => q.create⟩
theorem step_append (h : GoodS S) (z : Int) (t : List UInt8) : StoreStep S (appendP S z t).1 :=
  ⟨h.append z t, by rw [made_append]; exact Nat.le_refl _, fun _ _ q => q.append z t, fun _ _ q => q.append z t⟩
theorem step_brk (h : GoodS S) {n : Int} (hn : inI64 n) : StoreStep S (breakS S n) := ⟨h.brk hn, Nat.le_refl _, fun _ _ q => q.brk n, fun _ _ q => q.brk n⟩
/-- The seal of a run that was not there. -/
theorem step_seal {S0 : St} (h : GoodS S) (hm : S0.made ≤ S.made) {z : Nat} (hz : S0.made < z) (h0 : StoreStep S0 S) : StoreStep S0 (sealP S z).1 :=
  ⟨h.seal z, by rw [made_seal]; exact hm, fun z' T q => (h0.has z' T q).seal z, fun z' hz' q => (h0.open_ z' hz' q).seal (by omega)⟩
theorem getQ_append {α : Type} {l : List (Option α)} {o : Option α} {i : Nat} {p : α} (h : (l ++ [o])[i]? = some (some p)) : l[i]? = some (some p) ∨ (i = l.length ∧ o = some p) := by
  rcases Nat.lt_trichotomy i l.length with h1 | h1 | h1
  · rw [List.getElem?_append_left h1] at h; exact .inl h
  · subst h1; simp at h; exact .inr ⟨rfl, h⟩
  · rw [List.getElem?_eq_none (by simp; omega)] at h; cases h
theorem PlayI.addW0 (h : PlayI S ws rs) : PlayI S (ws ++ [none]) rs :=
  ⟨h.good, fun i p hp => (by
      rcases getQ_append hp with h1 | ⟨_, h1⟩
      · exact h.wr i p h1
      · cases h1),
    fun i j p q hp hq hij => (by
      rcases getQ_append hp with h1 | ⟨_, h1⟩
      · rcases getQ_append hq with h2 | ⟨_, h2⟩
        · exact h.apart i j p q h1 h2 hij
        · cases h2
      · cases h1), h.rd⟩
theorem PlayI.addR0 (h : PlayI S ws rs) : PlayI S ws (rs ++ [none]) :=
  ⟨h.good, h.wr, h.apart, fun i p hp => by
    rcases getQ_append hp with h1 | ⟨_, h1⟩
    · exact h.rd i p h1
    · cases h1⟩
theorem PlayI.addW (h : PlayI S ws rs) (hc : (createP S).2.2 = 0) (k kr n : Nat) (hn : 1 ≤ n ∧ n ≤ 4096) :
    PlayI (createP S).1 (ws ++ [some ⟨k, kr, ⟨(createP S).2.1, n, [], 0⟩, ⟨(createP S).2.1, n, [], 0⟩⟩]) rs := by
  have h1 := h.step (step_create h.good)
  have hmk : (createP S).2.1 = S.made + 1 ∧ (createP S).1.made = S.made + 1 := by
    rcases made_create S with h | h
    · exact absurd hc h.1
    · exact h.2
  refine ⟨h1.good, fun i p hp => ?_, fun i j p q hp hq hij => ?_, h1.rd⟩
  · rcases getQ_append hp with h2 | ⟨_, h2⟩
    · exact h1.wr i p h2
    · cases h2
      exact ⟨WSim.refl _, by show (createP S).2.1 ≤ _; omega, .inr (create_open h.good hc), hn, okC_zero, fun _ => by show (0 : Nat) < n; omega, by show (0 : Nat) ≤ _; omega⟩
  · rcases getQ_append hp with h2 | ⟨e1, h2⟩
    · rcases getQ_append hq with h3 | ⟨_, h3⟩
      · exact h.apart i j p q h2 h3 hij
      · cases h3
        have := (h.wr i p h2).made
        show p.x.run ≠ (createP S).2.1
        omega
    · cases h2
      rcases getQ_append hq with h3 | ⟨e2, h3⟩
      · have := (h.wr j q h3).made
        show (createP S).2.1 ≠ q.x.run
        omega
      · omega
theorem PlayI.addR (h : PlayI S ws rs) (p : PR) (hp : ROk S p) : PlayI S ws (rs ++ [some p]) :=
  ⟨h.good, h.wr, h.apart, fun i q hq => by
    rcases getQ_append hq with h1 | ⟨_, h1⟩
    · exact h.rd i q h1
    · cases h1; exact hp⟩
theorem getQ_set {α : Type} {l : List (Option α)} {o : α} {i j : Nat} {p : α} (h : (l.set i (some o))[j]? = some (some p)) : (j ≠ i ∧ l[j]? = some (some p)) ∨ (j = i ∧ i < l.length ∧ o = p) := by
  rw [List.getElem?_set] at h
  by_cases e : i = j
  · subst e
    rw [if_pos rfl] at h
    by_cases hl : i < l.length
    · rw [if_pos hl] at h
      simp at h
      exact .inr ⟨rfl, hl, h⟩
    · rw [if_neg hl] at h; cases h
  · rw [if_neg e] at h; exact .inl ⟨fun q => e q.symm, h⟩
/-- A writer is called: the others and the readers stay. -/
theorem PlayI.setW {S' : St} (h : PlayI S ws rs) {i : Nat} {p : PW} (hp : ws[i]? = some (some p)) (x y : WrD) (hg : GoodS S') (hm : S'.made = S.made) (hr : x.run = p.x.run) (hw : WOk S' x y)
    (hh : ∀ z T, (p.x.dead = 13 ∨ z ≠ p.x.run) → HasT S z T → HasT S' z T) (ho : ∀ z, z ≠ p.x.run → OpenAt S z → OpenAt S' z) : PlayI S' (ws.set i (some ⟨p.k, p.kr, x, y⟩)) rs := by
  refine ⟨hg, fun j q hq => ?_, fun j j' q q' hq hq' hjj => ?_, fun j q hq => ?_⟩
  · rcases getQ_set hq with ⟨hj, h1⟩ | ⟨hj, _, h1⟩
    · have hw := h.wr j q h1
      have hne := h.apart j i q p h1 hp hj
      exact ⟨hw.sim, by rw [hm]; exact hw.made, hw.shut.imp (fun e => e) (fun e => ho _ hne e), hw.block, hw.code, hw.alive, hw.small⟩
    · cases h1; exact hw
  · rcases getQ_set hq with ⟨hj, h1⟩ | ⟨hj, _, h1⟩
    · rcases getQ_set hq' with ⟨hj', h2⟩ | ⟨hj', _, h2⟩
      · exact h.apart j j' q q' h1 h2 hjj
      · cases h2
        show q.x.run ≠ x.run
        rw [hr]
        exact h.apart j i q p h1 hp hj
    · cases h1
      rcases getQ_set hq' with ⟨hj', h2⟩ | ⟨hj', _, h2⟩
      · show x.run ≠ q'.x.run
        rw [hr]
        exact h.apart i j' p q' hp h2 (fun e => hj' e.symm)
      · omega
  · have hR := h.rd j q hq
    refine hR.step fun T hT => hh _ T ?_ hT
    by_cases hd : p.x.dead = 13
    · exact .inl hd
    · refine .inr fun e => ?_
      rcases (h.wr i p hp).shut with h1 | h1
      · exact hd h1
      · obtain ⟨r, hr1, hr2⟩ := hT
        rw [e] at hr1
        have := h1 r hr1
        rw [hr2] at this
        cases this
theorem PlayI.setR (h : PlayI S ws rs) {i : Nat} {p : PR} (q : PR) (_ : rs[i]? = some (some p)) (hq : ROk S q) : PlayI S ws (rs.set i (some q)) :=
  ⟨h.good, h.wr, h.apart, fun j r hr => by
    rcases getQ_set hr with ⟨_, h1⟩ | ⟨_, _, h1⟩
    · exact h.rd j r h1
    · cases h1; exact hq⟩
end
theorem goodI : Inv GoodS := ⟨fun _ h _ => h.le, fun _ z t h => h.append z t⟩
theorem putL_good : ∀ (n : Nat) {S : St} (x : WrD), GoodS S → GoodS (putL n S x).1
  | 0, _, _, h => h
  | n + 1, S, x, h => by
    unfold putL
    split
    · split
      · exact putL_good n _ (flushP_inv goodI h x _)
      · exact flushP_inv goodI h x _
    · exact h
theorem putP_good {S : St} (h : GoodS S) (x : WrD) (ss : List (List UInt8)) : GoodS (putP S x ss).1 := by
  unfold putP
  split
  · exact h
  · split
    · exact h
    · exact putL_good _ _ h
theorem restP_good {S : St} (h : GoodS S) (x : WrD) : GoodS (restP S x).1 := by
  unfold restP
  split
  · exact h
  · exact flushP_inv goodI h x _
theorem closeP_good {S : St} (h : GoodS S) (x : WrD) : GoodS (closeP S x).1 := by
  unfold closeP
  split
  · exact h
  · split
    · exact restP_good h x
    · split <;> exact (restP_good h x).seal _
/-- What a run of Put leaves of a writer. -/
structure WKeep (x x' : WrD) (c : Nat) : Prop where
  run : x'.run = x.run
  block : x'.block = x.block
  code : okC x'.dead
  open_ : x'.dead ≠ 13
  alive : x'.dead = 0 → x'.buf.length < x.block
  less : x'.buf.length ≤ x.buf.length
  told : okC c
theorem putL_any : ∀ (n : Nat) (S : St) (x : WrD), x.dead = 0 → 1 ≤ x.block → x.buf.length < n → WKeep x (putL n S x).2.1 (putL n S x).2.2 := by
  intro n
  induction n with
  | zero => intro S x _ _ h; exact absurd h (Nat.not_lt_zero _)
  | succ n ih =>
    intro S x hd hb hl
    unfold putL
    by_cases hge : x.block ≤ x.buf.length
    · rw [if_pos hge]
      obtain ⟨k1, k2, k3, k4, k5, k6, k7⟩ := flushP_keep S x x.block
      by_cases hz : (flushP S x x.block).2.2 = 0
      · rw [if_pos hz]
        have hok := flushP_ok hz
        have hI := ih (flushP S x x.block).1 _ ((k3 hz).trans hd) (by rw [k2]; exact hb) (by rw [hok]; simp only [List.length_drop]; omega)
        exact ⟨hI.run.trans k1, hI.block.trans k2, hI.code, hI.open_, fun e => (by have := hI.alive e; rw [k2] at this; exact this), Nat.le_trans hI.less k7, hI.told⟩
      · rw [if_neg hz]
        exact ⟨k1, k2, by rw [k4 hz]; exact k5, by rw [k4 hz]; exact k6, fun e => absurd (by rw [← k4 hz]; exact e) hz, k7, k5⟩
    · rw [if_neg hge]
      exact ⟨rfl, rfl, .inl hd, by show x.dead ≠ 13; omega, fun _ => by show x.buf.length < _; omega, Nat.le_refl _, okC_zero⟩
section
variable {S : St} {ws : List (Option PW)} {rs : List (Option PR)}
/-- Put. -/
theorem PlayI.put (h : PlayI S ws rs) {i : Nat} {p : PW} (hp : ws[i]? = some (some p)) (ss : List (List UInt8)) (hl : (frameL ss).length ≤ 16777216) {y : WrD} (hy : WSim (putP S p.x ss).2.1 y) :
    PlayI (putP S p.x ss).1 (ws.set i (some ⟨p.k, p.kr, (putP S p.x ss).2.1, y⟩)) rs ∧ okC (putP S p.x ss).2.2 := by
  have hw := h.wr i p hp
  have hbl := hw.block
  have hk : (putP S p.x ss).2.1.run = p.x.run ∧ (putP S p.x ss).2.1.block = p.x.block ∧ okC (putP S p.x ss).2.1.dead ∧ (p.x.dead ≠ 13 → (putP S p.x ss).2.1.dead ≠ 13) ∧ (p.x.dead = 13 → (putP S p.x ss).2.1.dead = 13) ∧ ((putP S p.x ss).2.1.dead = 0 → (putP S p.x ss).2.1.buf.length < p.x.block) ∧ (putP S p.x ss).2.1.buf.length ≤ 33554432 ∧ okC (putP S p.x ss).2.2 := by
    unfold putP
    by_cases hd : p.x.dead = 0
    · rw [if_neg (by simpa using hd)]
      by_cases hf : fits ss = false
      · rw [if_pos hf]
        exact ⟨rfl, rfl, hw.code, fun e => e, fun e => e, hw.alive, hw.small, okC_of (.inr (.inr (.inr (.inr (.inr (.inl rfl))))))⟩
      · rw [if_neg hf]
        have hal := hw.alive hd
        have hI := putL_any ((p.x.buf ++ frameL ss).length + 1) S { p.x with buf := p.x.buf ++ frameL ss } hd hbl.1 (Nat.lt_succ_self _)
        have hls := hI.less
        simp only [List.length_append] at hls
        exact ⟨hI.run, hI.block, hI.code, fun _ => hI.open_, fun e => (by rw [hd] at e; cases e), hI.alive, by simp only [List.length_append]; omega, hI.told⟩
    · rw [if_pos hd]
      exact ⟨rfl, rfl, hw.code, fun e => e, fun e => e, fun e => absurd e hd, hw.small, hw.code⟩
  obtain ⟨k1, k2, k3, k4, k5, k6, k7, k8⟩ := hk
  refine ⟨h.setW hp _ y (putP_good h.good _ _) (made_put _ _ _) k1 ⟨hy, by rw [k1, made_put]; exact hw.made, ?_, by rw [k2]; exact hbl, k3, by rw [k2]; exact k6, k7⟩ (fun z T _ q => q.put _ _) (fun z _ q => q.put _ _), k8⟩
  rw [k1]
  exact hw.shut.imp k5 fun e => e.put _ _
/-- Close. -/
theorem PlayI.close (h : PlayI S ws rs) {i : Nat} {p : PW} (hp : ws[i]? = some (some p)) {y : WrD} (hy : WSim (closeP S p.x).2.1 y) :
    PlayI (closeP S p.x).1 (ws.set i (some ⟨p.k, p.kr, (closeP S p.x).2.1, y⟩)) rs ∧ okC (closeP S p.x).2.2.2 := by
  have hw := h.wr i p hp
  have hbl := hw.block
  have hk : (closeP S p.x).2.1.run = p.x.run ∧ (closeP S p.x).2.1.block = p.x.block ∧ okC (closeP S p.x).2.1.dead ∧ (p.x.dead = 13 → (closeP S p.x).2.1.dead = 13) ∧ ((closeP S p.x).2.1.dead = 0 → False) ∧ (closeP S p.x).2.1.buf.length ≤ 33554432 ∧ okC (closeP S p.x).2.2.2 := by
    unfold closeP
    by_cases hd : p.x.dead = 0
    · rw [if_neg (by simpa using hd)]
      have hrest : (restP S p.x).2.1.run = p.x.run ∧ (restP S p.x).2.1.block = p.x.block ∧ okC (restP S p.x).2.2 ∧ ((restP S p.x).2.2 ≠ 0 → (restP S p.x).2.1.dead = (restP S p.x).2.2) ∧ (restP S p.x).2.1.buf.length ≤ p.x.buf.length := by
        unfold restP
        split
        · exact ⟨rfl, rfl, okC_zero, fun e => absurd rfl e, Nat.le_refl _⟩
        · obtain ⟨k1, k2, k3, k4, k5, k6, k7⟩ := flushP_keep S p.x p.x.buf.length
          exact ⟨k1, k2, k5, k4, k7⟩
      obtain ⟨r1, r2, r3, r4, r5⟩ := hrest
      have hsm := hw.small
      by_cases hz : (restP S p.x).2.2 = 0
      · rw [if_neg (by simpa using hz)]
        have hsc := seal_code (restP S p.x).1 (restP S p.x).2.1.run
        by_cases hs : (sealP (restP S p.x).1 (restP S p.x).2.1.run).2 = 0
        · rw [if_neg (by simpa using hs)]
          exact ⟨r1, r2, okC_of (.inr (.inr (.inr (.inr (.inr (.inr (.inl rfl))))))), fun _ => rfl, fun e => (by cases e), by show (restP S p.x).2.1.buf.length ≤ _; omega, okC_zero⟩
        · rw [if_pos hs]
          exact ⟨r1, r2, hsc.1, fun e => (by rw [hd] at e; cases e), fun e => hs e, by show (restP S p.x).2.1.buf.length ≤ _; omega, hsc.1⟩
      · rw [if_pos hz]
        exact ⟨r1, r2, by rw [r4 hz]; exact r3, fun e => (by rw [hd] at e; cases e), fun e => hz (by rw [← r4 hz]; exact e), by show (restP S p.x).2.1.buf.length ≤ _; omega, r3⟩
    · rw [if_pos hd]
      exact ⟨rfl, rfl, hw.code, fun e => e, fun e => hd e, hw.small, hw.code⟩
  obtain ⟨k1, k2, k3, k4, k5, k6, k7⟩ := hk
  refine ⟨h.setW hp _ y (closeP_good h.good _) (made_close _ _) k1 ⟨hy, by rw [k1, made_close]; exact hw.made, ?_, by rw [k2]; exact hbl, k3, fun e => (k5 e).elim, k6⟩ (fun z T _ q => q.close _) (fun z hz q => q.close (fun e => hz e.symm)), k7⟩
  rw [k1]
  rcases hw.shut with e | e
  · exact .inl (k4 e)
  · exact e.closeOwn
/-- Drop. -/
theorem PlayI.drop (h : PlayI S ws rs) {i : Nat} {p : PW} (hp : ws[i]? = some (some p)) :
    PlayI (dropP S p.x).1 (ws.set i (some ⟨p.k, p.kr, (dropP S p.x).2, (dropP S p.y).2⟩)) rs ∧ (dropP S p.y).1 = (dropP S p.x).1 := by
  have hw := h.wr i p hp
  have hs := hw.sim
  unfold dropP
  by_cases hd : p.x.dead = 13
  · rw [if_pos hd, if_pos (by rw [hs.dead]; exact hd)]
    refine ⟨h.setW hp _ _ h.good rfl rfl hw (fun _ _ _ q => q) (fun _ _ q => q), rfl⟩
  · rw [if_neg hd, if_neg (by rw [hs.dead]; exact hd)]
    refine ⟨h.setW hp _ _ (h.good.remove _) (made_remove _ _) rfl ⟨⟨hs.run, hs.block, rfl, fun e => (by cases e)⟩, by rw [made_remove]; exact hw.made, .inl rfl, hw.block, okC_of (.inr (.inr (.inr (.inr (.inr (.inr (.inl rfl))))))), fun e => (by cases e), hw.small⟩ (fun z T hz q => ?_) (fun z _ q => q.remove _), by rw [hs.run]⟩
    rcases hz with e | e
    · exact absurd e hd
    · exact q.remove (by omega)
/-- Next. -/
theorem PlayI.next (h : PlayI S ws rs) {i : Nat} {p : PR} (hp : rs[i]? = some (some p)) :
    PlayI S ws (rs.set i (some ⟨p.k, p.kr, (nextL (p.x.fin - p.x.pos + 1) S p.x).1, p.v, p.T, p.l, if p.i < p.l.length then p.i + 1 else p.i, p.aft⟩)) ∧ (nextL (p.x.fin - p.x.pos + 1) S p.x).2 = saysL (p.l.drop p.i) p.aft := by
  have hr := h.rd i p hp
  obtain ⟨n1, n2, n3, n4⟩ := next_any (p.x.fin - p.x.pos + 1) p.x (p.l.drop p.i) p.aft (by rw [hr.sim.fin]; omega) hr.has hr.block hr.sim
  refine ⟨h.setR _ hp ⟨?_, ?_, ?_, ?_, hr.aft, hr.len⟩, n1⟩
  · show HasT S (nextL (p.x.fin - p.x.pos + 1) S p.x).1.run p.T
    rw [n3]; exact hr.has
  · show 1 ≤ (nextL (p.x.fin - p.x.pos + 1) S p.x).1.block
    rw [n4]; exact hr.block
  · show RSim p.T (nextL (p.x.fin - p.x.pos + 1) S p.x).1 (p.l.drop (if p.i < p.l.length then p.i + 1 else p.i)) p.aft
    rw [List.tail_drop] at n2
    by_cases hlt : p.i < p.l.length
    · rw [if_pos hlt]; exact n2
    · rw [if_neg hlt]
      rw [List.drop_eq_nil_of_le (by omega)] at n2 ⊢
      exact n2
  · show (if p.i < p.l.length then p.i + 1 else p.i) ≤ p.l.length
    have := hr.at_
    split <;> omega
/-- From. -/
theorem PlayI.from_ (h : PlayI S ws rs) {z : Int} (hc : readC S z 0 0 = 0) {n : Nat} (hn : 1 ≤ n) :
    ∃ (r : Nat) (T : List UInt8), z = r ∧ readT S z 0 (sizeN S z) = T ∧ sizeN S z = T.length ∧ sizeC S z = 0 ∧ T.length ≤ 67108864 ∧
      ∀ k kr v, PlayI S ws (rs ++ [some ⟨k, kr, ⟨r, n, 0, T.length, [], 0⟩, v, T, (headsL T).1, 0, if (headsL T).2 = 0 then 0 else 11⟩]) := by
  obtain ⟨r, T, rfl, hT, h1, h2⟩ := read_has hc
  have hlen : T.length ≤ 67108864 := by
    obtain ⟨p, hp, hpT⟩ := hT
    have h3 := h.good.le p hp
    have := h.good.sizes
    rw [hpT] at h3
    dsimp only at h3
    omega
  have hsz : sizeC S (r : Int) = 0 := by
    obtain ⟨p, hp, _⟩ := hT
    unfold sizeC; rw [hp]
  exact ⟨r, T, rfl, h1, h2, hsz, hlen, fun k kr v => h.addR _ ⟨hT, hn, by simpa using RSim.start T r n, Nat.zero_le _, by show (if _ then 0 else 11) = 0 ∨ (if _ then 0 else 11) = 11; split <;> simp, hlen⟩⟩
end
end Go.Proofs.YtiimpnhjnodgpaaDoor
namespace Go.Proofs.YtiimpnhjnodgpaaDoor
open Go.ChangeShapes Go.WideShapes Go.ChangeAt Go.RowKit

structure Op6 where
  k : Int
  at_ : Int
  n : Int
  v : Value
  recs : List (List UInt8)
instance : Inhabited Op6 := ⟨⟨0, 0, 0, .slice none 0 0, []⟩⟩
structure OpOk (W : World) (o : Op6) : Prop where
  k : inI64 o.k
  run : inI64 o.at_
  n : inI64 o.n
  row : RdRow W o.v o.recs.length 1 (strs o.recs)
  len : o.recs.length + (cat o.recs).length ≤ 1048576
abbrev cellsOp (o : Op6) : List Value := [.int .i64 o.k, .int .i64 o.at_, .int .i64 o.n, o.v]
theorem cellsOp_len : ∀ o, (cellsOp o).length = 4 := fun _ => rfl
/-- A script, that is read. -/
structure OpsRow (W : World) (v : Value) (ops : List Op6) : Prop where
  row : RdRow W v ops.length 4 (ops.flatMap cellsOp)
  each : ∀ o ∈ ops, OpOk W o
theorem OpOk.below {w w' : World} {o : Op6} (h : OpOk w o) (hb : Below w.heap.size w w') : OpOk w' o := ⟨h.k, h.run, h.n, h.row.below hb, h.len⟩
theorem OpsRow.below {w w' : World} {v : Value} {ops : List Op6} (h : OpsRow w v ops) (hb : Below w.heap.size w w') : OpsRow w' v ops := ⟨h.row.below hb, fun o ho => (h.each o ho).below hb⟩
set_option maxRecDepth 100000 in
/-- The i-th call of a script. -/
theorem OpsRow.op {w : World} {v : Value} {ops : List Op6} (h : OpsRow w v ops) {i : Nat} (hi : i < ops.length) :
    ∃ b off cap, v = .slice (some ⟨b, off, none⟩) ops.length cap ∧ (w.cell? ⟨b, off + i * 4, none⟩ = some (.int .i64 (ops.getD i default).k) ∧ w.cell? ⟨b, off + i * 4 + 1, none⟩ = some (.int .i64 (ops.getD i default).at_) ∧
      w.cell? ⟨b, off + i * 4 + 2, none⟩ = some (.int .i64 (ops.getD i default).n) ∧ w.cell? ⟨b, off + i * 4 + 3, none⟩ = some (ops.getD i default).v) ∧
      OpOk w (ops.getD i default) := by
  obtain ⟨b, off, cap, rfl, h0⟩ := h.row.at cellsOp_len hi (by decide)
  refine ⟨b, off, cap, rfl, ⟨h0 0 (by decide), h0 1 (by decide), h0 2 (by decide), h0 3 (by decide)⟩, h.each _ ?_⟩
  rw [List.getD_eq_getElem?_getD, List.getElem?_eq_getElem hi]
  exact List.getElem_mem hi

section
variable {H : Type} {enc : TypeId × Value → H}
theorem inI64_of {n : Int} (w : (Lit.int .i64 n).wf = true) : inI64 n := by
  have := w
  simp [Lit.wf, IntKind.min, IntKind.max, IntKind.signed, IntKind.bits] at this
  unfold inI64
  omega
set_option maxRecDepth 100000 in
theorem op_of {W : World} (fuel : Nat) (cs : List Value) (y : DataW H × List MemPlace) (hl : cs.length = 4) (h : DataW.trod enc Tryd.prog W 0 (fun _ => true) true fuel 56 cs = some y) :
    ∃ o : Op6, cs = cellsOp o ∧ (inI64 o.k ∧ inI64 o.at_ ∧ inI64 o.n ∧ RdRow W o.v o.recs.length 1 (strs o.recs)) ∧ 1 + (o.recs.length + sumLen o.recs) ≤ Rows.uptoBulk y.1 := by
  obtain ⟨xs, n, rfl, rfl, _, hxl, hf⟩ := DataW.trod_struct Tryd.underlying56 h
  match xs, hxl, cs, hl with
  | [y0, y1, y2, y3], _, [v0, v1, v2, v3], _ =>
    have ci : Tryd.prog.cellsOf 3 = 1 := by kernel_rfl
    have cs : Tryd.prog.cellsOf 22 = 1 := by kernel_rfl
    have g0 := hf 0 _ rfl
    have g1 := hf 1 _ rfl
    have g2 := hf 2 _ rfl
    have g3 := hf 3 _ rfl
    simp [ci, cs] at g0 g1 g2 g3
    obtain ⟨k0, e0, z0, w0⟩ := DataW.trod_int Tryd.underlying3 g0
    obtain ⟨k1, e1, z1, w1⟩ := DataW.trod_int Tryd.underlying3 g1
    obtain ⟨k2, e2, z2, w2⟩ := DataW.trod_int Tryd.underlying3 g2
    obtain ⟨ss, r4, b4⟩ := strs_of Tryd.underlying22 Tryd.underlying9 (by kernel_rfl) (d := y3.1) (ps := y3.2) g3
    simp only [List.cons.injEq, and_true] at e0 e1 e2
    subst e0 e1 e2
    refine ⟨⟨k0, k1, k2, v3, ss⟩, rfl, ⟨inI64_of w0, inI64_of w1, inI64_of w2, r4⟩, ?_⟩
    simp [Rows.uptoBulk, Rows.uptoBulkAll, z0, z1, z2]
    omega

set_option maxRecDepth 100000 in
/-- An argument '[]Op', opened. -/
theorem open_ops {W : World} {r : Reach} {b0 : Nat} {v : Value} {d : DataW H} {ps : List MemPlace}
    (hval : Value.okWide Tryd.prog W r b0 44 v) (hd : DataW.Trod enc Tryd.prog W 0 (fun _ => true) true 44 v d ps) (hk : Rows.uptoBulk d ≤ 1048576) :
    ∃ ops : List Op6, OpsRow W v ops ∧ ops.length ≤ 1048576 := by
  obtain ⟨a0, len, cap, rfl⟩ := okWide_slice Tryd.underlying44 hval
  obtain ⟨fuel, hf⟩ := hd
  obtain ⟨ops, h1, h2, h3⟩ := open_rowsG (c := cellsOp) (Q := fun o => inI64 o.k ∧ inI64 o.at_ ∧ inI64 o.n ∧ RdRow W o.v o.recs.length 1 (strs o.recs)) (B := fun o => 1 + (o.recs.length + sumLen o.recs)) cellsOp_len (by decide) Tryd.underlying44 (by kernel_rfl) op_of (by simpa [Value.cells] using hf)
  have hs : ∀ l : List Op6, l.length ≤ (l.map fun o => 1 + (o.recs.length + sumLen o.recs)).sum ∧ ∀ o ∈ l, o.recs.length + sumLen o.recs ≤ (l.map fun o => 1 + (o.recs.length + sumLen o.recs)).sum := fun l => by
    induction l with
    | nil => simp
    | cons a l ih =>
      simp only [List.length_cons, List.map_cons, List.sum_cons, List.mem_cons]
      refine ⟨by omega, fun o ho => ?_⟩
      rcases ho with rfl | ho
      · omega
      · have := ih.2 o ho; omega
  refine ⟨ops, ⟨h1, fun o ho => ?_⟩, by have := (hs ops).1; omega⟩
  obtain ⟨i0, i1, i2, i3⟩ := h2 o ho
  refine ⟨i0, i1, i2, i3, ?_⟩
  have h4 := (hs ops).2 o ho
  have h5 : (cat o.recs).length = sumLen o.recs := by simp [cat, sumLen, List.length_flatten]
  omega
end
end Go.Proofs.YtiimpnhjnodgpaaDoor
