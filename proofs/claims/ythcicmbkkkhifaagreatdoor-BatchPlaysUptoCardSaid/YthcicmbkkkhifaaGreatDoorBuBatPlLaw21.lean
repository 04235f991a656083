/- record.Writer: what its calls do, walked. · record.Writer: Put, Close walked. · record.Writer: Close walked; Open walked. · record.Open walked. · record.Reader: From, more walked. -/
import Derived.Test.YthcicmbkkkhifaaGreatDoorBuBatPlLaw17
import Derived.Test.YthcicmbkkkhifaaGreatDoorBuBatPlLaw03
import Derived.Test.YthcicmbkkkhifaaGreatDoorBuBatPlLaw04
import Derived.Test.YthcicmbkkkhifaaGreatDoorBuBatPlLaw20
import Derived.Deep.RegionHeld3
set_option linter.unusedSimpArgs false
set_option linter.unusedVariables false
namespace Go.Proofs.YthcicmbkkkhifaaGreatDoor
open Go.RowKit

/-- A writer. -/
structure WrD where
  run : Nat
  block : Nat
  buf : List UInt8
  dead : Nat
abbrev tWr : TypeId := 107
abbrev wrCells (b : Nat) (ef : Nat → Nat × Nat) (x : WrD) : Array Value := #[.pointer (some ⟨b, 0, none⟩), .int .i64 x.run, .int .i64 x.block, .string ⟨x.buf.toArray⟩, errV ef x.dead]
def WrT (k b : Nat) (ef : Nat → Nat × Nat) (x : WrD) : Thing := CellT k (wrCells b ef x) tWr
theorem WrT.stable (k b : Nat) (ef : Nat → Nat × Nat) (x : WrD) : Stable (WrT k b ef x) := CellT.stable _ _ _
theorem cell_at {w : World} {k : Nat} {cs : Array Value} {T : TypeId} (h : w.heap[k]? = some (.cells cs T (0, 0))) (i : Nat) : w.cell? ⟨k, i, none⟩ = cs[i]? := by simp [World.cell?, h]
theorem thaw_at {w : World} {k : Nat} {cs : Array Value} {T : TypeId} (h : w.heap[k]? = some (.cells cs T (0, 0))) (i : Nat) : w.frozen? ⟨k, i, none⟩ = false := by simp [World.frozen?, h]
structure WrFacts (w : World) (k b : Nat) (ef : Nat → Nat × Nat) (x : WrD) : Prop where
  c0 : w.cell? ⟨k, 0, none⟩ = some (.pointer (some ⟨b, 0, none⟩))
  c1 : w.cell? ⟨k, 1, none⟩ = some (.int .i64 x.run)
  c2 : w.cell? ⟨k, 2, none⟩ = some (.int .i64 x.block)
  c3 : w.cell? ⟨k, 3, none⟩ = some (.string ⟨x.buf.toArray⟩)
  c4 : w.cell? ⟨k, 4, none⟩ = some (errV ef x.dead)
  fz : ∀ j, w.frozen? ⟨k, j, none⟩ = false
  lt : k < w.heap.size
theorem At.wr {W w : World} {R : Thing} {k b : Nat} {ef : Nat → Nat × Nat} {x : WrD} (h : At W w (Both (WrT k b ef x) R)) : WrFacts w k b ef x := by
  have h1 := (show At W w (Both (CellT k (wrCells b ef x) tWr) R) from h).cell.1
  exact ⟨cell_at h1 0, cell_at h1 1, cell_at h1 2, cell_at h1 3, cell_at h1 4, thaw_at h1, lt_of_heap h1⟩
theorem At.setBuf {W w : World} {R : Thing} {k b : Nat} {ef : Nat → Nat × Nat} {x : WrD} (h : At W w (Both (WrT k b ef x) R)) (hR : Stable R) (t : List UInt8) : At W (w.setCell ⟨k, 3, none⟩ (.string ⟨t.toArray⟩)) (Both (WrT k b ef { x with buf := t }) R) :=
  (show At W w (Both (CellT k (wrCells b ef x) tWr) R) from h).setCell hR 3 (.string ⟨t.toArray⟩)
theorem At.setDead {W w : World} {R : Thing} {k b : Nat} {ef : Nat → Nat × Nat} {x : WrD} (h : At W w (Both (WrT k b ef x) R)) (hR : Stable R) (c : Nat) : At W (w.setCell ⟨k, 4, none⟩ (errV ef c)) (Both (WrT k b ef { x with dead := c }) R) :=
  (show At W w (Both (CellT k (wrCells b ef x) tWr) R) from h).setCell hR 4 (errV ef c)
theorem fails12_11 {W : World} {ef : Nat → Nat × Nat} (h : Fails W ef fails12) : Fails W ef fails11 := h.less (by decide)
theorem fails11_7 {W : World} {ef : Nat → Nat × Nat} (h : Fails W ef fails11) : Fails W ef fails7 := h.less (by decide)

/-- What flush does. -/
def flushP (S : St) (x : WrD) (n : Nat) : St × WrD × Nat :=
  if (appendP S x.run (x.buf.take n)).2 = 0 then ((appendP S x.run (x.buf.take n)).1, { x with buf := x.buf.drop n }, 0)
  else ((appendP S x.run (x.buf.take n)).1, { x with dead := (appendP S x.run (x.buf.take n)).2 }, (appendP S x.run (x.buf.take n)).2)
theorem run_neq_iface_nil2 (a : Addr) (wz : World) : (binOp .neq tErr (.iface tES (.pointer (some a))) .nilIface).run Tryz.prog wz = .ok (.bool true) wz := run_neq_iface_nil wz _ _ Tryz.underlying34
theorem cat_one (t : List UInt8) : cat [t] = t := by simp [cat]
theorem ex_take (t : List UInt8) (n : Nat) : (⟨t.toArray⟩ : ByteArray).extract 0 n = ⟨(t.take n).toArray⟩ := by rw [Lib.extract_eq]; simp
theorem ex_drop (t : List UInt8) (n : Nat) : (⟨t.toArray⟩ : ByteArray).extract n t.length = ⟨(t.drop n).toArray⟩ := by
  rw [Lib.extract_eq]
  congr 2
  rw [List.take_of_length_le]
  simp

set_option maxRecDepth 100000 in
set_option maxHeartbeats 3200000 in
theorem flush_at {W w : World} {R : Thing} {k b : Nat} {ef : Nat → Nat × Nat} {S : St} {x : WrD} (h : At W w (Both (WrT k b ef x) (Both (StoreT b S) R))) (hR : Stable R) (hF : Fails W ef fails11)
    (hle : ∀ p, S.find x.run = some p → p.2.text.length ≤ S.used) {n : Nat} (hn : n ≤ x.buf.length) (hbl : x.buf.length ≤ 1099511627776) (hrun : inI64 x.run) :
    Calls Tryz.prog 58 #[.pointer (some ⟨k, 0, none⟩), .int .i64 n] w fun e w' => e = .returned (errV ef (flushP S x n).2.2) ∧ At W w' (Both (WrT k b ef (flushP S x n).2.1) (Both (StoreT b (flushP S x n).1) R)) := by
  obtain ⟨c0, c1, c2, c3, c4, fz, hlt⟩ := h.wr
  have hst : Stable (Both (WrT k b ef x) (Both (StoreT b S) R)) := (WrT.stable _ _ _ _).both ((StoreT.stable _ _).both hR)
  have h2 := (h.alloc hst (.cells #[.string ⟨(x.buf.take n).toArray⟩] 9)).mono hst ((Below.refl _ _).drew)
  have hbs : b < w.heap.size := by
    obtain ⟨mb, blk, val, h1, _⟩ := h.swap.store
    exact h1.lt b (by simp [fpS])
  have hv : ∀ w', Upd [b] (w.alloc (.cells #[.string ⟨(x.buf.take n).toArray⟩] 9)).drew w' → RdRow w' (.slice (some ⟨w.heap.size, 0, none⟩) 1 1) [x.buf.take n].length 1 (strs [x.buf.take n]) := fun w' hu => by
    refine ⟨rfl, _, 1, rfl, Nat.le_refl _, by simp [maxLen], fun j u hj => ?_⟩
    have hb := hu.block w.heap.size (by simp) (by simp; omega)
    match j with
    | 0 =>
      simp at hj
      subst hj
      refine ⟨_, _, rfl, ?_⟩
      exact cell_at (hb.trans (heap_alloc_new w (.cells #[.string ⟨(x.buf.take n).toArray⟩] 9))) 0
    | j + 1 => simp at hj
  have happ := Append_7 h2.swap ((WrT.stable _ _ _ _).both hR) (fails11_7 hF) hrun hle hv (by rw [cat_one, List.length_take]; omega)
  rw [cat_one] at happ
  have HA := Lib.hid happ
  have HST := Lib.hid ((WrT.stable k b ef x).both hR)
  have HR := Lib.hid hR
  have het := ex_take x.buf n
  have hed := ex_drop x.buf n
  have hnl : (n : Int) ≤ (x.buf.length : Int) := by omega
  have hn0 : (0 : Int) ≤ n := by omega
  have hcg := And.intro c0 (And.intro c1 c3)
  clear h2 hv happ hst h c2 c4 hF hle
  unfold flushP
  by_cases hz : (appendP S x.run (x.buf.take n)).2 = 0
  · rw [if_pos hz]
    rw [hz, errV_zero] at HA
    generalize (appendP S x.run (x.buf.take n)).1 = S2 at *
    clear hz
    dsimp only
    rw [errV_zero]
    go_enter Tryz.func58, Tryz.ntmps58
    go_upto_region 1 with (fail)
    go_region_held3 (fun wx => wx.cell? ⟨k, 0, none⟩ = some (.pointer (some ⟨b, 0, none⟩)) ∧ wx.cell? ⟨k, 1, none⟩ = some (.int .i64 x.run) ∧ wx.cell? ⟨k, 3, none⟩ = some (.string ⟨x.buf.toArray⟩)) (first | assumption | go_keep) (((with_reducible refine Calls.mono HA.out ?_); rintro e w3 ⟨rfl, h4⟩; have H4 := Lib.hid h4.swap; have cg4 := And.intro h4.swap.wr.c0 (And.intro h4.swap.wr.c1 h4.swap.wr.c3); have hl4 := h4.swap.wr.lt; clear h4))
    all_goals
      clear cg4 hcg
      have neqn : ∀ wz : World, (binOp .neq tErr .nilIface .nilIface).run Tryz.prog wz = .ok (.bool false) wz := fun wz => neq_nil wz
      obtain ⟨_, _, _, c3, _, fz, _⟩ := H4.out.wr
      have HEND := Lib.hid (H4.out.setBuf ((StoreT.stable _ _).both HR.out) (x.buf.drop n))
      clear H4 HA
      (repeat' (first | (go_big_may; fail) | go_values | go_skip | go_guarded | go_step | go_upon | go_back | dsimp only))
      go_ret
      exact ⟨rfl, HEND.out⟩
  · rw [if_neg hz]
    dsimp only
    rw [errV_pos ef hz] at HA ⊢
    have hep := errV_pos ef hz
    generalize hc : (appendP S x.run (x.buf.take n)).2 = c at *
    generalize (appendP S x.run (x.buf.take n)).1 = S2 at *
    have HEP := Lib.hid hep
    clear hz hc hep
    go_enter Tryz.func58, Tryz.ntmps58
    go_upto_region 1 with (fail)
    go_region_held3 (fun wx => wx.cell? ⟨k, 0, none⟩ = some (.pointer (some ⟨b, 0, none⟩)) ∧ wx.cell? ⟨k, 1, none⟩ = some (.int .i64 x.run) ∧ wx.cell? ⟨k, 3, none⟩ = some (.string ⟨x.buf.toArray⟩)) (first | assumption | go_keep) (((with_reducible refine Calls.mono HA.out ?_); rintro e w3 ⟨rfl, h4⟩; have H4 := Lib.hid h4.swap; have cg4 := And.intro h4.swap.wr.c0 (And.intro h4.swap.wr.c1 h4.swap.wr.c3); have hl4 := h4.swap.wr.lt; clear h4))
    all_goals
      clear cg4 hcg
      have neqn := run_neq_iface_nil2 ⟨(ef c).1, (ef c).2, none⟩
      obtain ⟨_, _, _, _, c4, fz, _⟩ := H4.out.wr
      have hend := H4.out.setDead ((StoreT.stable _ _).both HR.out) c
      rw [HEP.out] at hend
      have HEND := Lib.hid hend
      have hcx : ∃ vd, w3.cell? ⟨k, 4, none⟩ = some vd := ⟨_, c4⟩
      obtain ⟨vd, c4⟩ := hcx
      clear H4 HA hend
      (repeat' (first | (go_big_may; fail) | go_values | go_skip | go_guarded | go_step | go_upon | go_back | dsimp only))
      go_ret
      exact ⟨rfl, HEND.out⟩
end Go.Proofs.YthcicmbkkkhifaaGreatDoor
namespace Go.Proofs.YthcicmbkkkhifaaGreatDoor
open Go.RowKit

set_option maxHeartbeats 800000 in
theorem wrState_calls {w : World} {k b : Nat} {ef : Nat → Nat × Nat} {x : WrD} (h : WrFacts w k b ef x) :
    Calls Tryz.prog 56 #[.pointer (some ⟨k, 0, none⟩)] w fun e w' => e = .returned (errV ef x.dead) ∧ w = w' := by
  obtain ⟨_, _, _, _, c4, _, _⟩ := h
  generalize errV ef x.dead = v at *
  go_enter Tryz.func56, Tryz.ntmps56
  (repeat' (first | (go_big_may; fail) | go_values | go_skip | go_guarded | go_step | go_upon | go_back | dsimp only))
  go_ret
  exact ⟨rfl, rfl⟩

def bufLen (w : World) (k : Nat) : Nat := match w.cell? ⟨k, 3, none⟩ with | some (.string s) => s.size | _ => 0
/-- The blocks that are whole are flushed. -/
def putL : Nat → St → WrD → St × WrD × Nat
  | 0, S, x => (S, x, 0)
  | n + 1, S, x => if x.block ≤ x.buf.length then (if (flushP S x x.block).2.2 = 0 then putL n (flushP S x x.block).1 (flushP S x x.block).2.1 else flushP S x x.block) else (S, x, 0)
def putP (S : St) (x : WrD) (recs : List (List UInt8)) : St × WrD × Nat :=
  if x.dead ≠ 0 then (S, x, x.dead) else if fits recs = false then (S, x, 10) else putL ((x.buf ++ frameL recs).length + 1) S { x with buf := x.buf ++ frameL recs }
/-- What stays true of a store whose writer works. -/
structure Inv (I : St → Prop) : Prop where
  le : ∀ S, I S → ∀ (z : Int) p, S.find z = some p → p.2.text.length ≤ S.used
  app : ∀ S (z : Int) t, I S → I (appendP S z t).1
theorem flushP_inv {I : St → Prop} (hI : Inv I) {S : St} (h : I S) (x : WrD) (n : Nat) : I (flushP S x n).1 := by
  unfold flushP
  split <;> exact hI.app _ _ _ h
theorem flushP_ok {S : St} {x : WrD} {n : Nat} (h : (flushP S x n).2.2 = 0) : (flushP S x n).2.1 = { x with buf := x.buf.drop n } := by
  unfold flushP at h ⊢
  by_cases hz : (appendP S x.run (x.buf.take n)).2 = 0
  · rw [if_pos hz]
  · rw [if_neg hz] at h; exact absurd h hz

set_option maxRecDepth 100000 in
set_option maxHeartbeats 6400000 in
theorem Put_at {I : St → Prop} (hI : Inv I) {W w : World} {R : Thing} {k b : Nat} {ef : Nat → Nat × Nat} {S : St} {x : WrD} (h : At W w (Both (WrT k b ef x) (Both (StoreT b S) R))) (hR : Stable R) (hF : Fails W ef fails11)
    (hS : I S) (hb1 : 1 ≤ x.block) (hb2 : x.block ≤ 4096) (hrun : inI64 x.run) {v : Value} {ss : List (List UInt8)} (hrd : RdRow w v ss.length 1 (strs ss)) (hlen : x.buf.length + (frameL ss).length ≤ 1099511627776) :
    Calls Tryz.prog 44 #[.pointer (some ⟨k, 0, none⟩), v] w fun e w' => e = .returned (errV ef (putP S x ss).2.2) ∧ At W w' (Both (WrT k b ef (putP S x ss).2.1) (Both (StoreT b (putP S x ss).1) R)) := by
  have HST := Lib.hid ((WrT.stable k b ef x).both ((StoreT.stable b S).both hR))
  have HSTA := Lib.hid hrun
  have HF := Lib.hid hF
  have HR := Lib.hid hR
  have H := Lib.hid h
  have HSS := Lib.hid hS
  unfold putP
  by_cases hd : x.dead = 0
  · rw [if_neg (by simpa using hd)]
    by_cases hfit : fits ss = false
    · rw [if_pos hfit]
      have hfr : frameR ss = ([], 62) := by unfold frameR; rw [hfit]; rfl
      have hfc := Frame_calls ss v w hrd (by omega)
      rw [hfr] at hfc
      have HFC := Lib.hid hfc
      have hst := wrState_calls h.wr
      rw [hd, errV_zero] at hst
      have HSC := Lib.hid hst
      have neqn : ∀ wz : World, (binOp .neq tErr .nilIface .nilIface).run Tryz.prog wz = .ok (.bool false) wz := fun wz => neq_nil wz
      dsimp only
      rw [errV_pos ef (by decide)]
      clear h hfc hst hfr hd hfit hrd hF hR hS
      go_enter Tryz.func44, Tryz.ntmps44
      (repeat' (first | (go_big_may; fail) | go_values | go_skip | go_guarded | go_step | go_upon | go_back | dsimp only))
      refine HSC.out.mono ?_
      rintro e w1 ⟨rfl, rfl⟩
      (repeat' (first | (go_big_may; fail) | go_values | go_skip | go_guarded | go_step | go_upon | go_back | dsimp only))
      refine HFC.out.mono ?_
      rintro e w2 ⟨rfl, hb⟩
      have H2 := Lib.hid (H.out.mono HST.out hb)
      have cg := (HF.out.below H2.out.below).cell (10, 3) (by decide)
      clear hb
      (repeat' (first | (go_big_may; fail) | go_values | go_skip | go_guarded | go_step | go_upon | go_back | dsimp only))
      go_ret
      exact ⟨rfl, H2.out⟩
    · rw [if_neg hfit]
      have hft : fits ss = true := by simpa using hfit
      have hfr : frameR ss = (frameL ss, 0) := by unfold frameR; rw [hft]; rfl
      have hfc := Frame_calls ss v w hrd (by omega)
      rw [hfr] at hfc
      have HFC := Lib.hid hfc
      have hst := wrState_calls h.wr
      rw [hd, errV_zero] at hst
      have HSC := Lib.hid hst
      have neqn : ∀ wz : World, (binOp .neq tErr .nilIface .nilIface).run Tryz.prog wz = .ok (.bool false) wz := fun wz => neq_nil wz
      obtain ⟨res, hres⟩ : ∃ res, res = putL ((x.buf ++ frameL ss).length + 1) S { x with buf := x.buf ++ frameL ss } := ⟨_, rfl⟩
      rw [← hres]
      have HRES := Lib.hid hres
      have hcat : (⟨x.buf.toArray⟩ : ByteArray) ++ ⟨(frameL ss).toArray⟩ = ⟨(x.buf ++ frameL ss).toArray⟩ := by
        apply ByteArray.ext
        simp [ByteArray.data_append]
      have hsum : ¬ 9223372036854775807 < x.buf.length + (frameL ss).length := by omega
      clear h hfc hst hfr hd hfit hft hrd hF hR hS hres
      go_enter Tryz.func44, Tryz.ntmps44
      (repeat' (first | (go_big_may; fail) | go_values | go_skip | go_guarded | go_step | go_upon | go_back | dsimp only))
      refine HSC.out.mono ?_
      rintro e w1 ⟨rfl, rfl⟩
      (repeat' (first | (go_big_may; fail) | go_values | go_skip | go_guarded | go_step | go_upon | go_back | dsimp only))
      refine HFC.out.mono ?_
      rintro e w2 ⟨rfl, hb⟩
      have H2 := Lib.hid (H.out.mono HST.out hb)
      obtain ⟨c0, c1, c2, c3, c4, fz, hlt⟩ := H2.out.wr
      have H3 := Lib.hid (H2.out.setBuf ((StoreT.stable _ _).both HR.out) (x.buf ++ frameL ss))
      clear hb H2 H HSC HFC c4
      (repeat' (first | (go_big_may; fail) | go_values | go_skip | go_guarded | go_step | go_upon | go_back | dsimp only))
      generalize w2.setCell ⟨k, 3, none⟩ (.string ⟨(x.buf ++ frameL ss).toArray⟩) = w3 at *
      clear c0 c1 c2 c3 fz hlt hcat hsum
      go_loopw [] (fun wr => ∃ (n : Nat) (S1 : St) (x1 : WrD), x1.buf.length < n ∧ x1.buf.length ≤ x.buf.length + (frameL ss).length ∧ res = putL n S1 x1 ∧ I S1 ∧ x1.block = x.block ∧ x1.run = x.run ∧ At W wr (Both (WrT k b ef x1) (Both (StoreT b S1) R))) (fun wr => bufLen wr k)
      case atStart => exact ⟨_, S, { x with buf := x.buf ++ frameL ss }, Nat.lt_succ_self _, by simp, HRES.out, HSS.out, rfl, rfl, H3.out⟩
      case round =>
        obtain ⟨n, S1, x1, hn, hl1, hr1, hS1, hbk, hrn, h1⟩ := hrel
        have H1 := Lib.hid h1
        have HS1 := Lib.hid hS1
        obtain ⟨_, _, c2, c3, _, _, hlt⟩ := h1.wr
        obtain ⟨n, rfl⟩ : ∃ m, n = m + 1 := ⟨n - 1, by omega⟩
        have hml : bufLen wr k = x1.buf.length := by unfold bufLen; rw [c3]; simp [ByteArray.size]
        have HML := Lib.hid hml
        have HR1 := Lib.hid hr1
        have HBK := Lib.hid hbk
        have HRN := Lib.hid hrn
        clear HRES h1 hS1 hr1 hml H3 hbk hrn
        by_cases hge : x1.block ≤ x1.buf.length
        · have hge2 : (x1.block : Int) ≤ (x1.buf.length : Int) := by omega
          have hfl := fun (w' : World) (hb : Below wr.heap.size wr w') => flush_at (H1.out.mono ((WrT.stable _ _ _ _).both ((StoreT.stable _ _).both HR.out)) hb) HR.out HF.out (hI.le _ HS1.out _) (n := x1.block) hge (by omega) (by rw [HRN.out]; exact HSTA.out)
          have hinv := flushP_inv hI HS1.out x1 x1.block
          have hfo := flushP_ok (S := S1) (x := x1) (n := x1.block)
          have hr1 := HR1.out
          unfold putL at hr1
          rw [if_pos hge] at hr1
          generalize hFP : flushP S1 x1 x1.block = FP at *
          obtain ⟨S2, x2, c⟩ := FP
          dsimp only at hr1 hinv hfo hfl
          by_cases hc : c = 0
          · subst hc
            rw [if_pos rfl] at hr1
            have hx2 := hfo rfl
            rw [errV_zero] at hfl
            have HFL := Lib.hid hfl
            have HX2 := Lib.hid hx2
            have HR2 := Lib.hid hr1
            have HI2 := Lib.hid hinv
            clear hfl hx2 hr1 hinv hfo hFP HR1
            (repeat' (first | (go_big_may; fail) | go_values | go_skip | go_guarded | go_step | go_upon | go_back | dsimp only))
            go_quiet (fail)
            (repeat' (first | (go_big_may; fail) | go_values | go_skip | go_guarded | go_step | go_upon | go_back | dsimp only))
            refine (HFL.out _ (below_dW _ _)).mono ?_
            rintro e w3 ⟨rfl, h3⟩
            have H4 := Lib.hid h3
            have hm3 : bufLen w3 k = x1.buf.length - x1.block := by
              unfold bufLen; rw [h3.wr.c3, HX2.out]; simp [ByteArray.size]
            have HM3 := Lib.hid hm3
            clear h3 hm3 HFL c2 c3 hlt
            (repeat' (first | (go_big_may; fail) | go_values | go_skip | go_guarded | go_step | go_upon | go_back | dsimp only))
            go_roundw
            case rel => exact ⟨n, S2, x2, by rw [HX2.out]; simp only [List.length_drop]; have := HBK.out; omega, by rw [HX2.out]; simp only [List.length_drop]; omega, HR2.out, HI2.out, by rw [HX2.out]; exact HBK.out, by rw [HX2.out]; exact HRN.out, H4.out⟩
            case measure => rw [HM3.out, HML.out]; have := HBK.out; omega
          · rw [if_neg hc] at hr1
            rw [errV_pos ef hc] at hfl
            have HFL := Lib.hid hfl
            have HR2 := Lib.hid hr1
            have HEP := Lib.hid (errV_pos ef hc)
            have neqi := run_neq_iface_nil2 ⟨(ef c).1, (ef c).2, none⟩
            clear hfl hr1 hinv hfo hFP HR1 hc
            (repeat' (first | (go_big_may; fail) | go_values | go_skip | go_guarded | go_step | go_upon | go_back | dsimp only))
            go_quiet (fail)
            (repeat' (first | (go_big_may; fail) | go_values | go_skip | go_guarded | go_step | go_upon | go_back | dsimp only))
            refine (HFL.out _ (below_dW _ _)).mono ?_
            rintro e w3 ⟨rfl, h3⟩
            have H4 := Lib.hid h3
            clear h3 HFL c2 c3 hlt
            (repeat' (first | (go_big_may; fail) | go_values | go_skip | go_guarded | go_step | go_upon | go_back | dsimp only))
            go_ret
            rw [HR2.out]
            dsimp only
            rw [HEP.out]
            exact ⟨rfl, H4.out⟩
        · have hr1 := HR1.out
          unfold putL at hr1
          rw [if_neg hge] at hr1
          have HR2 := Lib.hid hr1
          have hge2 : ¬ (x1.block : Int) ≤ (x1.buf.length : Int) := by omega
          clear hr1 HR1
          (repeat' (first | (go_big_may; fail) | go_values | go_skip | go_guarded | go_step | go_upon | go_back | dsimp only))
          go_quiet (fail)
          (repeat' (first | (go_big_may; fail) | go_values | go_skip | go_guarded | go_step | go_upon | go_back | dsimp only))
          go_ret
          rw [HR2.out]
          dsimp only
          rw [errV_zero]
          exact ⟨rfl, H1.out.mono ((WrT.stable _ _ _ _).both ((StoreT.stable _ _).both HR.out)) (below_dW _ _)⟩
  · rw [if_pos (by simpa using hd)]
    have hst := wrState_calls h.wr
    rw [errV_pos ef hd] at hst ⊢
    have HSC := Lib.hid hst
    have neqn := run_neq_iface_nil2 ⟨(ef x.dead).1, (ef x.dead).2, none⟩
    clear h hst hd hrd hF hR hS
    go_enter Tryz.func44, Tryz.ntmps44
    (repeat' (first | (go_big_may; fail) | go_values | go_skip | go_guarded | go_step | go_upon | go_back | dsimp only))
    refine HSC.out.mono ?_
    rintro e w1 ⟨rfl, rfl⟩
    (repeat' (first | (go_big_may; fail) | go_values | go_skip | go_guarded | go_step | go_upon | go_back | dsimp only))
    go_ret
    exact ⟨rfl, H.out⟩
end Go.Proofs.YthcicmbkkkhifaaGreatDoor
namespace Go.Proofs.YthcicmbkkkhifaaGreatDoor
open Go.RowKit

/-- The buffer's rest is flushed. -/
def restP (S : St) (x : WrD) : St × WrD × Nat := if x.buf = [] then (S, x, 0) else flushP S x x.buf.length
def closeP (S : St) (x : WrD) : St × WrD × Nat × Nat :=
  if x.dead ≠ 0 then (S, x, 0, x.dead) else
  if (restP S x).2.2 ≠ 0 then ((restP S x).1, (restP S x).2.1, 0, (restP S x).2.2) else
  if (sealP (restP S x).1 (restP S x).2.1.run).2 ≠ 0 then ((sealP (restP S x).1 (restP S x).2.1.run).1, { (restP S x).2.1 with dead := (sealP (restP S x).1 (restP S x).2.1.run).2 }, 0, (sealP (restP S x).1 (restP S x).2.1.run).2)
  else ((sealP (restP S x).1 (restP S x).2.1.run).1, { (restP S x).2.1 with dead := 13 }, (restP S x).2.1.run, 0)
theorem restP_run (S : St) (x : WrD) : (restP S x).2.1.run = x.run := by
  unfold restP flushP
  split
  · rfl
  · split <;> rfl

set_option maxRecDepth 100000 in
set_option maxHeartbeats 6400000 in
theorem Close_at {I : St → Prop} (hI : Inv I) {W w : World} {R : Thing} {k b : Nat} {ef : Nat → Nat × Nat} {S : St} {x : WrD} (h : At W w (Both (WrT k b ef x) (Both (StoreT b S) R))) (hR : Stable R) (hF : Fails W ef fails11)
    (hS : I S) (hrun : inI64 x.run) (hlen : x.buf.length ≤ 1099511627776) :
    Calls Tryz.prog 46 #[.pointer (some ⟨k, 0, none⟩)] w fun e w' => e = .returned (.tuple #[.int .i64 (closeP S x).2.2.1, errV ef (closeP S x).2.2.2]) ∧ At W w' (Both (WrT k b ef (closeP S x).2.1) (Both (StoreT b (closeP S x).1) R)) := by
  have HF := Lib.hid hF
  have HR := Lib.hid hR
  have H := Lib.hid h
  have HSS := Lib.hid hS
  have HRUN := Lib.hid hrun
  have neqn : ∀ wz : World, (binOp .neq tErr .nilIface .nilIface).run Tryz.prog wz = .ok (.bool false) wz := fun wz => neq_nil wz
  obtain ⟨res, hres⟩ : ∃ res, res = closeP S x := ⟨_, rfl⟩
  rw [← hres]
  unfold closeP at hres
  by_cases hd : x.dead = 0
  · rw [if_neg (by simpa using hd)] at hres
    have hst := wrState_calls h.wr
    rw [hd, errV_zero] at hst
    have HSC := Lib.hid hst
    -- behind the rest: seal
    have hrest : ∀ (w3 : World) (S1 : St) (x1 : WrD), x1.run = x.run → At W w3 (Both (WrT k b ef x1) (Both (StoreT b S1) R)) → ∀ (w4 : World), Below w3.heap.size w3 w4 → Calls Tryz.prog 59 #[.pointer (some ⟨b, 0, none⟩), .int .i64 x1.run] w4 fun e w' => e = .returned (errV ef (sealP S1 x1.run).2) ∧ At W w' (Both (WrT k b ef x1) (Both (StoreT b (sealP S1 x1.run).1) R)) := fun w3 S1 x1 hr1 h3 w4 hb => by
      have h4 := h3.mono ((WrT.stable _ _ _ _).both ((StoreT.stable _ _).both HR.out)) hb
      refine (Seal_7 h4.swap ((WrT.stable _ _ _ _).both HR.out) (fails11_7 HF.out) (by rw [hr1]; exact HRUN.out)).mono ?_
      rintro e w' ⟨he, hw⟩
      exact ⟨he, hw.swap⟩
    have HREST := Lib.hid hrest
    have hrr := restP_run S x
    have HRR := Lib.hid hrr
    clear hrest hst hrr
    by_cases hb0 : x.buf = []
    · have hre : restP S x = (S, x, 0) := if_pos hb0
      rw [hre] at hres
      dsimp only at hres
      rw [if_neg (by simp)] at hres
      have c3 := h.wr.c3
      rw [hb0] at c3
      clear h hd hF hS hb0 hre
      go_enter Tryz.func46, Tryz.ntmps46
      (repeat' (first | (go_big_may; fail) | go_values | go_skip | go_guarded | go_step | go_upon | go_back | dsimp only))
      refine HSC.out.mono ?_
      rintro e w1 ⟨rfl, rfl⟩
      obtain ⟨c0, c1, _, _, _, _, hlt⟩ := H.out.wr
      have hseal := HREST.out _ _ _ rfl H.out w.drew ((Below.refl _ _).drew)
      have hcg := And.intro c0 c1
      go_upto_region 8 with (fail)
      by_cases hs : (sealP S x.run).2 = 0
      · rw [if_neg (by simpa using hs)] at hres
        rw [hs, errV_zero] at hseal
        have HSEAL := Lib.hid hseal
        have HRES := Lib.hid hres
        clear hseal hs hres
        go_region_held3 (fun wx => wx.cell? ⟨k, 0, none⟩ = some (.pointer (some ⟨b, 0, none⟩)) ∧ wx.cell? ⟨k, 1, none⟩ = some (.int .i64 x.run)) (first | assumption | go_keep) (((with_reducible refine Calls.mono HSEAL.out ?_); rintro e w5 ⟨rfl, h5⟩; have H5 := Lib.hid h5; have cg5 := And.intro h5.wr.c0 h5.wr.c1; have hl5 := h5.wr.lt; clear h5))
        all_goals
          have hend := H5.out.setDead ((StoreT.stable _ _).both HR.out) 13
          rw [errV_pos ef (by decide)] at hend
          have HEND := Lib.hid hend
          have cgl := (HF.out.below H5.out.below).cell (13, 0) (by decide)
          obtain ⟨_, d1, _, _, d4, dz, dl⟩ := H5.out.wr
          obtain ⟨vd, d4⟩ : ∃ vd, w5.cell? ⟨k, 4, none⟩ = some vd := ⟨_, d4⟩
          have hgk : ¬ 0 = k := fun e => by
            have h1 := H5.out.wr.c0
            rw [← e, cgl] at h1
            cases h1
          clear hend hcg cg5 c0 c1 HSEAL
          (repeat' (first | (go_big_may; fail) | go_values | go_skip | go_guarded | go_step | go_upon | go_back | dsimp only))
          go_ret2
          rw [HRES.out]
          dsimp only
          rw [errV_zero]
          exact ⟨rfl, HEND.out⟩
      · rw [if_pos (by simpa using hs)] at hres
        have HEP := Lib.hid (errV_pos ef hs)
        rw [errV_pos ef hs] at hseal
        generalize hcc : (sealP S x.run).2 = c at *
        have neqi := run_neq_iface_nil2 ⟨(ef c).1, (ef c).2, none⟩
        have HSEAL := Lib.hid hseal
        have HRES := Lib.hid hres
        clear hseal hs hres hcc
        go_region_held3 (fun wx => wx.cell? ⟨k, 0, none⟩ = some (.pointer (some ⟨b, 0, none⟩)) ∧ wx.cell? ⟨k, 1, none⟩ = some (.int .i64 x.run)) (first | assumption | go_keep) (((with_reducible refine Calls.mono HSEAL.out ?_); rintro e w5 ⟨rfl, h5⟩; have H5 := Lib.hid h5; have cg5 := And.intro h5.wr.c0 h5.wr.c1; have hl5 := h5.wr.lt; clear h5))
        all_goals
          have hend := H5.out.setDead ((StoreT.stable _ _).both HR.out) c
          rw [HEP.out] at hend
          have HEND := Lib.hid hend
          obtain ⟨_, d1, _, _, d4, dz, dl⟩ := H5.out.wr
          obtain ⟨vd, d4⟩ : ∃ vd, w5.cell? ⟨k, 4, none⟩ = some vd := ⟨_, d4⟩
          clear hend hcg cg5 c0 c1 HSEAL
          (repeat' (first | (go_big_may; fail) | go_values | go_skip | go_guarded | go_step | go_upon | go_back | dsimp only))
          go_ret2
          rw [HRES.out]
          dsimp only
          rw [HEP.out]
          exact ⟨rfl, HEND.out⟩
    · have hre : restP S x = flushP S x x.buf.length := if_neg hb0
      have hfl := flush_at h hR hF (hI.le _ hS _) (n := x.buf.length) (Nat.le_refl _) hlen hrun
      rw [← hre] at hfl
      have c3 := h.wr.c3
      have hne : x.buf.isEmpty = false := by simpa using hb0
      clear hb0
      generalize hRP : restP S x = RP at *
      obtain ⟨S1, x1, c1⟩ := RP
      dsimp only at hres hfl
      have hr1 : x1.run = x.run := HRR.out
      have HR1 := Lib.hid hr1
      by_cases hc1 : c1 = 0
      · subst hc1
        rw [if_neg (by simp)] at hres
        rw [errV_zero] at hfl
        have HFL := Lib.hid hfl
        clear h hd hF hS hre hRP hfl hr1
        go_enter Tryz.func46, Tryz.ntmps46
        (repeat' (first | (go_big_may; fail) | go_values | go_skip | go_guarded | go_step | go_upon | go_back | dsimp only))
        refine HSC.out.mono ?_
        rintro e w1 ⟨rfl, rfl⟩
        (repeat' (first | (go_big_may; fail) | go_values | go_skip | go_guarded | go_step | go_upon | go_back | dsimp only))
        refine HFL.out.mono ?_
        rintro e w3 ⟨rfl, h3⟩
        have H3 := Lib.hid h3
        clear h3 c3 hne HFL
        obtain ⟨c0, c1, _, _, _, _, hlt⟩ := H3.out.wr
        have hseal := HREST.out _ _ _ HR1.out H3.out w3.drew ((Below.refl _ _).drew)
        have hcg := And.intro c0 c1
        go_upto_region 8 with (fail)
        by_cases hs : (sealP S1 x1.run).2 = 0
        · rw [if_neg (by simpa using hs)] at hres
          rw [hs, errV_zero] at hseal
          have HSEAL := Lib.hid hseal
          have HRES := Lib.hid hres
          clear hseal hs hres
          go_region_held3 (fun wx => wx.cell? ⟨k, 0, none⟩ = some (.pointer (some ⟨b, 0, none⟩)) ∧ wx.cell? ⟨k, 1, none⟩ = some (.int .i64 x1.run)) (first | assumption | go_keep) (((with_reducible refine Calls.mono HSEAL.out ?_); rintro e w5 ⟨rfl, h5⟩; have H5 := Lib.hid h5; have cg5 := And.intro h5.wr.c0 h5.wr.c1; have hl5 := h5.wr.lt; clear h5))
          all_goals
            have hend := H5.out.setDead ((StoreT.stable _ _).both HR.out) 13
            rw [errV_pos ef (by decide)] at hend
            have HEND := Lib.hid hend
            have cgl := (HF.out.below H5.out.below).cell (13, 0) (by decide)
            obtain ⟨_, d1, _, _, d4, dz, dl⟩ := H5.out.wr
            obtain ⟨vd, d4⟩ : ∃ vd, w5.cell? ⟨k, 4, none⟩ = some vd := ⟨_, d4⟩
            have hgk : ¬ 0 = k := fun e => by
              have h1 := H5.out.wr.c0
              rw [← e, cgl] at h1
              cases h1
            clear hend hcg cg5 c0 c1 HSEAL
            (repeat' (first | (go_big_may; fail) | go_values | go_skip | go_guarded | go_step | go_upon | go_back | dsimp only))
            go_ret2
            rw [HRES.out]
            dsimp only
            rw [errV_zero]
            exact ⟨rfl, HEND.out⟩
        · rw [if_pos (by simpa using hs)] at hres
          have HEP := Lib.hid (errV_pos ef hs)
          rw [errV_pos ef hs] at hseal
          generalize hcc : (sealP S1 x1.run).2 = c at *
          have neqi := run_neq_iface_nil2 ⟨(ef c).1, (ef c).2, none⟩
          have HSEAL := Lib.hid hseal
          have HRES := Lib.hid hres
          clear hseal hs hres hcc
          go_region_held3 (fun wx => wx.cell? ⟨k, 0, none⟩ = some (.pointer (some ⟨b, 0, none⟩)) ∧ wx.cell? ⟨k, 1, none⟩ = some (.int .i64 x1.run)) (first | assumption | go_keep) (((with_reducible refine Calls.mono HSEAL.out ?_); rintro e w5 ⟨rfl, h5⟩; have H5 := Lib.hid h5; have cg5 := And.intro h5.wr.c0 h5.wr.c1; have hl5 := h5.wr.lt; clear h5))
          all_goals
            have hend := H5.out.setDead ((StoreT.stable _ _).both HR.out) c
            rw [HEP.out] at hend
            have HEND := Lib.hid hend
            obtain ⟨_, d1, _, _, d4, dz, dl⟩ := H5.out.wr
            obtain ⟨vd, d4⟩ : ∃ vd, w5.cell? ⟨k, 4, none⟩ = some vd := ⟨_, d4⟩
            clear hend hcg cg5 c0 c1 HSEAL
            (repeat' (first | (go_big_may; fail) | go_values | go_skip | go_guarded | go_step | go_upon | go_back | dsimp only))
            go_ret2
            rw [HRES.out]
            dsimp only
            rw [HEP.out]
            exact ⟨rfl, HEND.out⟩
      · rw [if_pos (by simpa using hc1)] at hres
        have HEP := Lib.hid (errV_pos ef hc1)
        rw [errV_pos ef hc1] at hfl
        have neqi := run_neq_iface_nil2 ⟨(ef c1).1, (ef c1).2, none⟩
        have HFL := Lib.hid hfl
        have HRES := Lib.hid hres
        clear h hd hF hS hre hRP hfl hr1 hc1 hres
        go_enter Tryz.func46, Tryz.ntmps46
        (repeat' (first | (go_big_may; fail) | go_values | go_skip | go_guarded | go_step | go_upon | go_back | dsimp only))
        refine HSC.out.mono ?_
        rintro e w1 ⟨rfl, rfl⟩
        (repeat' (first | (go_big_may; fail) | go_values | go_skip | go_guarded | go_step | go_upon | go_back | dsimp only))
        refine HFL.out.mono ?_
        rintro e w3 ⟨rfl, h3⟩
        have H3 := Lib.hid h3
        clear h3 c3 hne HFL
        (repeat' (first | (go_big_may; fail) | go_values | go_skip | go_guarded | go_step | go_upon | go_back | dsimp only))
        go_ret2
        rw [HRES.out]
        dsimp only
        rw [HEP.out]
        exact ⟨rfl, H3.out⟩
  · rw [if_pos (by simpa using hd)] at hres
    have hst := wrState_calls h.wr
    rw [errV_pos ef hd] at hst
    have HSC := Lib.hid hst
    have HRES := Lib.hid hres
    have HEP := Lib.hid (errV_pos ef hd)
    have neqi := run_neq_iface_nil2 ⟨(ef x.dead).1, (ef x.dead).2, none⟩
    clear h hst hd hF hR hS hres
    go_enter Tryz.func46, Tryz.ntmps46
    (repeat' (first | (go_big_may; fail) | go_values | go_skip | go_guarded | go_step | go_upon | go_back | dsimp only))
    refine HSC.out.mono ?_
    rintro e w1 ⟨rfl, rfl⟩
    (repeat' (first | (go_big_may; fail) | go_values | go_skip | go_guarded | go_step | go_upon | go_back | dsimp only))
    go_ret2
    rw [HRES.out]
    dsimp only
    rw [HEP.out]
    exact ⟨rfl, H.out⟩
end Go.Proofs.YthcicmbkkkhifaaGreatDoor
namespace Go.Proofs.YthcicmbkkkhifaaGreatDoor
open Go.RowKit

section
variable {W w : World} {R : Thing} {b : Nat} {ef : Nat → Nat × Nat} {S : St}
set_option maxRecDepth 100000 in
set_option maxHeartbeats 1600000 in
theorem Open_ok (h : At W w (Both (StoreT b S) R)) (hR : Stable R) (hF : Fails W ef fails11) {n : Nat} (hn : 1 ≤ n ∧ n ≤ 4096) (hc : (createP S).2.2 = 0) :
    Calls Tryz.prog 41 #[.pointer (some ⟨b, 0, none⟩), .int .i64 n] w fun e w' => ∃ k, e = .returned (.tuple #[.pointer (some ⟨k, 0, none⟩), .nilIface]) ∧ At W w' (Both (WrT k b ef ⟨(createP S).2.1, n, [], 0⟩) (Both (StoreT b (createP S).1) R)) := by
  have hcr := Create_7 h hR (fails11_7 hF)
  rw [hc, errV_zero] at hcr
  have HCR := Lib.hid hcr
  have neqn : ∀ wz : World, (binOp .neq tErr .nilIface .nilIface).run Tryz.prog wz = .ok (.bool false) wz := fun wz => neq_nil wz
  have h1 : ¬ (n : Int) < 1 := by omega
  have h2 : ¬ 4096 < (n : Int) := by omega
  generalize (createP S).2.1 = r at *
  have HST := Lib.hid ((StoreT.stable b (createP S).1).both hR)
  clear h hR hF hc hcr hn
  go_enter Tryz.func41, Tryz.ntmps41
  (repeat' (first | (go_big_may; fail) | go_values | go_skip | go_guarded | go_step | go_upon | go_back | dsimp only))
  refine HCR.out.mono ?_
  rintro e w1 ⟨rfl, h1⟩
  have hnew := h1.newCell HST.out (wrCells b ef ⟨r, n, [], 0⟩) tWr
  simp only [wrCells] at hnew
  rw [errV_zero] at hnew
  have HN := Lib.hid hnew
  clear h1 hnew
  (repeat' (first | (go_big_may; fail) | go_values | go_skip | go_guarded | go_step | go_upon | go_back | dsimp only))
  go_ret2
  exact ⟨_, rfl, HN.out⟩
end
end Go.Proofs.YthcicmbkkkhifaaGreatDoor
namespace Go.Proofs.YthcicmbkkkhifaaGreatDoor
open Go.RowKit

/-- A reader. -/
structure RdD where
  run : Nat
  block : Nat
  pos : Nat
  fin : Nat
  buf : List UInt8
  dead : Nat
abbrev rdCells (b : Nat) (ef : Nat → Nat × Nat) (x : RdD) : Array Value := #[.pointer (some ⟨b, 0, none⟩), .int .i64 x.run, .int .i64 x.block, .int .i64 x.pos, .int .i64 x.fin, .string ⟨x.buf.toArray⟩, errV ef x.dead]
structure RdFacts (w : World) (k b : Nat) (ef : Nat → Nat × Nat) (x : RdD) : Prop where
  c0 : w.cell? ⟨k, 0, none⟩ = some (.pointer (some ⟨b, 0, none⟩))
  c1 : w.cell? ⟨k, 1, none⟩ = some (.int .i64 x.run)
  c2 : w.cell? ⟨k, 2, none⟩ = some (.int .i64 x.block)
  c3 : w.cell? ⟨k, 3, none⟩ = some (.int .i64 x.pos)
  c4 : w.cell? ⟨k, 4, none⟩ = some (.int .i64 x.fin)
  c5 : w.cell? ⟨k, 5, none⟩ = some (.string ⟨x.buf.toArray⟩)
  c6 : w.cell? ⟨k, 6, none⟩ = some (errV ef x.dead)
  fz : ∀ j, w.frozen? ⟨k, j, none⟩ = false
  lt : k < w.heap.size
section
variable {W w : World} {R : Thing} {k b : Nat} {ef : Nat → Nat × Nat} {S : St}
/-- A block more. -/
def moreP (S : St) (x : RdD) : RdD × Bool :=
  if min x.block (x.fin - x.pos) = 0 ∨ readC S x.run x.pos (min x.block (x.fin - x.pos) : Nat) ≠ 0 then (x, false)
  else ({ x with buf := x.buf ++ readT S x.run x.pos (min x.block (x.fin - x.pos) : Nat), pos := x.pos + min x.block (x.fin - x.pos) }, true)
end
end Go.Proofs.YthcicmbkkkhifaaGreatDoor
