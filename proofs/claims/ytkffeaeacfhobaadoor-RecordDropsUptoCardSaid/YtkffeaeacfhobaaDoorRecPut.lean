/- record.Writer: Put, Close walked. -/
import Derived.Test.YtkffeaeacfhobaaDoorRecWr
namespace Go.Proofs.YtkffeaeacfhobaaDoor
open Go.RowKit

set_option maxHeartbeats 800000 in
theorem wrState_calls {w : World} {k b : Nat} {ef : Nat → Nat × Nat} {x : WrD} (h : WrFacts w k b ef x) :
    Calls Tryd.prog 29 #[.pointer (some ⟨k, 0, none⟩)] w fun e w' => e = .returned (errV ef x.dead) ∧ w = w' := by
  obtain ⟨_, _, _, _, c4, _, _⟩ := h
  generalize errV ef x.dead = v at *
  go_enter Tryd.func29, Tryd.ntmps29
  (repeat' (first | (go_big_may; fail) | go_values | go_skip | go_guarded | go_step | go_upon | go_back | dsimp only))
  go_ret
  exact ⟨rfl, rfl⟩

def bufLen (w : World) (k : Nat) : Nat := match w.cell? ⟨k, 3, none⟩ with | some (.string s) => s.size | _ => 0
/-- The blocks that are whole are flushed. -/
def putL : Nat → St → WrD → St × WrD × Nat
  | 0, S, x => (S, x, 0)
  | n + 1, S, x => if x.block ≤ x.buf.length then (if (flushP S x x.block).2.2 = 0 then putL n (flushP S x x.block).1 (flushP S x x.block).2.1 else flushP S x x.block) else (S, x, 0)
def putP (S : St) (x : WrD) (recs : List (List UInt8)) : St × WrD × Nat :=
  if x.dead ≠ 0 then (S, x, x.dead) else if fits recs = false then (S, x, 10) else putL ((x.buf ++ frameL recs).length + 1) S { x with buf := x.buf ++ frameL recs }
/-- What stays true of a store whose writer works. -/
structure Inv (I : St → Prop) : Prop where
  le : ∀ S, I S → ∀ (z : Int) p, S.find z = some p → p.2.text.length ≤ S.used
  app : ∀ S (z : Int) t, I S → I (appendP S z t).1
theorem flushP_inv {I : St → Prop} (hI : Inv I) {S : St} (h : I S) (x : WrD) (n : Nat) : I (flushP S x n).1 := by
  unfold flushP
  split <;> exact hI.app _ _ _ h
theorem flushP_ok {S : St} {x : WrD} {n : Nat} (h : (flushP S x n).2.2 = 0) : (flushP S x n).2.1 = { x with buf := x.buf.drop n } := by
  unfold flushP at h ⊢
  by_cases hz : (appendP S x.run (x.buf.take n)).2 = 0
  · rw [if_pos hz]
  · rw [if_neg hz] at h; exact absurd h hz

set_option maxRecDepth 100000 in
set_option maxHeartbeats 6400000 in
theorem Put_at {I : St → Prop} (hI : Inv I) {W w : World} {R : Thing} {k b : Nat} {ef : Nat → Nat × Nat} {S : St} {x : WrD} (h : At W w (Both (WrT k b ef x) (Both (StoreT b S) R))) (hR : Stable R) (hF : Fails W ef fails11)
    (hS : I S) (hb1 : 1 ≤ x.block) (hb2 : x.block ≤ 4096) (hrun : inI64 x.run) {v : Value} {ss : List (List UInt8)} (hrd : RdRow w v ss.length 1 (strs ss)) (hlen : x.buf.length + (frameL ss).length ≤ 1099511627776) :
    Calls Tryd.prog 8 #[.pointer (some ⟨k, 0, none⟩), v] w fun e w' => e = .returned (errV ef (putP S x ss).2.2) ∧ At W w' (Both (WrT k b ef (putP S x ss).2.1) (Both (StoreT b (putP S x ss).1) R)) := by
  have HST := Lib.hid ((WrT.stable k b ef x).both ((StoreT.stable b S).both hR))
  have HSTA := Lib.hid hrun
  have HF := Lib.hid hF
  have HR := Lib.hid hR
  have H := Lib.hid h
  have HSS := Lib.hid hS
  unfold putP
  by_cases hd : x.dead = 0
  · rw [if_neg (by simpa using hd)]
    by_cases hfit : fits ss = false
    · rw [if_pos hfit]
      have hfr : frameR ss = ([], 62) := by unfold frameR; rw [hfit]; rfl
      have hfc := Frame_calls ss v w hrd (by omega)
      rw [hfr] at hfc
      have HFC := Lib.hid hfc
      have hst := wrState_calls h.wr
      rw [hd, errV_zero] at hst
      have HSC := Lib.hid hst
      have neqn : ∀ wz : World, (binOp .neq tErr .nilIface .nilIface).run Tryd.prog wz = .ok (.bool false) wz := fun wz => neq_nil wz
      dsimp only
      rw [errV_pos ef (by decide)]
      clear h hfc hst hfr hd hfit hrd hF hR hS
      go_enter Tryd.func8, Tryd.ntmps8
      (repeat' (first | (go_big_may; fail) | go_values | go_skip | go_guarded | go_step | go_upon | go_back | dsimp only))
      refine HSC.out.mono ?_
      rintro e w1 ⟨rfl, rfl⟩
      (repeat' (first | (go_big_may; fail) | go_values | go_skip | go_guarded | go_step | go_upon | go_back | dsimp only))
      refine HFC.out.mono ?_
      rintro e w2 ⟨rfl, hb⟩
      have H2 := Lib.hid (H.out.mono HST.out hb)
      have cg := (HF.out.below H2.out.below).cell (10, 3) (by decide)
      clear hb
      (repeat' (first | (go_big_may; fail) | go_values | go_skip | go_guarded | go_step | go_upon | go_back | dsimp only))
      go_ret
      exact ⟨rfl, H2.out⟩
    · rw [if_neg hfit]
      have hft : fits ss = true := by simpa using hfit
      have hfr : frameR ss = (frameL ss, 0) := by unfold frameR; rw [hft]; rfl
      have hfc := Frame_calls ss v w hrd (by omega)
      rw [hfr] at hfc
      have HFC := Lib.hid hfc
      have hst := wrState_calls h.wr
      rw [hd, errV_zero] at hst
      have HSC := Lib.hid hst
      have neqn : ∀ wz : World, (binOp .neq tErr .nilIface .nilIface).run Tryd.prog wz = .ok (.bool false) wz := fun wz => neq_nil wz
      obtain ⟨res, hres⟩ : ∃ res, res = putL ((x.buf ++ frameL ss).length + 1) S { x with buf := x.buf ++ frameL ss } := ⟨_, rfl⟩
      rw [← hres]
      have HRES := Lib.hid hres
      have hcat : (⟨x.buf.toArray⟩ : ByteArray) ++ ⟨(frameL ss).toArray⟩ = ⟨(x.buf ++ frameL ss).toArray⟩ := by
        apply ByteArray.ext
        simp [ByteArray.data_append]
      have hsum : ¬ 9223372036854775807 < x.buf.length + (frameL ss).length := by omega
      clear h hfc hst hfr hd hfit hft hrd hF hR hS hres
      go_enter Tryd.func8, Tryd.ntmps8
      (repeat' (first | (go_big_may; fail) | go_values | go_skip | go_guarded | go_step | go_upon | go_back | dsimp only))
      refine HSC.out.mono ?_
      rintro e w1 ⟨rfl, rfl⟩
      (repeat' (first | (go_big_may; fail) | go_values | go_skip | go_guarded | go_step | go_upon | go_back | dsimp only))
      refine HFC.out.mono ?_
      rintro e w2 ⟨rfl, hb⟩
      have H2 := Lib.hid (H.out.mono HST.out hb)
      obtain ⟨c0, c1, c2, c3, c4, fz, hlt⟩ := H2.out.wr
      have H3 := Lib.hid (H2.out.setBuf ((StoreT.stable _ _).both HR.out) (x.buf ++ frameL ss))
      clear hb H2 H HSC HFC c4
      (repeat' (first | (go_big_may; fail) | go_values | go_skip | go_guarded | go_step | go_upon | go_back | dsimp only))
      generalize w2.setCell ⟨k, 3, none⟩ (.string ⟨(x.buf ++ frameL ss).toArray⟩) = w3 at *
      clear c0 c1 c2 c3 fz hlt hcat hsum
      go_loopw [] (fun wr => ∃ (n : Nat) (S1 : St) (x1 : WrD), x1.buf.length < n ∧ x1.buf.length ≤ x.buf.length + (frameL ss).length ∧ res = putL n S1 x1 ∧ I S1 ∧ x1.block = x.block ∧ x1.run = x.run ∧ At W wr (Both (WrT k b ef x1) (Both (StoreT b S1) R))) (fun wr => bufLen wr k)
      case atStart => exact ⟨_, S, { x with buf := x.buf ++ frameL ss }, Nat.lt_succ_self _, by simp, HRES.out, HSS.out, rfl, rfl, H3.out⟩
      case round =>
        obtain ⟨n, S1, x1, hn, hl1, hr1, hS1, hbk, hrn, h1⟩ := hrel
        have H1 := Lib.hid h1
        have HS1 := Lib.hid hS1
        obtain ⟨_, _, c2, c3, _, _, hlt⟩ := h1.wr
        obtain ⟨n, rfl⟩ : ∃ m, n = m + 1 := ⟨n - 1, by omega⟩
        have hml : bufLen wr k = x1.buf.length := by unfold bufLen; rw [c3]; simp [ByteArray.size]
        have HML := Lib.hid hml
        have HR1 := Lib.hid hr1
        have HBK := Lib.hid hbk
        have HRN := Lib.hid hrn
        clear HRES h1 hS1 hr1 hml H3 hbk hrn
        by_cases hge : x1.block ≤ x1.buf.length
        · have hge2 : (x1.block : Int) ≤ (x1.buf.length : Int) := by omega
          have hfl := fun (w' : World) (hb : Below wr.heap.size wr w') => flush_at (H1.out.mono ((WrT.stable _ _ _ _).both ((StoreT.stable _ _).both HR.out)) hb) HR.out HF.out (hI.le _ HS1.out _) (n := x1.block) hge (by omega) (by rw [HRN.out]; exact HSTA.out)
          have hinv := flushP_inv hI HS1.out x1 x1.block
          have hfo := flushP_ok (S := S1) (x := x1) (n := x1.block)
          have hr1 := HR1.out
          unfold putL at hr1
          rw [if_pos hge] at hr1
          generalize hFP : flushP S1 x1 x1.block = FP at *
          obtain ⟨S2, x2, c⟩ := FP
          dsimp only at hr1 hinv hfo hfl
          by_cases hc : c = 0
          · subst hc
            rw [if_pos rfl] at hr1
            have hx2 := hfo rfl
            rw [errV_zero] at hfl
            have HFL := Lib.hid hfl
            have HX2 := Lib.hid hx2
            have HR2 := Lib.hid hr1
            have HI2 := Lib.hid hinv
            clear hfl hx2 hr1 hinv hfo hFP HR1
            (repeat' (first | (go_big_may; fail) | go_values | go_skip | go_guarded | go_step | go_upon | go_back | dsimp only))
            go_quiet (fail)
            (repeat' (first | (go_big_may; fail) | go_values | go_skip | go_guarded | go_step | go_upon | go_back | dsimp only))
            refine (HFL.out _ (below_dW _ _)).mono ?_
            rintro e w3 ⟨rfl, h3⟩
            have H4 := Lib.hid h3
            have hm3 : bufLen w3 k = x1.buf.length - x1.block := by
              unfold bufLen; rw [h3.wr.c3, HX2.out]; simp [ByteArray.size]
            have HM3 := Lib.hid hm3
            clear h3 hm3 HFL c2 c3 hlt
            (repeat' (first | (go_big_may; fail) | go_values | go_skip | go_guarded | go_step | go_upon | go_back | dsimp only))
            go_roundw
            case rel => exact ⟨n, S2, x2, by rw [HX2.out]; simp only [List.length_drop]; have := HBK.out; omega, by rw [HX2.out]; simp only [List.length_drop]; omega, HR2.out, HI2.out, by rw [HX2.out]; exact HBK.out, by rw [HX2.out]; exact HRN.out, H4.out⟩
            case measure => rw [HM3.out, HML.out]; have := HBK.out; omega
          · rw [if_neg hc] at hr1
            rw [errV_pos ef hc] at hfl
            have HFL := Lib.hid hfl
            have HR2 := Lib.hid hr1
            have HEP := Lib.hid (errV_pos ef hc)
            have neqi := run_neq_iface_nil2 ⟨(ef c).1, (ef c).2, none⟩
            clear hfl hr1 hinv hfo hFP HR1 hc
            (repeat' (first | (go_big_may; fail) | go_values | go_skip | go_guarded | go_step | go_upon | go_back | dsimp only))
            go_quiet (fail)
            (repeat' (first | (go_big_may; fail) | go_values | go_skip | go_guarded | go_step | go_upon | go_back | dsimp only))
            refine (HFL.out _ (below_dW _ _)).mono ?_
            rintro e w3 ⟨rfl, h3⟩
            have H4 := Lib.hid h3
            clear h3 HFL c2 c3 hlt
            (repeat' (first | (go_big_may; fail) | go_values | go_skip | go_guarded | go_step | go_upon | go_back | dsimp only))
            go_ret
            rw [HR2.out]
            dsimp only
            rw [HEP.out]
            exact ⟨rfl, H4.out⟩
        · have hr1 := HR1.out
          unfold putL at hr1
          rw [if_neg hge] at hr1
          have HR2 := Lib.hid hr1
          have hge2 : ¬ (x1.block : Int) ≤ (x1.buf.length : Int) := by omega
          clear hr1 HR1
          (repeat' (first | (go_big_may; fail) | go_values | go_skip | go_guarded | go_step | go_upon | go_back | dsimp only))
          go_quiet (fail)
          (repeat' (first | (go_big_may; fail) | go_values | go_skip | go_guarded | go_step | go_upon | go_back | dsimp only))
          go_ret
          rw [HR2.out]
          dsimp only
          rw [errV_zero]
          exact ⟨rfl, H1.out.mono ((WrT.stable _ _ _ _).both ((StoreT.stable _ _).both HR.out)) (below_dW _ _)⟩
  · rw [if_pos (by simpa using hd)]
    have hst := wrState_calls h.wr
    rw [errV_pos ef hd] at hst ⊢
    have HSC := Lib.hid hst
    have neqn := run_neq_iface_nil2 ⟨(ef x.dead).1, (ef x.dead).2, none⟩
    clear h hst hd hrd hF hR hS
    go_enter Tryd.func8, Tryd.ntmps8
    (repeat' (first | (go_big_may; fail) | go_values | go_skip | go_guarded | go_step | go_upon | go_back | dsimp only))
    refine HSC.out.mono ?_
    rintro e w1 ⟨rfl, rfl⟩
    (repeat' (first | (go_big_may; fail) | go_values | go_skip | go_guarded | go_step | go_upon | go_back | dsimp only))
    go_ret
    exact ⟨rfl, H.out⟩
end Go.Proofs.YtkffeaeacfhobaaDoor
