/- record.Reader: Next walked. -/
import Derived.Test.YtkffeaeacfhobaaDoorRecRd
namespace Go.Proofs.YtkffeaeacfhobaaDoor
open Go.RowKit

/-- What Next does with a buffer that holds something. -/
def nextS (S : St) (y : RdD) (go : RdD → RdD × List UInt8 × Bool × Nat) : RdD × List UInt8 × Bool × Nat :=
  if (nextAt y.buf 0).2.2 = 0 then ({ y with buf := y.buf.drop (nextAt y.buf 0).2.1.toNat }, (nextAt y.buf 0).1, true, 0) else
  if (nextAt y.buf 0).2.2 ≠ 60 ∨ (moreP S y).2 = false then ({ y with dead := 11 }, [], false, 11) else go (moreP S y).1
theorem nextS_of {S : St} {y : RdD} {go : RdD → RdD × List UInt8 × Bool × Nat} {rec : List UInt8} {nn : Int} {ee : Nat} (h : nextAt y.buf 0 = (rec, nn, ee)) :
    nextS S y go = if ee = 0 then ({ y with buf := y.buf.drop nn.toNat }, rec, true, 0) else if ee ≠ 60 ∨ (moreP S y).2 = false then ({ y with dead := 11 }, [], false, 11) else go (moreP S y).1 := by
  unfold nextS
  rw [h]
/-- A record more, of n rounds at most. -/
def nextL : Nat → St → RdD → RdD × List UInt8 × Bool × Nat
  | 0, _, x => (x, [], false, x.dead)
  | n + 1, S, x =>
    if x.dead ≠ 0 then (x, [], false, x.dead) else
    if x.buf = [] ∧ (moreP S x).2 = false then (x, [], false, 0) else
    nextS S (if x.buf = [] then (moreP S x).1 else x) (nextL n S)
theorem moreP_fst {S : St} {x : RdD} (h : (moreP S x).2 = false) : (moreP S x).1 = x := by
  unfold moreP at h ⊢
  split
  · rfl
  · rename_i hn
    rw [if_neg hn] at h; cases h
theorem moreP_grows {S : St} {x : RdD} (h : (moreP S x).2 = true) : x.pos < (moreP S x).1.pos ∧ (moreP S x).1.fin = x.fin ∧ (moreP S x).1.run = x.run ∧ (moreP S x).1.block = x.block ∧ (moreP S x).1.dead = x.dead ∧ ((x.pos ≤ x.fin) → (moreP S x).1.pos ≤ x.fin) ∧ ∃ m, (moreP S x).1.buf = x.buf ++ readT S x.run x.pos (m : Nat) ∧ m ≤ x.fin - x.pos ∧ (moreP S x).1.pos = x.pos + m := by
  unfold moreP at h ⊢
  by_cases hn : min x.block (x.fin - x.pos) = 0 ∨ readC S x.run x.pos (min x.block (x.fin - x.pos) : Nat) ≠ 0
  · rw [if_pos hn] at h; cases h
  · rw [if_neg hn]
    have h1 : ¬ min x.block (x.fin - x.pos) = 0 := fun e => hn (.inl e)
    dsimp only
    refine ⟨by omega, rfl, rfl, rfl, rfl, fun _ => by omega, _, rfl, by omega, rfl⟩
/-- How much is left, and whether it works. -/
def rdLeft (w : World) (k : Nat) : Nat :=
  (match w.cell? ⟨k, 3, none⟩, w.cell? ⟨k, 4, none⟩ with | some a, some b => (intOf b - intOf a).toNat * 2 | _, _ => 0) + (match w.cell? ⟨k, 6, none⟩ with | some .nilIface => 1 | _ => 0)
theorem readT_len {S : St} {z a n : Int} : (readT S z a n).length ≤ n.toNat := by
  unfold readT
  split
  · simp
  · split
    · simp
    · split
      · simp
      · simp only [List.length_take]; omega

set_option maxRecDepth 100000 in
set_option maxHeartbeats 6400000 in
theorem Next_at {W w : World} {R : Thing} {k b : Nat} {ef : Nat → Nat × Nat} {S : St} {x : RdD} (h : At W w (Both (RdT k b ef x) (Both (StoreT b S) R))) (hR : Stable R) (hF : Fails W ef fails12) (hr : inI64 x.run) (hp : x.pos ≤ x.fin) (hf : x.fin ≤ 1099511627776) (hl : x.buf.length ≤ x.pos) :
    Calls Tryd.prog 11 #[.pointer (some ⟨k, 0, none⟩)] w fun e w' => e = .returned (.tuple #[.string ⟨(nextL (x.fin - x.pos + 1) S x).2.1.toArray⟩, .bool (nextL (x.fin - x.pos + 1) S x).2.2.1, errV ef (nextL (x.fin - x.pos + 1) S x).2.2.2]) ∧ At W w' (Both (RdT k b ef (nextL (x.fin - x.pos + 1) S x).1) (Both (StoreT b S) R)) := by
  obtain ⟨res, hres⟩ : ∃ res, res = nextL (x.fin - x.pos + 1) S x := ⟨_, rfl⟩
  rw [← hres]
  have HF := Lib.hid hF
  have HR := Lib.hid hR
  have H := Lib.hid h
  have HRES := Lib.hid hres
  have HP := Lib.hid (And.intro hr (And.intro hp (And.intro hf hl)))
  have hgl : ∀ w' x', At W w' (Both (RdT k b ef x') (Both (StoreT b S) R)) → w'.cell? ⟨4, 0, none⟩ = some (.iface tES (.pointer (some ⟨(ef 11).1, (ef 11).2, none⟩))) := fun w' x' h' => (HF.out.below h'.below).cell (11, 4) (by decide)
  have HGL := Lib.hid hgl
  have eqln : ∀ wz : World, (binOp .eql tErr .nilIface .nilIface).run Tryd.prog wz = .ok (.bool true) wz := fun wz => eql_nil wz
  clear h hres hR hF hr hp hf hl hgl
  go_enter Tryd.func11, Tryd.ntmps11
  (repeat' (first | (go_big_may; fail) | go_values | go_skip | go_guarded | go_step | go_upon | go_back | dsimp only))
  go_loopw [] (fun wr => ∃ (n : Nat) (y : RdD), y.fin - y.pos < n ∧ y.pos ≤ y.fin ∧ y.fin ≤ 1099511627776 ∧ y.buf.length ≤ y.pos ∧ y.run = x.run ∧ res = nextL n S y ∧ At W wr (Both (RdT k b ef y) (Both (StoreT b S) R))) (fun wr => rdLeft wr k)
  case atStart => exact ⟨_, x, Nat.lt_succ_self _, HP.out.2.1, HP.out.2.2.1, HP.out.2.2.2, rfl, HRES.out, H.out⟩
  case round =>
    obtain ⟨n, y, hn, hp, hf, hl, hrn, hr1, h1⟩ := hrel
    have H1 := Lib.hid h1
    have HRN := Lib.hid hrn
    have HR1 := Lib.hid hr1
    clear h1 hrn hr1 H HRES
    obtain ⟨n, rfl⟩ : ∃ m, n = m + 1 := ⟨n - 1, by omega⟩
    by_cases hd : y.dead = 0
    · have HMW := Lib.hid (show rdLeft wr k = (y.fin - y.pos) * 2 + 1 by
        have f := H1.out.rd
        unfold rdLeft
        rw [f.c3, f.c4, f.c6, hd, errV_zero]
        simp [intOf] <;> omega)
      have c6 := H1.out.rd.c6
      have c5 := H1.out.rd.c5
      rw [hd, errV_zero] at c6
      have hr1 := HR1.out
      unfold nextL at hr1
      rw [if_neg (by simpa using hd)] at hr1
      by_cases hb0 : y.buf = []
      · have hmo := more_at H1.out HR.out HF.out (by rw [HRN.out]; exact HP.out.1) hp hf (by omega) (by have h1 := readT_len (S := S) (z := y.run) (a := y.pos) (n := (min y.block (y.fin - y.pos) : Nat)); omega)
        rw [hb0] at c5
        by_cases hmb : (moreP S y).2 = false
        · rw [if_pos ⟨hb0, hmb⟩] at hr1
          rw [hmb, moreP_fst hmb] at hmo
          have HMO := Lib.hid hmo
          have HR2 := Lib.hid hr1
          have hlt := H1.out.rd.lt
          clear hr1 hb0 hd HR1 HRN hmo hmb
          (repeat' (first | (go_big_may; fail) | go_values | go_skip | go_guarded | go_step | go_upon | go_back | dsimp only))
          refine HMO.out.mono ?_
          rintro e w3 ⟨rfl, h3⟩
          have H3 := Lib.hid h3
          clear h3
          (repeat' (first | (go_big_may; fail) | go_values | go_skip | go_guarded | go_step | go_upon | go_back | dsimp only))
          go_ret3
          rw [HR2.out]
          dsimp only
          rw [errV_zero]
          exact ⟨rfl, H3.out⟩
        · have hmt : (moreP S y).2 = true := by simpa using hmb
          obtain ⟨g1, g2, g3, _, g5, g6, m, g7, g8, g9⟩ := moreP_grows hmt
          rw [if_neg (fun h => hmb h.2), if_pos hb0] at hr1
          rw [hmt] at hmo
          have hq := readT_len (S := S) (z := y.run) (a := y.pos) (n := (m : Nat))
          have HPY := Lib.hid (show (moreP S y).1.pos ≤ (moreP S y).1.fin ∧ (moreP S y).1.fin ≤ 1099511627776 ∧ (moreP S y).1.buf.length ≤ (moreP S y).1.pos ∧ (moreP S y).1.run = x.run ∧ (moreP S y).1.fin - (moreP S y).1.pos < n + 1 ∧ (moreP S y).1.dead = 0 by
            have h3 := g6 hp
            rw [g7, List.length_append, g3, g5]
            refine ⟨by omega, by omega, by omega, HRN.out, by omega, hd⟩)
          have HLE := Lib.hid (show (moreP S y).1.fin - (moreP S y).1.pos ≤ y.fin - y.pos by omega)
          have HMO := Lib.hid hmo
          have HR2 := Lib.hid hr1
          have hlt := H1.out.rd.lt
          generalize (moreP S y).1 = y1 at *
          clear hr1 hb0 hd HR1 HRN hmo hmb hmt g1 g2 g3 g5 g6 g7 g8 g9 hq
          (repeat' (first | (go_big_may; fail) | go_values | go_skip | go_guarded | go_step | go_upon | go_back | dsimp only))
          refine HMO.out.mono ?_
          rintro e w3 ⟨rfl, h3⟩
          have H3 := Lib.hid h3
          clear h3 c5 c6 hlt HMO
          obtain ⟨_, _, _, _, _, d5, d6, dz, dl⟩ := H3.out.rd
          rw [HPY.out.2.2.2.2.2, errV_zero] at d6
          have hnx := fun (w' : World) => next_calls ⟨y1.buf.toArray⟩ 0 w' (by have := HPY.out; simp [ByteArray.size]; omega)
          have hok := nextAt_ok (l := y1.buf) (a := 0)
          have hr2 := HR2.out
          obtain ⟨rec, nn, ee, hNX⟩ : ∃ rec nn ee, nextAt y1.buf 0 = (rec, nn, ee) := ⟨_, _, _, rfl⟩
          rw [nextS_of hNX] at hr2
          rw [hNX] at hok
          dsimp only at hok
          simp only [hNX] at hnx
          have HNX := Lib.hid hnx
          clear hnx hNX
          by_cases hee : ee = 0
          · obtain ⟨_, hn1, hn2, _⟩ := hok hee
            rw [if_pos hee] at hr2
            subst hee
            obtain ⟨q, rfl⟩ := Int.eq_ofNat_of_zero_le (show 0 ≤ nn by omega)
            have hql : q ≤ y1.buf.length := by omega
            have hql2 : (q : Int) ≤ (y1.buf.length : Int) := by omega
            have hex := ex_drop y1.buf q
            have hend := H3.out.rdBuf ((StoreT.stable _ _).both HR.out) (y1.buf.drop q)
            have HEND := Lib.hid hend
            have HR3 := Lib.hid hr2
            clear hend hr2 hok hn1 hn2
            (repeat' (first | (go_big_may; fail) | go_values | go_skip | go_guarded | go_step | go_upon | go_back | dsimp only))
            refine (HNX.out _).mono ?_
            rintro e w5 ⟨rfl, rfl⟩
            (repeat' (first | (go_big_may; fail) | go_values | go_skip | go_guarded | go_step | go_upon | go_back | dsimp only))
            go_ret3
            rw [HR3.out]
            dsimp only
            rw [errV_zero]
            exact ⟨rfl, HEND.out⟩
          · rw [if_neg hee] at hr2
            have heb : ((ee : Int) == 0) = false := by
              have : ¬ (ee : Int) = 0 := by omega
              simpa using this
            by_cases he60 : ee = 60
            · subst he60
              have hmo := fun (wq : World) (hq : At W wq (Both (RdT k b ef y1) (Both (StoreT b S) R))) => more_at hq HR.out HF.out (by rw [HPY.out.2.2.2.1]; exact HP.out.1) HPY.out.1 HPY.out.2.1 (by have := HPY.out; omega) (by have h1 := readT_len (S := S) (z := y1.run) (a := y1.pos) (n := (min y1.block (y1.fin - y1.pos) : Nat)); have h2 := HPY.out; omega)
              by_cases hmb : (moreP S y1).2 = false
              · rw [if_pos (.inr hmb)] at hr2
                rw [hmb, moreP_fst hmb] at hmo
                have HMO := Lib.hid hmo
                have HR3 := Lib.hid hr2
                clear hmo hr2 hmb hok
                (repeat' (first | (go_big_may; fail) | go_values | go_skip | go_guarded | go_step | go_upon | go_back | dsimp only))
                refine (HNX.out _).mono ?_
                rintro e w5 ⟨rfl, rfl⟩
                (repeat' (first | (go_big_may; fail) | go_values | go_skip | go_guarded | go_step | go_upon | go_back | dsimp only))
                refine (HMO.out _ H3.out).mono ?_
                rintro e w6 ⟨rfl, h6⟩
                have H6 := Lib.hid h6
                clear h6 d5 d6 dz dl HMO
                have hdead := H6.out.rdDead ((StoreT.stable _ _).both HR.out) 11
                rw [errV_pos ef (by decide)] at hdead
                have HDEAD := Lib.hid hdead
                have cg6 := HGL.out _ _ H6.out
                have HM6 := Lib.hid (show rdLeft (w6.setCell ⟨k, 6, none⟩ (.iface tES (.pointer (some ⟨(ef 11).1, (ef 11).2, none⟩)))) k = (y1.fin - y1.pos) * 2 by
                  have f := hdead.rd
                  unfold rdLeft
                  rw [f.c3, f.c4, f.c6]
                  dsimp only
                  rw [errV_pos ef (by decide)]
                  have := HPY.out.1
                  simp [intOf] <;> omega)
                obtain ⟨_, _, _, _, _, _, v6, vz, vl⟩ := H6.out.rd
                have hgk : ¬ 4 = k := fun e => by
                  have h1 := H6.out.rd.c0
                  rw [← e, cg6] at h1
                  cases h1
                obtain ⟨vd, v6⟩ : ∃ vd, w6.cell? ⟨k, 6, none⟩ = some vd := ⟨_, v6⟩
                clear hdead
                (repeat' (first | (go_big_may; fail) | go_values | go_skip | go_guarded | go_step | go_upon | go_back | dsimp only))
                go_roundw
                case rel => exact ⟨n + 1, { y1 with dead := 11 }, HPY.out.2.2.2.2.1, HPY.out.1, HPY.out.2.1, HPY.out.2.2.1, HPY.out.2.2.2.1, by unfold nextL; exact HR3.out.trans (if_pos (Nat.succ_ne_zero 10)).symm, HDEAD.out⟩
                case measure => rw [HM6.out, HMW.out]; have := HLE.out; omega
              · have hmt : (moreP S y1).2 = true := by simpa using hmb
                obtain ⟨g1, g2, g3, _, g5, g6, m, g7, g8, g9⟩ := moreP_grows hmt
                rw [if_neg (by simp [hmt])] at hr2
                rw [hmt] at hmo
                have hq := readT_len (S := S) (z := y1.run) (a := y1.pos) (n := (m : Nat))
                have HZ := Lib.hid (show (moreP S y1).1.fin - (moreP S y1).1.pos < n ∧ (moreP S y1).1.pos ≤ (moreP S y1).1.fin ∧ (moreP S y1).1.fin ≤ 1099511627776 ∧ (moreP S y1).1.buf.length ≤ (moreP S y1).1.pos ∧ (moreP S y1).1.run = x.run ∧ (moreP S y1).1.dead = 0 ∧ (moreP S y1).1.fin - (moreP S y1).1.pos < y1.fin - y1.pos by
                  have h2 := HPY.out
                  have h3 := g6 h2.1
                  rw [g7, List.length_append, g3, g5]
                  refine ⟨by omega, by omega, by omega, by omega, h2.2.2.2.1, h2.2.2.2.2.2, by omega⟩)
                have HMO := Lib.hid hmo
                have HR3 := Lib.hid hr2
                generalize (moreP S y1).1 = z at *
                clear hmo hr2 hmb hmt hok g1 g2 g3 g5 g6 g7 g8 g9 hq
                (repeat' (first | (go_big_may; fail) | go_values | go_skip | go_guarded | go_step | go_upon | go_back | dsimp only))
                refine (HNX.out _).mono ?_
                rintro e w5 ⟨rfl, rfl⟩
                (repeat' (first | (go_big_may; fail) | go_values | go_skip | go_guarded | go_step | go_upon | go_back | dsimp only))
                refine (HMO.out _ H3.out).mono ?_
                rintro e w6 ⟨rfl, h6⟩
                have H6 := Lib.hid h6
                have HM6 := Lib.hid (show rdLeft w6 k = (z.fin - z.pos) * 2 + 1 by
                  have f := h6.rd
                  unfold rdLeft
                  rw [f.c3, f.c4, f.c6, HZ.out.2.2.2.2.2.1, errV_zero]
                  have := HZ.out.2.1
                  simp [intOf] <;> omega)
                clear h6 d5 d6 dz dl HMO
                (repeat' (first | (go_big_may; fail) | go_values | go_skip | go_guarded | go_step | go_upon | go_back | dsimp only))
                go_roundw
                case rel => exact ⟨n, z, HZ.out.1, HZ.out.2.1, HZ.out.2.2.1, HZ.out.2.2.2.1, HZ.out.2.2.2.2.1, HR3.out, H6.out⟩
                case measure => rw [HM6.out, HMW.out]; have := HLE.out; have := HZ.out; omega
            · rw [if_pos (.inl he60)] at hr2
              have h60b : ((ee : Int) == 60) = false := by
                have : ¬ (ee : Int) = 60 := by omega
                simpa using this
              have HR3 := Lib.hid hr2
              have H6 := Lib.hid H3.out
              clear hr2 hok
              (repeat' (first | (go_big_may; fail) | go_values | go_skip | go_guarded | go_step | go_upon | go_back | dsimp only))
              refine (HNX.out _).mono ?_
              rintro e w6 ⟨rfl, rfl⟩
              clear d5 d6 dz dl
              have hdead := H6.out.rdDead ((StoreT.stable _ _).both HR.out) 11
              rw [errV_pos ef (by decide)] at hdead
              have HDEAD := Lib.hid hdead
              have cg6 := HGL.out _ _ H6.out
              have HM6 := Lib.hid (show rdLeft (w3.setCell ⟨k, 6, none⟩ (.iface tES (.pointer (some ⟨(ef 11).1, (ef 11).2, none⟩)))) k = (y1.fin - y1.pos) * 2 by
                have f := hdead.rd
                unfold rdLeft
                rw [f.c3, f.c4, f.c6]
                dsimp only
                rw [errV_pos ef (by decide)]
                have := HPY.out.1
                simp [intOf] <;> omega)
              obtain ⟨_, _, _, _, _, _, v6, vz, vl⟩ := H6.out.rd
              have hgk : ¬ 4 = k := fun e => by
                have h1 := H6.out.rd.c0
                rw [← e, cg6] at h1
                cases h1
              obtain ⟨vd, v6⟩ : ∃ vd, w3.cell? ⟨k, 6, none⟩ = some vd := ⟨_, v6⟩
              clear hdead
              (repeat' (first | (go_big_may; fail) | go_values | go_skip | go_guarded | go_step | go_upon | go_back | dsimp only))
              go_roundw
              case rel => exact ⟨n + 1, { y1 with dead := 11 }, HPY.out.2.2.2.2.1, HPY.out.1, HPY.out.2.1, HPY.out.2.2.1, HPY.out.2.2.2.1, by unfold nextL; exact HR3.out.trans (if_pos (Nat.succ_ne_zero 10)).symm, HDEAD.out⟩
              case measure => rw [HM6.out, HMW.out]; have := HLE.out; omega
      · rw [if_neg (fun h => hb0 h.1), if_neg hb0] at hr1
        have hne : y.buf.isEmpty = false := by simpa using hb0
        have HPY := Lib.hid (show y.pos ≤ y.fin ∧ y.fin ≤ 1099511627776 ∧ y.buf.length ≤ y.pos ∧ y.run = x.run ∧ y.fin - y.pos < n + 1 ∧ y.dead = 0 from ⟨hp, hf, hl, HRN.out, hn, hd⟩)
        have HLE := Lib.hid (show y.fin - y.pos ≤ y.fin - y.pos from Nat.le_refl _)
        have HR2 := Lib.hid hr1
        clear hr1 hb0 hd HR1 HRN
        obtain ⟨_, _, _, _, _, d5, d6, dz, dl⟩ := H1.out.rd
        rw [HPY.out.2.2.2.2.2, errV_zero] at d6
        have hnx := fun (w' : World) => next_calls ⟨y.buf.toArray⟩ 0 w' (by have := HPY.out; simp [ByteArray.size]; omega)
        have hok := nextAt_ok (l := y.buf) (a := 0)
        have hr2 := HR2.out
        obtain ⟨rec, nn, ee, hNX⟩ : ∃ rec nn ee, nextAt y.buf 0 = (rec, nn, ee) := ⟨_, _, _, rfl⟩
        rw [nextS_of hNX] at hr2
        rw [hNX] at hok
        dsimp only at hok
        simp only [hNX] at hnx
        have HNX := Lib.hid hnx
        clear hnx hNX
        by_cases hee : ee = 0
        · obtain ⟨_, hn1, hn2, _⟩ := hok hee
          rw [if_pos hee] at hr2
          subst hee
          obtain ⟨q, rfl⟩ := Int.eq_ofNat_of_zero_le (show 0 ≤ nn by omega)
          have hql : q ≤ y.buf.length := by omega
          have hql2 : (q : Int) ≤ (y.buf.length : Int) := by omega
          have hex := ex_drop y.buf q
          have hend := H1.out.rdBuf ((StoreT.stable _ _).both HR.out) (y.buf.drop q)
          have HEND := Lib.hid hend
          have HR3 := Lib.hid hr2
          clear hend hr2 hok hn1 hn2
          (repeat' (first | (go_big_may; fail) | go_values | go_skip | go_guarded | go_step | go_upon | go_back | dsimp only))
          refine (HNX.out _).mono ?_
          rintro e w5 ⟨rfl, rfl⟩
          (repeat' (first | (go_big_may; fail) | go_values | go_skip | go_guarded | go_step | go_upon | go_back | dsimp only))
          go_ret3
          rw [HR3.out]
          dsimp only
          rw [errV_zero]
          exact ⟨rfl, HEND.out⟩
        · rw [if_neg hee] at hr2
          have heb : ((ee : Int) == 0) = false := by
            have : ¬ (ee : Int) = 0 := by omega
            simpa using this
          by_cases he60 : ee = 60
          · subst he60
            have hmo := fun (wq : World) (hq : At W wq (Both (RdT k b ef y) (Both (StoreT b S) R))) => more_at hq HR.out HF.out (by rw [HPY.out.2.2.2.1]; exact HP.out.1) HPY.out.1 HPY.out.2.1 (by have := HPY.out; omega) (by have h1 := readT_len (S := S) (z := y.run) (a := y.pos) (n := (min y.block (y.fin - y.pos) : Nat)); have h2 := HPY.out; omega)
            by_cases hmb : (moreP S y).2 = false
            · rw [if_pos (.inr hmb)] at hr2
              rw [hmb, moreP_fst hmb] at hmo
              have HMO := Lib.hid hmo
              have HR3 := Lib.hid hr2
              clear hmo hr2 hmb hok
              (repeat' (first | (go_big_may; fail) | go_values | go_skip | go_guarded | go_step | go_upon | go_back | dsimp only))
              refine (HNX.out _).mono ?_
              rintro e w5 ⟨rfl, rfl⟩
              (repeat' (first | (go_big_may; fail) | go_values | go_skip | go_guarded | go_step | go_upon | go_back | dsimp only))
              refine (HMO.out _ H1.out).mono ?_
              rintro e w6 ⟨rfl, h6⟩
              have H6 := Lib.hid h6
              clear h6 d5 d6 dz dl HMO
              have hdead := H6.out.rdDead ((StoreT.stable _ _).both HR.out) 11
              rw [errV_pos ef (by decide)] at hdead
              have HDEAD := Lib.hid hdead
              have cg6 := HGL.out _ _ H6.out
              have HM6 := Lib.hid (show rdLeft (w6.setCell ⟨k, 6, none⟩ (.iface tES (.pointer (some ⟨(ef 11).1, (ef 11).2, none⟩)))) k = (y.fin - y.pos) * 2 by
                have f := hdead.rd
                unfold rdLeft
                rw [f.c3, f.c4, f.c6]
                dsimp only
                rw [errV_pos ef (by decide)]
                have := HPY.out.1
                simp [intOf] <;> omega)
              obtain ⟨_, _, _, _, _, _, v6, vz, vl⟩ := H6.out.rd
              have hgk : ¬ 4 = k := fun e => by
                have h1 := H6.out.rd.c0
                rw [← e, cg6] at h1
                cases h1
              obtain ⟨vd, v6⟩ : ∃ vd, w6.cell? ⟨k, 6, none⟩ = some vd := ⟨_, v6⟩
              clear hdead
              (repeat' (first | (go_big_may; fail) | go_values | go_skip | go_guarded | go_step | go_upon | go_back | dsimp only))
              go_roundw
              case rel => exact ⟨n + 1, { y with dead := 11 }, HPY.out.2.2.2.2.1, HPY.out.1, HPY.out.2.1, HPY.out.2.2.1, HPY.out.2.2.2.1, by unfold nextL; exact HR3.out.trans (if_pos (Nat.succ_ne_zero 10)).symm, HDEAD.out⟩
              case measure => rw [HM6.out, HMW.out]; have := HLE.out; omega
            · have hmt : (moreP S y).2 = true := by simpa using hmb
              obtain ⟨g1, g2, g3, _, g5, g6, m, g7, g8, g9⟩ := moreP_grows hmt
              rw [if_neg (by simp [hmt])] at hr2
              rw [hmt] at hmo
              have hq := readT_len (S := S) (z := y.run) (a := y.pos) (n := (m : Nat))
              have HZ := Lib.hid (show (moreP S y).1.fin - (moreP S y).1.pos < n ∧ (moreP S y).1.pos ≤ (moreP S y).1.fin ∧ (moreP S y).1.fin ≤ 1099511627776 ∧ (moreP S y).1.buf.length ≤ (moreP S y).1.pos ∧ (moreP S y).1.run = x.run ∧ (moreP S y).1.dead = 0 ∧ (moreP S y).1.fin - (moreP S y).1.pos < y.fin - y.pos by
                have h2 := HPY.out
                have h3 := g6 h2.1
                rw [g7, List.length_append, g3, g5]
                refine ⟨by omega, by omega, by omega, by omega, h2.2.2.2.1, h2.2.2.2.2.2, by omega⟩)
              have HMO := Lib.hid hmo
              have HR3 := Lib.hid hr2
              generalize (moreP S y).1 = z at *
              clear hmo hr2 hmb hmt hok g1 g2 g3 g5 g6 g7 g8 g9 hq
              (repeat' (first | (go_big_may; fail) | go_values | go_skip | go_guarded | go_step | go_upon | go_back | dsimp only))
              refine (HNX.out _).mono ?_
              rintro e w5 ⟨rfl, rfl⟩
              (repeat' (first | (go_big_may; fail) | go_values | go_skip | go_guarded | go_step | go_upon | go_back | dsimp only))
              refine (HMO.out _ H1.out).mono ?_
              rintro e w6 ⟨rfl, h6⟩
              have H6 := Lib.hid h6
              have HM6 := Lib.hid (show rdLeft w6 k = (z.fin - z.pos) * 2 + 1 by
                have f := h6.rd
                unfold rdLeft
                rw [f.c3, f.c4, f.c6, HZ.out.2.2.2.2.2.1, errV_zero]
                have := HZ.out.2.1
                simp [intOf] <;> omega)
              clear h6 d5 d6 dz dl HMO
              (repeat' (first | (go_big_may; fail) | go_values | go_skip | go_guarded | go_step | go_upon | go_back | dsimp only))
              go_roundw
              case rel => exact ⟨n, z, HZ.out.1, HZ.out.2.1, HZ.out.2.2.1, HZ.out.2.2.2.1, HZ.out.2.2.2.2.1, HR3.out, H6.out⟩
              case measure => rw [HM6.out, HMW.out]; have := HLE.out; have := HZ.out; omega
          · rw [if_pos (.inl he60)] at hr2
            have h60b : ((ee : Int) == 60) = false := by
              have : ¬ (ee : Int) = 60 := by omega
              simpa using this
            have HR3 := Lib.hid hr2
            have H6 := Lib.hid H1.out
            clear hr2 hok
            (repeat' (first | (go_big_may; fail) | go_values | go_skip | go_guarded | go_step | go_upon | go_back | dsimp only))
            refine (HNX.out _).mono ?_
            rintro e w6 ⟨rfl, rfl⟩
            clear d5 d6 dz dl
            have hdead := H6.out.rdDead ((StoreT.stable _ _).both HR.out) 11
            rw [errV_pos ef (by decide)] at hdead
            have HDEAD := Lib.hid hdead
            have cg6 := HGL.out _ _ H6.out
            have HM6 := Lib.hid (show rdLeft (wr.setCell ⟨k, 6, none⟩ (.iface tES (.pointer (some ⟨(ef 11).1, (ef 11).2, none⟩)))) k = (y.fin - y.pos) * 2 by
              have f := hdead.rd
              unfold rdLeft
              rw [f.c3, f.c4, f.c6]
              dsimp only
              rw [errV_pos ef (by decide)]
              have := HPY.out.1
              simp [intOf] <;> omega)
            obtain ⟨_, _, _, _, _, _, v6, vz, vl⟩ := H6.out.rd
            have hgk : ¬ 4 = k := fun e => by
              have h1 := H6.out.rd.c0
              rw [← e, cg6] at h1
              cases h1
            obtain ⟨vd, v6⟩ : ∃ vd, wr.cell? ⟨k, 6, none⟩ = some vd := ⟨_, v6⟩
            clear hdead
            (repeat' (first | (go_big_may; fail) | go_values | go_skip | go_guarded | go_step | go_upon | go_back | dsimp only))
            go_roundw
            case rel => exact ⟨n + 1, { y with dead := 11 }, HPY.out.2.2.2.2.1, HPY.out.1, HPY.out.2.1, HPY.out.2.2.1, HPY.out.2.2.2.1, by unfold nextL; exact HR3.out.trans (if_pos (Nat.succ_ne_zero 10)).symm, HDEAD.out⟩
            case measure => rw [HM6.out, HMW.out]; have := HLE.out; omega
    · have hr1 := HR1.out
      unfold nextL at hr1
      rw [if_pos (by simpa using hd)] at hr1
      have c6 := H1.out.rd.c6
      have HEP := Lib.hid (errV_pos ef hd)
      rw [errV_pos ef hd] at c6
      have neqi := fun wz : World => run_eql_iface_nil (P := Tryd.prog) wz tES (.pointer (some ⟨(ef y.dead).1, (ef y.dead).2, none⟩)) Tryd.underlying25
      have HR2 := Lib.hid hr1
      have HSTA := Lib.hid (fun n => H1.out.mono ((RdT.stable k b ef y).both ((StoreT.stable b S).both HR.out)) (below_dW wr n))
      have hlt := H1.out.rd.lt
      clear hr1 HR1 hd HRN
      (repeat' (first | (go_big_may; fail) | go_values | go_skip | go_guarded | go_step | go_upon | go_back | dsimp only))
      go_quiet (fail)
      (repeat' (first | (go_big_may; fail) | go_values | go_skip | go_guarded | go_step | go_upon | go_back | dsimp only))
      go_ret3
      rw [HR2.out]
      dsimp only
      rw [HEP.out]
      exact ⟨rfl, HSTA.out _⟩
end Go.Proofs.YtkffeaeacfhobaaDoor
