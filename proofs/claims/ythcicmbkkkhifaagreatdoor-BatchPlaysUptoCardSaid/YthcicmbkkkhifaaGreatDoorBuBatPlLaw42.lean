/- hornbookref09: the document's former walked: Written, gone, write. · hornbookref09: Written walked. · hornbookref09: New, write, Finish, Drop walked. · hornbookref09: Add walked. · batch: the failures that a former's calls answer, in plain Lean; hornbooklaw09.code walked. · batch.Former: the nil former; limits. · hornbooklaw09's former walked. -/
import Derived.Test.YthcicmbkkkhifaaGreatDoorBuBatPlLaw35
import Derived.Test.YthcicmbkkkhifaaGreatDoorBuBatPlLaw40
import Derived.Test.YthcicmbkkkhifaaGreatDoorBuBatPlLaw41
import Derived.Test.YthcicmbkkkhifaaGreatDoorBuBatPlLaw34
import Derived.Test.YthcicmbkkkhifaaGreatDoorBuBatPlLaw22
import Derived.Test.YthcicmbkkkhifaaGreatDoorBuBatPlLaw12
import Derived.Test.YthcicmbkkkhifaaGreatDoorBuBatPlLaw30
import Derived.Test.YthcicmbkkkhifaaGreatDoorBuBatPlLaw39
import Derived.Deep.QuietTactic
import Derived.BigQuiet
set_option linter.unusedSimpArgs false
set_option linter.unusedVariables false
namespace Go.Proofs.YthcicmbkkkhifaaGreatDoor
open Go.RowKit

abbrev tRf : TypeId := 75
abbrev rfCells (f : FmD) (hv mv : Value) : Array Value := #[hv, .int .i64 f.most, mv, .int .i64 f.dead]
abbrev RfI (k : Nat) (f : FmD) (hv mv : Value) : Thing := Both (CellT k (rfCells f hv mv) tRf) (Both (RowG tSx 1 hv f.held.length (strs f.held)) (RowT mv (mz f.made)))
theorem RfI.stable (k : Nat) (f : FmD) (hv mv : Value) : Stable (RfI k f hv mv) := (CellT.stable _ _ _).both ((RowG.stable _ _ _ _ _).both (RowT.stable _ _))
/-- The document's former. -/
def RfT (k : Nat) (f : FmD) : Thing := fun w fp => ∃ q : Value × Value, RfI k f q.1 q.2 w fp
theorem RfT.stable (k : Nat) (f : FmD) : Stable (RfT k f) := Stable.ex fun _ => RfI.stable _ _ _ _
section
variable {W w : World} {R : Thing} {k rb : Nat} {S : St} {f : FmD}
theorem At.rf (h : At W w (Both (RfT k f) R)) : ∃ hv mv, At W w (Both (RfI k f hv mv) R) := by
  obtain ⟨q, h⟩ := At.ex h
  exact ⟨_, _, h⟩
theorem At.toRf {hv mv : Value} (h : At W w (Both (RfI k f hv mv) R)) : At W w (Both (RfT k f) R) := At.intoEx ((hv, mv) : Value × Value) h
structure RfFacts (w : World) (k : Nat) (f : FmD) (hv mv : Value) : Prop where
  c0 : w.cell? ⟨k, 0, none⟩ = some hv
  c1 : w.cell? ⟨k, 1, none⟩ = some (.int .i64 f.most)
  c2 : w.cell? ⟨k, 2, none⟩ = some mv
  c3 : w.cell? ⟨k, 3, none⟩ = some (.int .i64 f.dead)
  fz : ∀ j, w.frozen? ⟨k, j, none⟩ = false
  lt : k < w.heap.size
theorem At.rfF {hv mv : Value} (h : At W w (Both (RfI k f hv mv) R)) : RfFacts w k f hv mv := by
  have h0 : At W w (Both (CellT k (rfCells f hv mv) tRf) (Both (RowG tSx 1 hv f.held.length (strs f.held)) (Both (RowT mv (mz f.made)) R))) := h.perm (by unfold RfI; ac_rfl)
  have h1 := h0.cell.1
  exact ⟨cell_at h1 0, cell_at h1 1, cell_at h1 2, cell_at h1 3, thaw_at h1, lt_of_heap h1⟩
theorem At.rfMade {hv mv : Value} (h : At W w (Both (RfI k f hv mv) R)) : w.ownsRow 0 tInt 1 mv (mz f.made).length (intsV (mz f.made)) :=
  (h.perm (show _ = Both (RowT mv (mz f.made)) (Both (CellT k (rfCells f hv mv) tRf) (Both (RowG tSx 1 hv f.held.length (strs f.held)) R)) by unfold RfI; ac_rfl)).row
theorem At.rfHeld {hv mv : Value} (h : At W w (Both (RfI k f hv mv) R)) : w.ownsRow 0 tSx 1 hv f.held.length (strs f.held) :=
  (h.perm (show _ = Both (RowG tSx 1 hv f.held.length (strs f.held)) (Both (CellT k (rfCells f hv mv) tRf) (Both (RowT mv (mz f.made)) R)) by unfold RfI; ac_rfl)).rowG
/-- A cell of the former is set, the rows stay. -/
theorem At.rfSet {hv mv : Value} (h : At W w (Both (RfI k f hv mv) R)) (hR : Stable R) (o : Nat) (v : Value) :
    At W (w.setCell ⟨k, o, none⟩ v) (Both (CellT k ((rfCells f hv mv).setIfInBounds o v) tRf) (Both (RowG tSx 1 hv f.held.length (strs f.held)) (Both (RowT mv (mz f.made)) R))) :=
  (h.perm (show _ = Both (CellT k (rfCells f hv mv) tRf) (Both (RowG tSx 1 hv f.held.length (strs f.held)) (Both (RowT mv (mz f.made)) R)) by unfold RfI; ac_rfl)).setCell ((RowG.stable _ _ _ _ _).both ((RowT.stable _ _).both hR)) o v
theorem At.rfDead (h : At W w (Both (RfT k f) R)) (hR : Stable R) (c : Nat) : At W (w.setCell ⟨k, 3, none⟩ (.int .i64 c)) (Both (RfT k { f with dead := c }) R) := by
  obtain ⟨hv, mv, h⟩ := h.rf
  have h2 : At W _ (Both (CellT k (rfCells { f with dead := c } hv mv) tRf) (Both (RowG tSx 1 hv f.held.length (strs f.held)) (Both (RowT mv (mz f.made)) R))) := h.rfSet hR 3 (.int .i64 c)
  exact At.toRf (f := { f with dead := c }) (hv := hv) (mv := mv) (h2.perm (by unfold RfI; ac_rfl))
set_option maxRecDepth 100000 in
set_option maxHeartbeats 1600000 in
/-- gone: the runs that it made are removed. -/
theorem gone_at (h : At W w (Both (RfT k f) (Both (RefT rb S) R))) (hR : Stable R) (hG : GoodS S) (hm : ∀ n ∈ f.made, n ≤ S.made) :
    Calls Tryz.prog 49 #[.pointer (some ⟨rb, 0, none⟩), .pointer (some ⟨k, 0, none⟩)] w fun e w' => e = .returned (.tuple #[]) ∧ At W w' (Both (RfT k { f with made := [] }) (Both (RefT rb (goneP S f.made)) R)) := by
  obtain ⟨hv, mv, h⟩ := h.rf
  obtain ⟨ao, cp, hmv, hcp1, hcp2⟩ := own_shape h.rfMade
  subst hmv
  have hlen : (mz f.made).length = f.made.length := by simp [mz]
  rw [hlen] at h hcp1
  have hml : f.made.length ≤ 9223372036854775807 := by unfold maxLen at hcp2; omega
  have hms : S.made ≤ 16777216 := hG.sizes.2.2.2.1
  have HM := Lib.hid hm
  have HR := Lib.hid hR
  have HG := Lib.hid hG
  have H := Lib.hid h
  clear h hR hG hm hcp1 hlen
  go_enter Tryz.func49, Tryz.ntmps49
  (repeat' (first | (go_big_may; fail) | go_values | go_skip | go_guarded | go_step | go_upon | go_back | dsimp only))
  go_loopw [4] (fun vi wr => ∃ (i : Nat) (S1 : St), vi = .int .i64 i ∧ i ≤ f.made.length ∧ GoodS S1 ∧ S1.made = S.made ∧ goneP S1 (f.made.drop i) = goneP S f.made ∧ At W wr (Both (RfI k f hv (.slice ao f.made.length cp)) (Both (RefT rb S1) R))) (fun vi _ => f.made.length - (intOf vi).toNat)
  case atStart => exact ⟨0, S, rfl, Nat.zero_le _, HG.out, rfl, rfl, H.out⟩
  case round =>
    obtain ⟨i, S1, rfl, hi, hG1, hm1, hg1, h1⟩ := hrel
    obtain ⟨_, _, c2, _, fz, hlt⟩ := h1.rfF
    have H1 := Lib.hid h1
    have HG1 := Lib.hid hG1
    have HM1 := Lib.hid hm1
    have HGO := Lib.hid hg1
    clear H
    by_cases hlt2 : i < f.made.length
    · obtain ⟨n, hn⟩ : ∃ n, f.made[i]? = some n := ⟨_, List.getElem?_eq_getElem hlt2⟩
      have hnl := HM.out n (List.mem_of_getElem? hn)
      have hrd := RdRow.of_own h1.rfMade
      obtain ⟨gb, off, cap', hsl, hcell⟩ := hrd.intA (k := i) (z := (n : Int)) (by simp [mz, hn])
      have hdr : f.made.drop i = n :: f.made.drop (i + 1) := by
        obtain ⟨h1, h2⟩ := List.getElem?_eq_some_iff.1 hn
        rw [List.drop_eq_getElem_cons h1, h2]
      rw [hdr] at hg1
      have HGO2 := Lib.hid hg1
      have hnz : inI64 (n : Int) := by unfold inI64; omega
      have hrm := rRemove_at (h1.perm (show _ = Both (RefT rb S1) (Both (RfI k f hv (.slice ao f.made.length cp)) R) by ac_rfl)) ((RfI.stable _ _ _ _).both HR.out) HG1.out hnz
      have HRM := Lib.hid hrm
      have HGR := Lib.hid (HG1.out.remove (n : Int))
      have HMR := Lib.hid ((made_remove S1 (n : Int)).trans HM1.out)
      have hi0 : (0 : Int) ≤ i := by omega
      have hi1 : (i : Int) < f.made.length := by omega
      simp only [Value.slice.injEq] at hsl
      obtain ⟨hao, hl1, hcc⟩ := hsl
      subst hao
      subst hcc
      have hwr : IntKind.i64.wrap ((i : Int) + 1) = ((i + 1 : Nat) : Int) := by rw [IntKind.wrap_i64] <;> omega
      generalize (removeP S1 (n : Int)).2 = cc at *
      clear h1 hG1 hm1 hg1 hrd hrm hnz hdr hn hnl hl1
      (repeat' (first | (go_big_may; fail) | go_values | go_skip | go_guarded | go_step | go_upon | go_back | dsimp only))
      refine HRM.out.mono ?_
      rintro e w2 ⟨rfl, h2⟩
      have H2 := Lib.hid h2
      clear h2 HRM
      (repeat' (first | (go_big_may; fail) | go_values | go_skip | go_guarded | go_step | go_upon | go_back | dsimp only))
      go_roundw
      case rel => exact ⟨i + 1, (removeP S1 (n : Int)).1, rfl, hlt2, HGR.out, HMR.out, HGO2.out, H2.out.perm (by ac_rfl)⟩
      case measure => simp [intOf]; omega
    · have hi0 : ¬ (i : Int) < f.made.length := by omega
      have hie : f.made.drop i = [] := List.drop_eq_nil_of_le (by omega)
      rw [hie] at hg1
      have hg2 : S1 = goneP S f.made := hg1
      have h2 : At W _ (Both (CellT k (rfCells { f with made := [] } hv (.slice none 0 0)) tRf) (Both (RowG tSx 1 hv f.held.length (strs f.held)) (Both (RowT (.slice ao f.made.length cp) (mz f.made)) (Both (RefT rb S1) R)))) := h1.rfSet ((RefT.stable _ _).both HR.out) 2 (.slice none 0 0)
      have h3 := h2.pull3.drop
      rw [hg2] at h3
      have HEND := Lib.hid ((h3.noRow ((CellT.stable _ _ _).both ((RowG.stable _ _ _ _ _).both ((RefT.stable _ _).both HR.out)))).perm (show _ = Both (RfI k { f with made := [] } hv (.slice none 0 0)) (Both (RefT rb (goneP S f.made)) R) by unfold RfI; simp only [mz, List.map_nil]; ac_rfl))
      clear h1 h2 h3 hg1 hg2 hG1 hm1 hie
      (repeat' (first | (go_big_may; fail) | go_values | go_skip | go_guarded | go_step | go_upon | go_back | dsimp only))
      go_end0
      exact ⟨rfl, At.toRf (f := { f with made := [] }) HEND.out⟩
end
end Go.Proofs.YthcicmbkkkhifaaGreatDoor
namespace Go.Proofs.YthcicmbkkkhifaaGreatDoor
open Go.RowKit

theorem putL_short : ∀ (n : Nat) (S : St) (x : WrD), 1 ≤ x.block → x.buf.length < n → (putL n S x).2.2 = 0 → (putL n S x).2.1.buf.length < x.block := by
  intro n
  induction n with
  | zero => intro S x _ h; exact absurd h (Nat.not_lt_zero _)
  | succ n ih =>
    intro S x hb hl
    unfold putL
    by_cases hge : x.block ≤ x.buf.length
    · rw [if_pos hge]
      by_cases hz : (flushP S x x.block).2.2 = 0
      · rw [if_pos hz]
        intro h
        have hok := flushP_ok hz
        have hbk : (flushP S x x.block).2.1.block = x.block := by rw [hok]
        have := ih (flushP S x x.block).1 (flushP S x x.block).2.1 (by rw [hbk]; exact hb) (by rw [hok]; simp only [List.length_drop]; omega) h
        rw [hbk] at this
        exact this
      · rw [if_neg hz]
        intro h
        exact absurd h hz
    · rw [if_neg hge]
      intro _
      show x.buf.length < _
      omega
theorem putP_short {S : St} {x : WrD} {L : List (List UInt8)} (hd : x.dead = 0) (hL : fits L = true) (hb : 1 ≤ x.block) (hz : (putP S x L).2.2 = 0) : (putP S x L).2.1.buf.length < x.block := by
  unfold putP at hz ⊢
  rw [if_neg (by simpa using hd), if_neg (by simp [hL])] at hz ⊢
  exact putL_short _ _ { x with buf := x.buf ++ frameL L } hb (Nat.lt_succ_self _) hz
theorem dropP_sim {S : St} {x y : WrD} (h : WSim x y) : (dropP S y).1 = (dropP S x).1 := by
  unfold dropP
  rw [h.dead, h.run]
  split <;> rfl
section
variable {W w : World} {R : Thing} {rb : Nat} {S : St} {L : List (List UInt8)} {v : Value}
set_option maxRecDepth 100000 in
set_option maxHeartbeats 3200000 in
theorem rWritten_at (h : At W w (Both (RefT rb S) R)) (hR : Stable R) (hG : GoodS S) (hrd : ∀ w', At W w' R → RdRow w' v L.length 1 (strs L)) (hL : fits L = true) (hlen : (frameL L).length ≤ 1099511627776) :
    Calls Tryz.prog 48 #[.pointer (some ⟨rb, 0, none⟩), v] w fun e w' => e = .returned (.tuple #[.int .i64 (writtenP S L).2.1, .int .i64 (writtenP S L).2.2]) ∧ At W w' (Both (RefT rb (writtenP S L).1) R) := by
  obtain ⟨res, hres⟩ : ∃ res, res = writtenP S L := ⟨_, rfl⟩
  rw [← hres]
  unfold writtenP at hres
  have HR := Lib.hid hR
  have HRD := Lib.hid hrd
  by_cases hc : (createP S).2.2 = 0
  · rw [if_neg (by simpa using hc)] at hres
    obtain ⟨htop, _⟩ := create_top hG hc
    have hgs := htop.good
    have hrz : inI64 (((createP S).2.1 : Nat) : Int) := by
      have h1 := hgs.sizes.2.2.2.1
      have h2 := htop.num
      have h3 := htop.made
      unfold inI64; omega
    have ho := rOpen_ok h hR hG (n := 512) (by omega) hc
    have hpu := fun (k : Nat) (w' : World) (h' : At W w' (Both (RwT k ⟨(createP S).2.1, 512, [], 0⟩) (Both (RefT rb (createP S).1) R))) =>
      rPut_at (ss := L) h' hR hgs (by show 1 ≤ 512; omega) (by show 512 ≤ 4096; omega) hrz (HRD.out _ h'.drop.drop) (fun _ => by show 0 + _ ≤ _; omega)
    obtain ⟨P, hP⟩ : ∃ P, P = putP (createP S).1 ⟨(createP S).2.1, 512, [], 0⟩ L := ⟨_, rfl⟩
    obtain ⟨t', p1, p2, p3, p4, p5, p6, p7⟩ := putP_top (x := ⟨(createP S).2.1, 512, [], 0⟩) (L := L) htop rfl rfl hL
    have hsh := putP_short (S := (createP S).1) (x := ⟨(createP S).2.1, 512, [], 0⟩) (L := L) rfl hL (by show 1 ≤ 512; omega)
    simp only [← hP] at hpu p1 p2 p3 p4 p5 p6 p7 hres hsh
    have HO := Lib.hid ho
    have HPU := Lib.hid hpu
    have HPG := Lib.hid p1.good
    have hrz2 : inI64 ((P.2.1.run : Nat) : Int) := by rw [p2]; exact hrz
    have HRZ := Lib.hid hrz2
    by_cases hz : P.2.2 = 0
    · rw [if_neg (by simpa using hz)] at hres
      rw [hz] at HPU
      have hbl := hsh hz
      obtain ⟨q1, _⟩ := p4 hz
      have HCL := Lib.hid (fun (k : Nat) (w' : World) (h' : At W w' (Both (RwT k P.2.1) (Both (RefT rb P.1) R))) => rClose_at h' HR.out HPG.out HRZ.out (fun _ => by have : P.2.1.buf.length < 512 := hbl; omega))
      have hct := closeP_top p1 p2 q1
      have hcgd := closeP_good p1.good P.2.1
      obtain ⟨Q, hQ⟩ : ∃ Q, Q = closeP P.1 P.2.1 := ⟨_, rfl⟩
      rw [← hQ] at HCL hct hcgd hres
      have hrq : inI64 ((Q.2.1.run : Nat) : Int) ∨ Q.2.2.2 = 0 := by
        rcases hct with ⟨k1, _⟩ | ⟨_, _, k3, _⟩
        · exact .inr k1
        · refine .inl ?_; rw [k3]; exact hrz
      have HQ1 := Lib.hid q1
      have HCG := Lib.hid hcgd
      have hnz : ((P.2.2 : Int) != 0) = false := by simp [hz]
      by_cases hz2 : Q.2.2.2 = 0
      · rw [if_neg (by simpa using hz2)] at hres
        rw [hz2] at HCL
        have HRES := Lib.hid hres
        clear h hR hG hrd hlen ho hpu hP htop hgs hc p1 p2 p3 p4 p5 p6 p7 hsh hres hz hz2 hct hcgd hQ q1 hrq hrz hrz2 hbl hnz
        go_enter Tryz.func48, Tryz.ntmps48
        (repeat' (first | (go_big_may; fail) | go_values | go_skip | go_guarded | go_step | go_upon | go_back | dsimp only))
        refine HO.out.mono ?_
        rintro e w1 ⟨k, rfl, h1⟩
        have H1 := Lib.hid h1
        clear h1 HO
        (repeat' (first | (go_big_may; fail) | go_values | go_skip | go_guarded | go_step | go_upon | go_back | dsimp only))
        refine (HPU.out k w1 H1.out).mono ?_
        rintro e w2 ⟨rfl, y, hy, h2⟩
        obtain rfl := hy.eq HQ1.out
        have H2 := Lib.hid h2
        clear h2 HPU H1 hy
        (repeat' (first | (go_big_may; fail) | go_values | go_skip | go_guarded | go_step | go_upon | go_back | dsimp only))
        refine (HCL.out k w2 H2.out).mono ?_
        rintro e w3 ⟨rfl, y3, _, h3⟩
        have H3 := Lib.hid h3.drop
        clear h3 HCL H2
        (repeat' (first | (go_big_may; fail) | go_values | go_skip | go_guarded | go_step | go_upon | go_back | dsimp only))
        go_ret2
        rw [HRES.out]
        exact ⟨rfl, H3.out⟩
      · rw [if_pos hz2] at hres
        have hrq2 : inI64 ((Q.2.1.run : Nat) : Int) := hrq.resolve_right hz2
        have HDR := Lib.hid (fun (k : Nat) (y : WrD) (hy : WSim Q.2.1 y) (w' : World) (h' : At W w' (Both (RwT k y) (Both (RefT rb Q.1) R))) => rDrop_at h' HR.out HCG.out (by rw [hy.run]; exact hrq2))
        have HRES := Lib.hid hres
        have hq : ((Q.2.2.2 : Int) != 0) = true := by simp; omega
        clear h hR hG hrd hlen ho hpu hP htop hgs hc p1 p2 p3 p4 p5 p6 p7 hsh hres hz hz2 hct hcgd hQ q1 hrq hrq2 hrz hrz2 hbl hnz
        go_enter Tryz.func48, Tryz.ntmps48
        (repeat' (first | (go_big_may; fail) | go_values | go_skip | go_guarded | go_step | go_upon | go_back | dsimp only))
        refine HO.out.mono ?_
        rintro e w1 ⟨k, rfl, h1⟩
        have H1 := Lib.hid h1
        clear h1 HO
        (repeat' (first | (go_big_may; fail) | go_values | go_skip | go_guarded | go_step | go_upon | go_back | dsimp only))
        refine (HPU.out k w1 H1.out).mono ?_
        rintro e w2 ⟨rfl, y, hy, h2⟩
        obtain rfl := hy.eq HQ1.out
        have H2 := Lib.hid h2
        clear h2 HPU H1 hy
        (repeat' (first | (go_big_may; fail) | go_values | go_skip | go_guarded | go_step | go_upon | go_back | dsimp only))
        refine (HCL.out k w2 H2.out).mono ?_
        rintro e w3 ⟨rfl, y3, hy3, h3⟩
        have HD3 := Lib.hid (HDR.out k y3 hy3 w3 h3)
        have HY3 := Lib.hid hy3
        clear h3 HCL H2 HDR hy3
        (repeat' (first | (go_big_may; fail) | go_values | go_skip | go_guarded | go_step | go_upon | go_back | dsimp only))
        refine HD3.out.mono ?_
        rintro e w4 ⟨rfl, h4⟩
        have H4 := Lib.hid h4.drop
        clear h4 HD3
        (repeat' (first | (go_big_may; fail) | go_values | go_skip | go_guarded | go_step | go_upon | go_back | dsimp only))
        go_ret2
        rw [HRES.out]
        refine ⟨rfl, ?_⟩
        have h5 := H4.out
        rw [dropP_sim HY3.out] at h5
        exact h5
    · rw [if_pos hz] at hres
      have HDR := Lib.hid (fun (k : Nat) (y : WrD) (hy : WSim P.2.1 y) (w' : World) (h' : At W w' (Both (RwT k y) (Both (RefT rb P.1) R))) => rDrop_at h' HR.out HPG.out (by rw [hy.run]; exact HRZ.out))
      have HRES := Lib.hid hres
      have hq : ((P.2.2 : Int) != 0) = true := by simp; omega
      clear h hR hG hrd hlen ho hpu hP htop hgs hc p1 p2 p3 p4 p5 p6 p7 hsh hres hz hrz hrz2
      go_enter Tryz.func48, Tryz.ntmps48
      (repeat' (first | (go_big_may; fail) | go_values | go_skip | go_guarded | go_step | go_upon | go_back | dsimp only))
      refine HO.out.mono ?_
      rintro e w1 ⟨k, rfl, h1⟩
      have H1 := Lib.hid h1
      clear h1 HO
      (repeat' (first | (go_big_may; fail) | go_values | go_skip | go_guarded | go_step | go_upon | go_back | dsimp only))
      refine (HPU.out k w1 H1.out).mono ?_
      rintro e w2 ⟨rfl, y, hy, h2⟩
      have HD3 := Lib.hid (HDR.out k y hy w2 h2)
      have HY3 := Lib.hid hy
      clear h2 HPU H1 hy HDR
      (repeat' (first | (go_big_may; fail) | go_values | go_skip | go_guarded | go_step | go_upon | go_back | dsimp only))
      refine HD3.out.mono ?_
      rintro e w4 ⟨rfl, h4⟩
      have H4 := Lib.hid h4.drop
      clear h4 HD3
      (repeat' (first | (go_big_may; fail) | go_values | go_skip | go_guarded | go_step | go_upon | go_back | dsimp only))
      go_ret2
      rw [HRES.out]
      refine ⟨rfl, ?_⟩
      have h5 := H4.out
      rw [dropP_sim HY3.out] at h5
      exact h5
  · rw [if_pos hc] at hres
    have HO := Lib.hid (rOpen_fail h hR hG (n := 512) (by omega) hc)
    have HRES := Lib.hid hres
    have hq : (((createP S).2.2 : Int) != 0) = true := by simp; omega
    generalize (createP S).2.2 = c at *
    generalize (createP S).1 = S1 at *
    clear h hR hG hrd hlen hc hres
    go_enter Tryz.func48, Tryz.ntmps48
    (repeat' (first | (go_big_may; fail) | go_values | go_skip | go_guarded | go_step | go_upon | go_back | dsimp only))
    refine HO.out.mono ?_
    rintro e w1 ⟨rfl, h1⟩
    have H1 := Lib.hid h1
    clear h1 HO
    (repeat' (first | (go_big_may; fail) | go_values | go_skip | go_guarded | go_step | go_upon | go_back | dsimp only))
    go_ret2
    rw [HRES.out]
    exact ⟨rfl, H1.out⟩
end
end Go.Proofs.YthcicmbkkkhifaaGreatDoor
namespace Go.Proofs.YthcicmbkkkhifaaGreatDoor
open Go.RowKit

section
variable {W w : World} {R : Thing} {k rb : Nat} {S : St} {f : FmD}
set_option maxRecDepth 100000 in
set_option maxHeartbeats 1600000 in
theorem rFNew_at (h : At W w R) (hR : Stable R) {n : Nat} (hn : 1 ≤ n ∧ n ≤ 65536) :
    Calls Tryz.prog 10 #[.int .i64 n] w fun e w' => ∃ k, e = .returned (.tuple #[.pointer (some ⟨k, 0, none⟩), .int .i64 0]) ∧ At W w' (Both (RfT k (newF n)) R) := by
  have h1 : ¬ (n : Int) < 1 := by omega
  have h2 : ¬ 65536 < (n : Int) := by omega
  have h3 := h.newCell hR (rfCells (newF n) (.slice none 0 0) (.slice none 0 0)) tRf
  have h4 := (h3.noRow ((CellT.stable _ _ _).both hR)).noRowG ((RowT.stable _ _).both ((CellT.stable _ _ _).both hR)) tSx 1
  have H5 := Lib.hid (At.toRf (f := newF n) (hv := .slice none 0 0) (mv := .slice none 0 0) (h4.perm (show _ = Both (RfI w.heap.size (newF n) (.slice none 0 0) (.slice none 0 0)) R by unfold RfI; show Both (RowG tSx 1 (.slice none 0 0) 0 []) (Both (RowT (.slice none 0 0) []) _) = Both (Both _ (Both (RowG tSx 1 (.slice none 0 0) 0 []) (RowT (.slice none 0 0) []))) R; ac_rfl)))
  clear h h3 h4 hn
  go_enter Tryz.func10, Tryz.ntmps10
  (repeat' (first | (go_big_may; fail) | go_values | go_skip | go_guarded | go_step | go_upon | go_back | dsimp only))
  go_ret2
  exact ⟨_, rfl, H5.out⟩
set_option maxRecDepth 100000 in
set_option maxHeartbeats 3200000 in
theorem rwrite_at (h : At W w (Both (RfT k f) (Both (RefT rb S) R))) (hR : Stable R) (hG : GoodS S) (hfit : fits f.held = true) (hlen : f.held.length ≤ 65536) (hm : ∀ n ∈ f.made, n ≤ S.made) (hfew : f.made.length ≤ S.made) :
    Calls Tryz.prog 28 #[.pointer (some ⟨rb, 0, none⟩), .pointer (some ⟨k, 0, none⟩)] w fun e w' => e = .returned (.int .i64 (fwriteP S f).2.2) ∧ At W w' (Both (RfT k (fwriteP S f).2.1) (Both (RefT rb (fwriteP S f).1) R)) := by
  obtain ⟨res, hres⟩ : ∃ res, res = fwriteP S f := ⟨_, rfl⟩
  rw [← hres]
  unfold fwriteP at hres
  obtain ⟨hv, mv, h⟩ := h.rf
  have hst := (RfI.stable k f hv mv).both ((RefT.stable rb S).both hR)
  have hof := Of_at f.held.length w f.held hv (Nat.le_refl _) (by omega) (RdRow.of_own h.rfHeld)
  have hfo := fits_ofL hfit
  have hfl : (frameL (ofL f.held)).length ≤ 1099511627776 := by
    have h1 := frame_wsum hfo
    have h2 := wsum_fit hfo
    have h3 := ofL_len f.held
    omega
  have hms := hG.sizes.2.2.2.1
  have hwt := written_top hG hfo
  have hwr := fun (vo : Value) (w' : World) (h' : At W w' (Both (RefT rb S) (Both (RowG tSt 1 vo (ofL f.held).length (strs (ofL f.held))) (Both (RfI k f hv mv) R)))) =>
    rWritten_at h' ((RowG.stable _ _ _ _ _).both ((RfI.stable _ _ _ _).both hR)) hG (fun w' h' => RdRow.of_own h'.rowG) hfo hfl
  obtain ⟨c0, _, _, _, _, hlt⟩ := h.rfF
  have H := Lib.hid h
  have HST := Lib.hid hst
  have HOF := Lib.hid hof
  have HR := Lib.hid hR
  generalize writtenP S (ofL f.held) = P at *
  by_cases hz : P.2.2 = 0
  · rw [if_pos hz] at hres
    rw [hz] at hwr
    have HWR := Lib.hid hwr
    have HRES := Lib.hid hres
    have hml : (mz f.made).length ≤ 16777216 := by simp only [mz, List.length_map]; omega
    have HML := Lib.hid hml
    clear h hR hG hfit hlen hm hfew hres hst hof hfo hfl hms hwt hwr hz hml
    go_enter Tryz.func28, Tryz.ntmps28
    (repeat' (first | (go_big_may; fail) | go_values | go_skip | go_guarded | go_step | go_upon | go_back | dsimp only))
    refine HOF.out.mono ?_
    rintro e w1 ⟨vo, rfl, h1⟩
    have h2 := (H.out.glue HST.out h1).perm (show _ = Both (RefT rb S) (Both (RowG tSt 1 vo (ofL f.held).length (strs (ofL f.held))) (Both (RfI k f hv mv) R)) by ac_rfl)
    have H2 := Lib.hid h2
    clear h1 h2 HOF H HST c0 hlt
    (repeat' (first | (go_big_may; fail) | go_values | go_skip | go_guarded | go_step | go_upon | go_back | dsimp only))
    refine (HWR.out vo w1 H2.out).mono ?_
    rintro e w2 ⟨rfl, h3⟩
    have h4 := (h3.perm (show _ = Both (RowG tSt 1 vo (ofL f.held).length (strs (ofL f.held))) (Both (RfI k f hv mv) (Both (RefT rb P.1) R)) by ac_rfl)).drop
    obtain ⟨_, _, c2, _, fz, hlt⟩ := h4.rfF
    have h5 := h4.perm (show _ = Both (RowG tInt 1 mv (mz f.made).length (intsV (mz f.made))) (Both (CellT k (rfCells f hv mv) tRf) (Both (RowG tSx 1 hv f.held.length (strs f.held)) (Both (RefT rb P.1) R))) by unfold RfI; show Both (Both _ (Both _ (RowG tInt 1 mv (mz f.made).length (intsV (mz f.made))))) _ = _; ac_rfl)
    have HS5 := Lib.hid (show Stable (Both (CellT k (rfCells f hv mv) tRf) (Both (RowG tSx 1 hv f.held.length (strs f.held)) (Both (RefT rb P.1) R))) from (CellT.stable _ _ _).both ((RowG.stable _ _ _ _ _).both ((RefT.stable _ _).both HR.out)))
    have H5 := Lib.hid h5
    have hml := HML.out
    clear h3 h4 h5 HWR H2
    (repeat' (first | (go_big_may; ((at_builtin; go_must (refine wpList_append_to rfl _ _ 46 tInt rfl Tryz.underlying46 info_int rfl (by decide) rfl (H5.out) (HS5.out) rfl (by first | rfl | simp) rfl ((by intro u hu; simp at hu; subst hu; rfl)) (by unfold maxLen; omega) (by omega) ?_); intro a6 p6 w6 h6 _); have H6 := Lib.hid h6; obtain ⟨e2, e2f, e2l⟩ := h6.drop.cellF (o := 2) rfl; obtain ⟨e0, e0f, _⟩ := h6.drop.cellF (o := 0) rfl; clear h6 c2 fz hlt)) | go_values | go_skip | go_guarded | go_step | go_upon | go_back | dsimp only))
    have h7 := (H6.out.perm (show _ = Both (CellT k (rfCells f hv mv) tRf) (Both (RowG tInt 1 (.slice a6 ((mz f.made).length + 1) p6) ((mz f.made).length + 1) (intsV (mz f.made) ++ (#[Value.int .i64 P.2.1] : Array Value).toList)) (Both (RowG tSx 1 hv f.held.length (strs f.held)) (Both (RefT rb P.1) R))) by ac_rfl)).setCell ((RowG.stable _ _ _ _ _).both ((RowG.stable _ _ _ _ _).both ((RefT.stable _ _).both HR.out))) 2 (.slice a6 ((mz f.made).length + 1) p6)
    have h8 := h7.setCell ((RowG.stable _ _ _ _ _).both ((RowG.stable _ _ _ _ _).both ((RefT.stable _ _).both HR.out))) 0 (.slice none 0 0)
    have e1 : mz (f.made ++ [P.2.1]) = mz f.made ++ [(P.2.1 : Int)] := by simp [mz]
    have e2 : RowG tInt 1 (.slice a6 ((mz f.made).length + 1) p6) ((mz f.made).length + 1) (intsV (mz f.made) ++ (#[Value.int .i64 P.2.1] : Array Value).toList) = RowT (.slice a6 ((mz f.made).length + 1) p6) (mz (f.made ++ [P.2.1])) := by
      funext w fp
      unfold RowT RowG
      rw [e1]
      simp only [List.length_append, List.length_cons, List.length_nil, intsV, List.map_append, List.map_cons, List.map_nil, Nat.zero_add]
    rw [e2] at h8
    have h9 : At W _ (Both (RowG tSx 1 hv f.held.length (strs f.held)) (Both (CellT k (rfCells { f with made := f.made ++ [P.2.1], held := [] } (.slice none 0 0) (.slice a6 ((mz f.made).length + 1) p6)) tRf) (Both (RowT (.slice a6 ((mz f.made).length + 1) p6) (mz (f.made ++ [P.2.1]))) (Both (RefT rb P.1) R)))) := h8.pull3
    have h10 := h9.drop.noRowG ((CellT.stable _ _ _).both ((RowT.stable _ _).both ((RefT.stable _ _).both HR.out))) tSx 1
    have HEND := Lib.hid (At.toRf (f := { f with made := f.made ++ [P.2.1], held := [] }) (hv := .slice none 0 0) (mv := .slice a6 ((mz f.made).length + 1) p6) (h10.perm (show _ = Both (RfI k { f with made := f.made ++ [P.2.1], held := [] } (.slice none 0 0) (.slice a6 ((mz f.made).length + 1) p6)) (Both (RefT rb P.1) R) by unfold RfI; show Both (RowG tSx 1 (.slice none 0 0) 0 []) _ = Both (Both _ (Both (RowG tSx 1 (.slice none 0 0) 0 []) _)) _; ac_rfl)))
    clear h7 h8 h9 h10 e1 e2 H6 H5 HS5 hml
    (repeat' (first | (go_big_may; fail) | go_values | go_skip | go_guarded | go_step | go_upon | go_back | dsimp only))
    go_ret
    rw [HRES.out]
    exact ⟨rfl, HEND.out⟩
  · rw [if_neg hz] at hres
    have hz9 : ((P.2.2 : Int) != 0) = true := by simp; omega
    have hgn := fun (w' : World) (h' : At W w' (Both (RfT k f) (Both (RefT rb P.1) R))) => gone_at h' hR hwt.1 (fun n hn => Nat.le_trans (hm n hn) hwt.2.1)
    have HGN := Lib.hid hgn
    have HWR := Lib.hid hwr
    have HRES := Lib.hid hres
    clear h hR hG hfit hlen hm hfew hres hst hof hfo hfl hms hwt hwr hz hgn
    go_enter Tryz.func28, Tryz.ntmps28
    (repeat' (first | (go_big_may; fail) | go_values | go_skip | go_guarded | go_step | go_upon | go_back | dsimp only))
    refine HOF.out.mono ?_
    rintro e w1 ⟨vo, rfl, h1⟩
    have h2 := (H.out.glue HST.out h1).perm (show _ = Both (RefT rb S) (Both (RowG tSt 1 vo (ofL f.held).length (strs (ofL f.held))) (Both (RfI k f hv mv) R)) by ac_rfl)
    have H2 := Lib.hid h2
    clear h1 h2 HOF H HST c0 hlt
    (repeat' (first | (go_big_may; fail) | go_values | go_skip | go_guarded | go_step | go_upon | go_back | dsimp only))
    refine (HWR.out vo w1 H2.out).mono ?_
    rintro e w2 ⟨rfl, h3⟩
    have h4 := (h3.perm (show _ = Both (RowG tSt 1 vo (ofL f.held).length (strs (ofL f.held))) (Both (RfI k f hv mv) (Both (RefT rb P.1) R)) by ac_rfl)).drop
    have HG2 := Lib.hid (HGN.out w2 (At.toRf h4))
    clear h3 h4 HWR H2 HGN
    (repeat' (first | (go_big_may; fail) | go_values | go_skip | go_guarded | go_step | go_upon | go_back | dsimp only))
    refine HG2.out.mono ?_
    rintro e w3 ⟨rfl, h5⟩
    obtain ⟨hv3, mv3, h6⟩ := h5.rf
    obtain ⟨_, _, _, d3, fz, hlt⟩ := h6.rfF
    have HEND := Lib.hid (h5.rfDead ((RefT.stable _ _).both HR.out) P.2.2)
    clear h5 h6 HG2
    (repeat' (first | (go_big_may; fail) | go_values | go_skip | go_guarded | go_step | go_upon | go_back | dsimp only))
    go_ret
    rw [HRES.out]
    exact ⟨rfl, HEND.out⟩
set_option maxRecDepth 100000 in
set_option maxHeartbeats 1600000 in
theorem rFDrop_at (h : At W w (Both (RfT k f) (Both (RefT rb S) R))) (hR : Stable R) (hG : GoodS S) (hm : ∀ n ∈ f.made, n ≤ S.made) :
    Calls Tryz.prog 53 #[.pointer (some ⟨rb, 0, none⟩), .pointer (some ⟨k, 0, none⟩)] w fun e w' => e = .returned (.tuple #[]) ∧ At W w' (Both (RfT k (dropF S f).2) (Both (RefT rb (dropF S f).1) R)) := by
  obtain ⟨hv, mv, h1⟩ := h.rf
  obtain ⟨_, _, _, c3, _, hlt⟩ := h1.rfF
  unfold dropF
  by_cases h13 : f.dead = 13
  · rw [if_pos h13]
    have hq : ((f.dead : Int) != 13) = false := by simp [h13]
    have H := Lib.hid h
    clear h h1 hR hG hm h13
    go_enter Tryz.func53, Tryz.ntmps53
    (repeat' (first | (go_big_may; fail) | go_values | go_skip | go_guarded | go_step | go_upon | go_back | dsimp only))
    go_end0
    exact ⟨rfl, H.out⟩
  · rw [if_neg h13]
    have hq : ((f.dead : Int) != 13) = true := by simp; omega
    have HGN := Lib.hid (gone_at h hR hG hm)
    have HR := Lib.hid hR
    clear h h1 hR hG hm h13
    go_enter Tryz.func53, Tryz.ntmps53
    (repeat' (first | (go_big_may; fail) | go_values | go_skip | go_guarded | go_step | go_upon | go_back | dsimp only))
    refine HGN.out.mono ?_
    rintro e w3 ⟨rfl, h5⟩
    obtain ⟨hv3, mv3, h6⟩ := h5.rf
    obtain ⟨_, _, _, d3, fz, hlt⟩ := h6.rfF
    have HEND := Lib.hid (h5.rfDead ((RefT.stable _ _).both HR.out) 13)
    clear h5 h6 HGN
    (repeat' (first | (go_big_may; fail) | go_values | go_skip | go_guarded | go_step | go_upon | go_back | dsimp only))
    go_end0
    exact ⟨rfl, HEND.out⟩
set_option maxRecDepth 100000 in
set_option maxHeartbeats 3200000 in
theorem rFinish_at (h : At W w (Both (RfT k f) (Both (RefT rb S) R))) (hR : Stable R) (hG : GoodS S) (hS : Sealed S) (hO : FOk S f) :
    Calls Tryz.prog 18 #[.pointer (some ⟨rb, 0, none⟩), .pointer (some ⟨k, 0, none⟩)] w fun e w' => ∃ v, e = .returned (.tuple #[v, .int .i64 (finishP S f).2.2.2]) ∧ RdRow w' v (mz (finishP S f).2.2.1).length 1 (intsV (mz (finishP S f).2.2.1)) ∧ At W w' (Both (RfT k (finishP S f).2.1) (Both (RefT rb (finishP S f).1) R)) := by
  obtain ⟨res, hres⟩ : ∃ res, res = finishP S f := ⟨_, rfl⟩
  rw [← hres]
  unfold finishP at hres
  obtain ⟨hv, mv, h1⟩ := h.rf
  obtain ⟨bo, cp, hbv, hcp1, hcp2⟩ := own_shape h1.rfHeld
  subst hbv
  unfold maxLen at hcp2
  have hmx : f.held.length ≤ 9223372036854775807 := by omega
  obtain ⟨c0, _, c2, c3, fz, hlt⟩ := h1.rfF
  have HR := Lib.hid hR
  by_cases hd : f.dead = 0
  · rw [if_neg (by simpa using hd)] at hres
    have hdz : ((f.dead : Int) != 0) = false := by simp [hd]
    by_cases hh : f.held = []
    · rw [if_pos hh] at hres
      have hl0 : ¬ (0 : Int) < f.held.length := by rw [hh]; simp
      have h2 : At W _ (Both (CellT k (rfCells { f with dead := 13 } (.slice bo f.held.length cp) mv) tRf) (Both (RowG tSx 1 (.slice bo f.held.length cp) f.held.length (strs f.held)) (Both (RowT mv (mz f.made)) (Both (RefT rb S) R)))) := h1.rfSet ((RefT.stable _ _).both hR) 3 (.int .i64 13)
      have h3 := h2.perm (show _ = Both (RfI k { f with dead := 13 } (.slice bo f.held.length cp) mv) (Both (RefT rb S) R) by unfold RfI; ac_rfl)
      have hrd := RdRow.of_own h3.rfMade
      have H3 := Lib.hid (At.toRf (f := { f with dead := 13 }) h3)
      have HRD := Lib.hid hrd
      have HRES := Lib.hid hres
      clear h h1 h2 h3 hrd hR hG hS hO hres hd hh hcp1 hcp2
      go_enter Tryz.func18, Tryz.ntmps18
      (repeat' (first | (go_big_may; fail) | go_values | go_skip | go_guarded | go_step | go_upon | go_back | dsimp only))
      go_ret2
      rw [HRES.out]
      exact ⟨_, rfl, HRD.out, H3.out⟩
    · rw [if_neg hh] at hres
      have hl0 : (0 : Int) < f.held.length := by have := List.length_pos_iff.2 hh; omega
      have hless := hO.less hd
      have hmost := hO.most
      have HWC := Lib.hid (rwrite_at h hR hG hO.fit (by omega) hO.made hO.few)
      generalize fwriteP S f = P at *
      by_cases hz : P.2.2 = 0
      · rw [if_pos hz] at hres
        rw [hz] at HWC
        have HRES := Lib.hid hres
        clear h h1 hR hG hS hO hres hd hh hcp1 hcp2 hless hmost hz
        go_enter Tryz.func18, Tryz.ntmps18
        (repeat' (first | (go_big_may; fail) | go_values | go_skip | go_guarded | go_step | go_upon | go_back | dsimp only))
        refine HWC.out.mono ?_
        rintro e w2 ⟨rfl, h4⟩
        obtain ⟨hv4, mv4, h5⟩ := h4.rf
        clear c0 c2 c3 fz hlt
        obtain ⟨_, _, c2, c3, fz, hlt⟩ := h5.rfF
        have h6 : At W _ (Both (CellT k (rfCells { P.2.1 with dead := 13 } hv4 mv4) tRf) (Both (RowG tSx 1 hv4 P.2.1.held.length (strs P.2.1.held)) (Both (RowT mv4 (mz P.2.1.made)) (Both (RefT rb P.1) R)))) := h5.rfSet ((RefT.stable _ _).both HR.out) 3 (.int .i64 13)
        have h7 := h6.perm (show _ = Both (RfI k { P.2.1 with dead := 13 } hv4 mv4) (Both (RefT rb P.1) R) by unfold RfI; ac_rfl)
        have hrd := RdRow.of_own h7.rfMade
        have H7 := Lib.hid (At.toRf (f := { P.2.1 with dead := 13 }) h7)
        have HRD := Lib.hid hrd
        clear h4 h5 h6 h7 hrd HWC
        (repeat' (first | (go_big_may; fail) | go_values | go_skip | go_guarded | go_step | go_upon | go_back | dsimp only))
        go_ret2
        rw [HRES.out]
        exact ⟨_, rfl, HRD.out, H7.out⟩
      · rw [if_neg hz] at hres
        have hz9 : ((P.2.2 : Int) != 0) = true := by simp; omega
        have HRES := Lib.hid hres
        clear h h1 hR hG hS hO hres hd hh hcp1 hcp2 hless hmost hz
        go_enter Tryz.func18, Tryz.ntmps18
        (repeat' (first | (go_big_may; fail) | go_values | go_skip | go_guarded | go_step | go_upon | go_back | dsimp only))
        refine HWC.out.mono ?_
        rintro e w2 ⟨rfl, h4⟩
        have H4 := Lib.hid h4
        clear h4 HWC
        (repeat' (first | (go_big_may; fail) | go_values | go_skip | go_guarded | go_step | go_upon | go_back | dsimp only))
        go_ret2
        rw [HRES.out]
        exact ⟨_, rfl, RdRow.of_own (World.ownsRow_nil _ 0 tInt 1), H4.out⟩
  · rw [if_pos hd] at hres
    have hdz : ((f.dead : Int) != 0) = true := by simp; omega
    have H := Lib.hid h
    have HST := Lib.hid ((RfT.stable k f).both ((RefT.stable rb S).both hR))
    have HRES := Lib.hid hres
    clear h h1 hR hG hS hO hres hd hcp1 hcp2
    go_enter Tryz.func18, Tryz.ntmps18
    (repeat' (first | (go_big_may; fail) | go_values | go_skip | go_guarded | go_step | go_upon | go_back | dsimp only))
    (refine region_still_tail 5 (by kernel_rfl) (by kernel_rfl) ?_; simp only [List.take_succ_cons, List.take_zero, List.drop_succ_cons, List.drop_zero]; (iterate 5 (first | ((with_reducible refine still_plain ?_ rfl ?_ ?_); rotate_left; (next => (go_simp; (try with_reducible rfl))); simp only [Act.put, List.setIfInBounds_toArray, List.set_cons_zero, List.set_cons_succ]) | ((with_reducible refine still_skip ?_ ?_); (next => (go_simp; done)); simp only [Act.put, List.setIfInBounds_toArray, List.set_cons_zero, List.set_cons_succ]) | ((with_reducible refine still_val ?_ ?_ ?_ ?_); rotate_left; (next => (go_simp; done)); (next => (go_simp; (try with_reducible rfl))); simp only [Act.put, List.setIfInBounds_toArray, List.set_cons_zero, List.set_cons_succ]))); (with_reducible refine wpStill_nil ?_))
    (repeat' (first | (go_big_may; fail) | go_values | go_skip | go_guarded | go_step | go_upon | go_back | dsimp only))
    go_ret2
    rw [HRES.out]
    exact ⟨_, rfl, RdRow.of_own (World.ownsRow_nil _ 0 tInt 1), H.out.mono HST.out (Below.refl _ _).drew⟩
end
end Go.Proofs.YthcicmbkkkhifaaGreatDoor
namespace Go.Proofs.YthcicmbkkkhifaaGreatDoor
open Go.RowKit

section
variable {W w : World} {R : Thing} {k rb : Nat} {S : St} {f : FmD} {ws : List (List UInt8)} {v : Value}
set_option maxRecDepth 100000 in
set_option maxHeartbeats 6400000 in
theorem rAdd_at (h : At W w (Both (RfT k f) (Both (RefT rb S) R))) (hR : Stable R) (hG : GoodS S) (hS : Sealed S) (hO : FOk S f) (hv : ∃ ao cp, v = .slice ao ws.length cp ∧ ws.length ≤ 1099511627776) (hx : ∀ x ∈ ws, x.length ≤ 1099511627776) (hrd : ∀ w', At W w' R → RdRow w' v ws.length 1 (strs ws)) :
    Calls Tryz.prog 15 #[.pointer (some ⟨rb, 0, none⟩), .pointer (some ⟨k, 0, none⟩), v] w fun e w' => e = .returned (.int .i64 (addP S f ws).2.2) ∧ At W w' (Both (RfT k (addP S f ws).2.1) (Both (RefT rb (addP S f ws).1) R)) := by
  obtain ⟨av, cv, rfl, hlen⟩ := hv
  have H := Lib.hid h
  have HR := Lib.hid hR
  have HRD := Lib.hid hrd
  have HX := Lib.hid hx
  obtain ⟨hv0, mv0, hh0⟩ := h.rf
  obtain ⟨_, _, _, c3, _, hlk⟩ := hh0.rfF
  obtain ⟨res, hres⟩ : ∃ res, res = addP S f ws := ⟨_, rfl⟩
  rw [← hres]
  unfold addP at hres
  by_cases hd : f.dead = 0
  · rw [if_neg (by simpa using hd)] at hres
    have hdz : ((f.dead : Int) != 0) = false := by simp [hd]
    have HG := Lib.hid hG
    have HSE := Lib.hid hS
    have HO := Lib.hid hO
    have HD := Lib.hid hd
    by_cases hfit : fits ws = false
    · rw [if_pos hfit] at hres
      have HRES := Lib.hid hres
      have HFI := Lib.hid hfit
      clear h hh0 hR hG hS hO hrd hx hres hfit hd
      go_enter Tryz.func15, Tryz.ntmps15
      (repeat' (first | (go_big_may; fail) | go_values | go_skip | go_guarded | go_step | go_upon | go_back | dsimp only))
      go_loopw [7] (fun vi wr => ∃ (i : Nat), vi = .int .i64 i ∧ i ≤ ws.length ∧ (∀ (j : Nat) x, j < i → ws[j]? = some x → x.length ≤ 255) ∧ At W wr (Both (RfT k f) (Both (RefT rb S) R))) (fun vi _ => ws.length - (intOf vi).toNat)
      case atStart => exact ⟨0, rfl, Nat.zero_le _, fun j x hj => absurd hj (Nat.not_lt_zero _), H.out⟩
      case round =>
        obtain ⟨i, rfl, hi, hsm, h1⟩ := hrel
        have H1 := Lib.hid h1
        have HSM := Lib.hid hsm
        by_cases hlt : i < ws.length
        · obtain ⟨x, hxx⟩ : ∃ x, ws[i]? = some x := ⟨_, List.getElem?_eq_getElem hlt⟩
          obtain ⟨gb, off, cap', hsl, hcell⟩ := (HRD.out _ h1.drop.drop).str hxx
          simp only [Value.slice.injEq] at hsl
          obtain ⟨hao, _, hcv⟩ := hsl
          subst hao
          subst hcv
          have hxl := HX.out x (List.mem_of_getElem? hxx)
          have hi0 : (0 : Int) ≤ i := by omega
          have hi1 : (i : Int) < ws.length := by omega
          have hwr : IntKind.i64.wrap ((i : Int) + 1) = ((i + 1 : Nat) : Int) := by rw [IntKind.wrap_i64] <;> omega
          by_cases hbig : 255 < x.length
          · have hb1 : (255 : Int) < x.length := by omega
            clear h1 hsm hxx
            (repeat' (first | (go_big_may; fail) | go_values | go_skip | go_guarded | go_step | go_upon | go_back | dsimp only))
            go_ret
            rw [HRES.out]
            exact ⟨rfl, H1.out⟩
          · have hb1 : ¬ (255 : Int) < x.length := by omega
            have HXX := Lib.hid hxx
            have HBG := Lib.hid hbig
            clear h1 hsm hxx hbig
            (repeat' (first | (go_big_may; fail) | go_values | go_skip | go_guarded | go_step | go_upon | go_back | dsimp only))
            go_roundw
            case rel => exact ⟨i + 1, rfl, hlt, fun j y hj hy => by
              rcases Nat.lt_or_ge j i with h2 | h2
              · exact HSM.out j y h2 hy
              · have : j = i := by omega
                subst this
                rw [HXX.out] at hy
                cases hy
                have := HBG.out
                omega, H1.out⟩
            case measure => simp [intOf]; omega
        · exfalso
          obtain ⟨j, x, hj, hbx⟩ := fits_no HFI.out
          have h2 := (List.getElem?_eq_some_iff.1 hj).1
          have := hsm j x (by omega) hj
          omega
    · have hft : fits ws = true := by simpa using hfit
      rw [if_neg hfit] at hres
      have HRES := Lib.hid hres
      have HFI := Lib.hid hft
      clear h hh0 hR hG hS hO hrd hx hres hfit hft hd
      go_enter Tryz.func15, Tryz.ntmps15
      (repeat' (first | (go_big_may; fail) | go_values | go_skip | go_guarded | go_step | go_upon | go_back | dsimp only))
      go_loopw [7] (fun vi wr => ∃ (i : Nat), vi = .int .i64 i ∧ i ≤ ws.length ∧ At W wr (Both (RfT k f) (Both (RefT rb S) R))) (fun vi _ => ws.length - (intOf vi).toNat)
      case atStart => exact ⟨0, rfl, Nat.zero_le _, H.out⟩
      case round =>
        obtain ⟨i, rfl, hi, h1⟩ := hrel
        have H1 := Lib.hid h1
        by_cases hlt : i < ws.length
        · obtain ⟨x, hxx⟩ : ∃ x, ws[i]? = some x := ⟨_, List.getElem?_eq_getElem hlt⟩
          obtain ⟨gb, off, cap', hsl, hcell⟩ := (HRD.out _ h1.drop.drop).str hxx
          simp only [Value.slice.injEq] at hsl
          obtain ⟨hao, _, hcv⟩ := hsl
          subst hao
          subst hcv
          have hxl := fits_at HFI.out hxx
          have hi0 : (0 : Int) ≤ i := by omega
          have hi1 : (i : Int) < ws.length := by omega
          have hwr : IntKind.i64.wrap ((i : Int) + 1) = ((i + 1 : Nat) : Int) := by rw [IntKind.wrap_i64] <;> omega
          have hb1 : ¬ (255 : Int) < x.length := by omega
          clear h1 hxx hxl
          (repeat' (first | (go_big_may; fail) | go_values | go_skip | go_guarded | go_step | go_upon | go_back | dsimp only))
          go_roundw
          case rel => exact ⟨i + 1, rfl, hlt, H1.out⟩
          case measure => simp [intOf]; omega
        · have hi1 : ¬ (i : Int) < ws.length := by omega
          clear h1
          (repeat' (first | (go_big_may; fail) | go_values | go_skip | go_guarded | go_step | go_upon | go_back | dsimp only))
          go_loopw [8] (fun vi wr => ∃ (i : Nat) (S1 : St) (f1 : FmD), vi = .int .i64 i ∧ i ≤ ws.length ∧ GoodS S1 ∧ Sealed S1 ∧ FOk S1 f1 ∧ f1.dead = 0 ∧ res = addL S1 f1 (ws.drop i) ∧ At W wr (Both (RfT k f1) (Both (RefT rb S1) R))) (fun vi _ => ws.length - (intOf vi).toNat)
          case atStart => exact ⟨0, S, f, rfl, Nat.zero_le _, HG.out, HSE.out, HO.out, HD.out, HRES.out, H1.out⟩
          case round =>
            obtain ⟨i, S1, f1, rfl, hi, hg1, hs1, ho1, hd1, hr1, h1⟩ := hrel
            clear HRES H1 H HG HSE HO HD
            have HG1 := Lib.hid hg1
            have HS1 := Lib.hid hs1
            have HO1 := Lib.hid ho1
            have HD1 := Lib.hid hd1
            by_cases hlt : i < ws.length
            · obtain ⟨x, hxx⟩ : ∃ x, ws[i]? = some x := ⟨_, List.getElem?_eq_getElem hlt⟩
              obtain ⟨gb, off, cap', hsl, hcell⟩ := (HRD.out _ h1.drop.drop).str hxx
              simp only [Value.slice.injEq] at hsl
              obtain ⟨hao, _, hcv⟩ := hsl
              subst hao
              subst hcv
              have hdr : ws.drop i = x :: ws.drop (i + 1) := by
                obtain ⟨h1, h2⟩ := List.getElem?_eq_some_iff.1 hxx
                rw [List.drop_eq_getElem_cons h1, h2]
              rw [hdr, addL_cons] at hr1
              have hxl := fits_at HFI.out hxx
              have hfx : fits (f1.held ++ [x]) = true := fits_append.2 ⟨ho1.fit, by simp [fits, hxl]⟩
              have HFX := Lib.hid hfx
              have hless := ho1.less hd1
              have hmost := ho1.most
              have hi0 : (0 : Int) ≤ i := by omega
              have hi1 : (i : Int) < ws.length := by omega
              have hwr : IntKind.i64.wrap ((i : Int) + 1) = ((i + 1 : Nat) : Int) := by rw [IntKind.wrap_i64] <;> omega
              obtain ⟨hv, mv, h1⟩ := h1.rf
              have h2 := h1.perm (show _ = Both (CellT k (rfCells f1 hv mv) tRf) (Both (RowG tSx 1 hv f1.held.length (strs f1.held)) (Both (RowT mv (mz f1.made)) (Both (RefT rb S1) R))) by unfold RfI; ac_rfl)
              have hSY : Stable (Both (CellT k (rfCells f1 hv mv) tRf) (Both (RowG tSx 1 hv f1.held.length (strs f1.held)) (Both (RowT mv (mz f1.made)) (Both (RefT rb S1) R)))) := (CellT.stable _ _ _).both ((RowG.stable _ _ _ _ _).both ((RowT.stable _ _).both ((RefT.stable _ _).both HR.out)))
              have hSX : Stable (Both (CellT k (rfCells f1 hv mv) tRf) (Both (RowT mv (mz f1.made)) (Both (RefT rb S1) R))) := (CellT.stable _ _ _).both ((RowT.stable _ _).both ((RefT.stable _ _).both HR.out))
              have c0 := cell_at h2.cell.1 0
              have lk := lt_of_heap h2.cell.1
              simp only [List.getElem?_toArray, List.getElem?_cons_zero, List.getElem?_cons_succ] at c0
              have H15 := Lib.hid h2
              have hS9 : wr.drew.cell? ⟨k, 0, none⟩ = some hv ∧ wr.drew.cell? ⟨gb, off + i, none⟩ = some (.string ⟨x.toArray⟩) := ⟨c0, hcell⟩
              clear h1 h2 hxx hdr hxl hfx hg1 hs1 ho1 hd1
              (repeat' (first | (go_big_may; fail) | go_values | go_skip | go_guarded | go_step | go_upon | go_back | dsimp only))
              refine wp_only ?_
              rename_i K13 hK13
              have HK13 := Lib.hid hK13
              clear hK13
              refine wpL.start (fun l wx => (l.getD 13 true = false → wx.cell? ⟨k, 0, none⟩ = some hv) ∧ (l.getD 9 true = false → wx.cell? ⟨gb, off + i, none⟩ = some (.string ⟨x.toArray⟩))) (by kernel_rfl) ⟨fun _ => hS9.1, fun _ => hS9.2⟩ (fun hHeld => ?_)
              refine wpL.take (i := 0) (v := ?_) rfl (by kernel_rfl) (by kernel_rfl) (by kernel_rfl) (fun _ _ _ h => h) (fun l w => by (try dsimp only); rw [getD_set_ne true (show 0 ≠ 13 by decide), getD_set_ne true (show 0 ≠ 9 by decide)]) (Or.inl ⟨by rfl, ?_⟩) hHeld (fun hH2 => ?_)
              rotate_left
              next => (intro w hSw; go_simp; (try with_reducible rfl))
              clear hHeld
              have hHeld := hH2
              clear hH2
              (try simp only [List.getElem_toArray, List.getElem_cons_zero, List.getElem_cons_succ, Act.put, List.setIfInBounds_toArray, List.set_cons_zero, List.set_cons_succ])
              refine wpL.take (i := 1) (v := ?_) rfl (by kernel_rfl) (by kernel_rfl) (by kernel_rfl) (fun _ _ _ h => h) (fun l w => by (try dsimp only); rw [getD_set_ne true (show 1 ≠ 13 by decide), getD_set_ne true (show 1 ≠ 9 by decide)]) (Or.inl ⟨by rfl, ?_⟩) hHeld (fun hH2 => ?_)
              rotate_left
              next => (intro w hSw; go_simp; (try with_reducible rfl))
              clear hHeld
              have hHeld := hH2
              clear hH2
              (try simp only [List.getElem_toArray, List.getElem_cons_zero, List.getElem_cons_succ, Act.put, List.setIfInBounds_toArray, List.set_cons_zero, List.set_cons_succ])
              refine wpL.take (i := 2) (v := ?_) rfl (by kernel_rfl) (by kernel_rfl) (by kernel_rfl) (fun _ _ _ h => h) (fun l w => by (try dsimp only); rw [getD_set_ne true (show 2 ≠ 13 by decide), getD_set_ne true (show 2 ≠ 9 by decide)]) (Or.inl ⟨by rfl, ?_⟩) hHeld (fun hH2 => ?_)
              rotate_left
              next => (intro w hSw; go_simp; (try with_reducible rfl))
              clear hHeld
              have hHeld := hH2
              clear hH2
              (try simp only [List.getElem_toArray, List.getElem_cons_zero, List.getElem_cons_succ, Act.put, List.setIfInBounds_toArray, List.set_cons_zero, List.set_cons_succ])
              refine wpL.take (i := 3) (v := ?_) rfl (by kernel_rfl) (by kernel_rfl) (by kernel_rfl) (fun _ _ _ h => h) (fun l w => by (try dsimp only); rw [getD_set_ne true (show 3 ≠ 13 by decide), getD_set_ne true (show 3 ≠ 9 by decide)]) (Or.inl ⟨by rfl, ?_⟩) hHeld (fun hH2 => ?_)
              rotate_left
              next => (intro w hSw; go_simp; (try with_reducible rfl))
              clear hHeld
              have hHeld := hH2
              clear hH2
              (try simp only [List.getElem_toArray, List.getElem_cons_zero, List.getElem_cons_succ, Act.put, List.setIfInBounds_toArray, List.set_cons_zero, List.set_cons_succ])
              refine wpL.takeG (i := 4) (g := 13) (v := ?_) (T := fun wx => wx.cell? ⟨k, 0, none⟩ = some (hv)) rfl rfl (by kernel_rfl) (by kernel_rfl) (by kernel_rfl) (by kernel_rfl) (by kernel_rfl) (fun _ _ _ h => h) (fun l w hl hS => hS.1 hl) (fun l w => by (try dsimp only); rw [getD_set_ne true (show 4 ≠ 13 by decide), getD_set_ne true (show 4 ≠ 9 by decide)]) (Or.inl ⟨by rfl, ?_⟩) hHeld (fun hH2 => ?_)
              rotate_left
              next => (intro w hSw; (try dsimp only at hSw); go_simp; (try with_reducible rfl))
              clear hHeld
              have hHeld := hH2
              clear hH2
              (try simp only [List.getElem_toArray, List.getElem_cons_zero, List.getElem_cons_succ, Act.put, List.setIfInBounds_toArray, List.set_cons_zero, List.set_cons_succ])
              refine wpL.take (i := 5) (v := ?_) rfl (by kernel_rfl) (by kernel_rfl) (by kernel_rfl) (fun _ _ _ h => h) (fun l w => by (try dsimp only); rw [getD_set_ne true (show 5 ≠ 13 by decide), getD_set_ne true (show 5 ≠ 9 by decide)]) (Or.inl ⟨by rfl, ?_⟩) hHeld (fun hH2 => ?_)
              rotate_left
              next => (intro w hSw; go_simp; (try with_reducible rfl))
              clear hHeld
              have hHeld := hH2
              clear hH2
              (try simp only [List.getElem_toArray, List.getElem_cons_zero, List.getElem_cons_succ, Act.put, List.setIfInBounds_toArray, List.set_cons_zero, List.set_cons_succ])
              refine wpL.take (i := 6) (v := ?_) rfl (by kernel_rfl) (by kernel_rfl) (by kernel_rfl) (fun _ _ _ h => h) (fun l w => by (try dsimp only); rw [getD_set_ne true (show 6 ≠ 13 by decide), getD_set_ne true (show 6 ≠ 9 by decide)]) (Or.inl ⟨by rfl, ?_⟩) hHeld (fun hH2 => ?_)
              rotate_left
              next => (intro w hSw; go_simp; (try with_reducible rfl))
              clear hHeld
              have hHeld := hH2
              clear hH2
              (try simp only [List.getElem_toArray, List.getElem_cons_zero, List.getElem_cons_succ, Act.put, List.setIfInBounds_toArray, List.set_cons_zero, List.set_cons_succ])
              refine wpL.take (i := 7) (v := ?_) rfl (by kernel_rfl) (by kernel_rfl) (by kernel_rfl) (fun _ _ _ h => h) (fun l w => by (try dsimp only); rw [getD_set_ne true (show 7 ≠ 13 by decide), getD_set_ne true (show 7 ≠ 9 by decide)]) (Or.inl ⟨by rfl, ?_⟩) hHeld (fun hH2 => ?_)
              rotate_left
              next => (intro w hSw; go_simp; (try with_reducible rfl))
              clear hHeld
              have hHeld := hH2
              clear hH2
              (try simp only [List.getElem_toArray, List.getElem_cons_zero, List.getElem_cons_succ, Act.put, List.setIfInBounds_toArray, List.set_cons_zero, List.set_cons_succ])
              refine wpL.takeG (i := 8) (g := 9) (v := ?_) (T := fun wx => wx.cell? ⟨gb, off + i, none⟩ = some (.string ⟨x.toArray⟩)) rfl rfl (by kernel_rfl) (by kernel_rfl) (by kernel_rfl) (by kernel_rfl) (by kernel_rfl) (fun _ _ _ h => h) (fun l w hl hS => hS.2 hl) (fun l w => by (try dsimp only); rw [getD_set_ne true (show 8 ≠ 13 by decide), getD_set_ne true (show 8 ≠ 9 by decide)]) (Or.inl ⟨by rfl, ?_⟩) hHeld (fun hH2 => ?_)
              rotate_left
              next => (intro w hSw; (try dsimp only at hSw); go_simp; (try with_reducible rfl))
              clear hHeld
              have hHeld := hH2
              clear hH2
              (try simp only [List.getElem_toArray, List.getElem_cons_zero, List.getElem_cons_succ, Act.put, List.setIfInBounds_toArray, List.set_cons_zero, List.set_cons_succ])
              refine wpL.ready (rs := [9]) (by kernel_rfl) (by simp) ?_
              refine AllL.cons rfl (fun K hK => ?_) AllL.nil
              go_simp
              refine hK.out _ _ ?_ (fun hH2 => ?_)
              next =>
                (try dsimp only)
                refine ⟨fun hl => ?_, fun hl => ?_⟩
                · first | (exact lNo hl (by decide +kernel)) | exact hS9.1 | exact cell_oldA hS9.1 | exact t0
                · first | (exact lNo hl (by decide +kernel)) | exact hS9.2 | exact cell_oldA hS9.2
              clear hK K hHeld
              have hHeld := hH2
              clear hH2
              (try simp only [List.getElem_toArray, List.getElem_cons_zero, List.getElem_cons_succ, Act.put, List.setIfInBounds_toArray, List.set_cons_zero, List.set_cons_succ])
              refine wpL.ready (rs := [10]) (by kernel_rfl) (by simp) ?_
              refine AllL.cons rfl (fun K hK => ?_) AllL.nil
              refine step_append_ex rfl _ _ 22 rfl hv _ rfl rfl (append_cell_run (R := Both (CellT k (rfCells f1 hv mv) tRf) (Both (RowT mv (mz f1.made)) (Both (RefT rb S1) R))) (xs := strs f1.held) (u := .string ⟨x.toArray⟩) 22 22 tSx Tryz.underlying22 info_Sx rfl (((H15.out.drew hSY).alloc hSY _).perm (by ac_rfl)) hSX (by exact cell_new _ _ _) rfl (by unfold maxLen; omega) (by omega)) ?_
              rintro ao1 cp1 w10 ⟨h10, hu10⟩
              have hstr : strs f1.held ++ [Value.string ⟨x.toArray⟩] = strs (f1.held ++ [x]) := by simp [strs]
              rw [hstr] at h10
              have h11 := h10.perm (show _ = Both (CellT k (rfCells f1 hv mv) tRf) (Both (RowG tSx 1 (.slice ao1 (f1.held.length + 1) cp1) (f1.held.length + 1) (strs (f1.held ++ [x]))) (Both (RowT mv (mz f1.made)) (Both (RefT rb S1) R))) by ac_rfl)
              have hSZ : Stable (Both (RowG tSx 1 (.slice ao1 (f1.held.length + 1) cp1) (f1.held.length + 1) (strs (f1.held ++ [x]))) (Both (RowT mv (mz f1.made)) (Both (RefT rb S1) R))) := (RowG.stable _ _ _ _ _).both ((RowT.stable _ _).both ((RefT.stable _ _).both HR.out))
              have t0 := cell_at h11.cell.1 0
              have tz := thaw_at h11.cell.1
              have tl := lt_of_heap h11.cell.1
              have h12 : At W _ (Both (CellT k (rfCells { f1 with held := f1.held ++ [x] } (.slice ao1 (f1.held.length + 1) cp1) mv) tRf) (Both (RowG tSx 1 (.slice ao1 (f1.held.length + 1) cp1) (f1.held.length + 1) (strs (f1.held ++ [x]))) (Both (RowT mv (mz f1.made)) (Both (RefT rb S1) R)))) := h11.setCell hSZ 0 (.slice ao1 (f1.held.length + 1) cp1)
              have hll : f1.held.length + 1 = (f1.held ++ [x]).length := by simp
              have h13 : At W _ (Both (RfI k { f1 with held := f1.held ++ [x] } (.slice ao1 (f1.held.length + 1) cp1) mv) (Both (RefT rb S1) R)) := h12.perm (by unfold RfI; rw [← hll]; ac_rfl)
              have H13 := Lib.hid h13
              simp only [List.getElem?_toArray, List.getElem?_cons_zero, List.getElem?_cons_succ] at t0
              clear h10 h11 h12 h13 hSZ hu10 H15 hSX hSY hS9 hstr hll c0 lk
              refine hK.out _ _ ?_ (fun hH2 => ?_)
              next =>
                (try dsimp only)
                refine ⟨fun hl => ?_, fun hl => ?_⟩
                · first | (exact lNo hl (by decide +kernel)) | exact hS9.1 | exact cell_oldA hS9.1 | exact t0
                · first | (exact lNo hl (by decide +kernel)) | exact hS9.2 | exact cell_oldA hS9.2
              clear hK K hHeld
              have hHeld := hH2
              clear hH2
              (try simp only [List.getElem_toArray, List.getElem_cons_zero, List.getElem_cons_succ, Act.put, List.setIfInBounds_toArray, List.set_cons_zero, List.set_cons_succ])
              refine wpL.ready (rs := [11]) (by kernel_rfl) (by simp) ?_
              refine AllL.cons rfl (fun K hK => ?_) AllL.nil
              go_simp
              refine hK.out _ _ ?_ (fun hH2 => ?_)
              next =>
                (try dsimp only)
                refine ⟨fun hl => ?_, fun hl => ?_⟩
                · first | (exact lNo hl (by decide +kernel)) | exact hS9.1 | exact cell_oldA hS9.1 | exact t0
                · first | (exact lNo hl (by decide +kernel)) | exact hS9.2 | exact cell_oldA hS9.2
              clear hK K hHeld
              have hHeld := hH2
              clear hH2
              (try simp only [List.getElem_toArray, List.getElem_cons_zero, List.getElem_cons_succ, Act.put, List.setIfInBounds_toArray, List.set_cons_zero, List.set_cons_succ])
              refine wpL.ready (rs := [12]) (by kernel_rfl) (by simp) ?_
              refine AllL.cons rfl (fun K hK => ?_) AllL.nil
              go_simp
              refine hK.out _ _ ?_ (fun hH2 => ?_)
              next =>
                (try dsimp only)
                refine ⟨fun hl => ?_, fun hl => ?_⟩
                · first | (exact lNo hl (by decide +kernel)) | exact hS9.1 | exact cell_oldA hS9.1 | exact t0
                · first | (exact lNo hl (by decide +kernel)) | exact hS9.2 | exact cell_oldA hS9.2
              clear hK K hHeld
              have hHeld := hH2
              clear hH2
              (try simp only [List.getElem_toArray, List.getElem_cons_zero, List.getElem_cons_succ, Act.put, List.setIfInBounds_toArray, List.set_cons_zero, List.set_cons_succ])
              refine wpL.ready (rs := [13]) (by kernel_rfl) (by simp) ?_
              refine AllL.cons rfl (fun K hK => ?_) AllL.nil
              go_simp
              refine hK.out _ _ ?_ (fun hH2 => ?_)
              next =>
                (try dsimp only)
                refine ⟨fun hl => ?_, fun hl => ?_⟩
                · first | (exact lNo hl (by decide +kernel)) | exact hS9.1 | exact cell_oldA hS9.1 | exact t0
                · first | (exact lNo hl (by decide +kernel)) | exact hS9.2 | exact cell_oldA hS9.2
              clear hK K hHeld
              have hHeld := hH2
              clear hH2
              (try simp only [List.getElem_toArray, List.getElem_cons_zero, List.getElem_cons_succ, Act.put, List.setIfInBounds_toArray, List.set_cons_zero, List.set_cons_succ])
              refine wpL.done (by kernel_rfl) ?_ _
              refine HK13.out _ _ ?_
              generalize World.setCell _ (⟨k, 0, none⟩ : Addr) _ = w4 at *
              clear hHeld t0 tz tl
              obtain ⟨g1, g2, _, _, _, gl⟩ := H13.out.rfF
              have H5 := Lib.hid (At.toRf (f := { f1 with held := f1.held ++ [x] }) H13.out)
              clear H13
              generalize hn1 : f1.held.length + 1 = n1 at *
              dsimp only at g2
              by_cases hm : f1.most ≤ n1
              · have hqq : (f1.most : Int) ≤ (n1 : Int) := by omega
                rw [if_pos hm] at hr1
                have hwc := fun (w' : World) (hb : Below w4.heap.size w4 w') => rwrite_at (H5.out.mono ((RfT.stable _ _).both ((RefT.stable _ _).both HR.out)) hb) HR.out HG1.out HFX.out (by show (f1.held ++ [x]).length ≤ _; simp; omega) HO1.out.made HO1.out.few
                obtain ⟨k1, k2, k3, k4, k5, k6⟩ := fwrite_keep (f := { f1 with held := f1.held ++ [x] }) HG1.out HS1.out HO1.out.most HFX.out HD1.out HO1.out.made HO1.out.few
                generalize fwriteP S1 { f1 with held := f1.held ++ [x] } = P at *
                by_cases hz : P.2.2 = 0
                · rw [if_pos hz] at hr1
                  rw [hz] at hwc
                  have HWC := Lib.hid hwc
                  have HK := Lib.hid k1
                  have HK2 := Lib.hid (k2.trans hz)
                  have HRR := Lib.hid hr1
                  clear hwc k1 k2 k3 k4 k5 k6 hr1 hn1 hz hm
                  (repeat' (first | (go_big_may; fail) | go_values | go_skip | go_guarded | go_step | go_upon | go_back | dsimp only))
                  (refine region_still_tail 9 (by kernel_rfl) (by kernel_rfl) ?_; simp only [List.take_succ_cons, List.take_zero, List.drop_succ_cons, List.drop_zero]; (iterate 9 (first | ((with_reducible refine still_plain ?_ rfl ?_ ?_); rotate_left; (next => (go_simp; (try with_reducible rfl))); simp only [Act.put, List.setIfInBounds_toArray, List.set_cons_zero, List.set_cons_succ]) | ((with_reducible refine still_skip ?_ ?_); (next => (go_simp; done)); simp only [Act.put, List.setIfInBounds_toArray, List.set_cons_zero, List.set_cons_succ]) | ((with_reducible refine still_val ?_ ?_ ?_ ?_); rotate_left; (next => (go_simp; done)); (next => (go_simp; (try with_reducible rfl))); simp only [Act.put, List.setIfInBounds_toArray, List.set_cons_zero, List.set_cons_succ]))); (with_reducible refine wpStill_nil ?_))
                  (repeat' (first | (go_big_may; fail) | go_values | go_skip | go_guarded | go_step | go_upon | go_back | dsimp only))
                  refine (HWC.out _ (Below.refl _ _).drew).mono ?_
                  rintro e w6 ⟨rfl, h6⟩
                  have H6 := Lib.hid h6
                  clear h6 HWC
                  (repeat' (first | (go_big_may; fail) | go_values | go_skip | go_guarded | go_step | go_upon | go_back | dsimp only))
                  go_roundw
                  case rel => exact ⟨i + 1, P.1, P.2.1, rfl, hlt, HK.out.good, HK.out.seal_, HK.out.ok, HK2.out, HRR.out, H6.out⟩
                  case measure => simp [intOf]; omega
                · rw [if_neg hz] at hr1
                  have hz9 : ((P.2.2 : Int) != 0) = true := by simp; omega
                  have HWC := Lib.hid hwc
                  have HRR := Lib.hid hr1
                  clear hwc k1 k2 k3 k4 k5 k6 hr1 hn1 hz hm
                  (repeat' (first | (go_big_may; fail) | go_values | go_skip | go_guarded | go_step | go_upon | go_back | dsimp only))
                  (refine region_still_tail 9 (by kernel_rfl) (by kernel_rfl) ?_; simp only [List.take_succ_cons, List.take_zero, List.drop_succ_cons, List.drop_zero]; (iterate 9 (first | ((with_reducible refine still_plain ?_ rfl ?_ ?_); rotate_left; (next => (go_simp; (try with_reducible rfl))); simp only [Act.put, List.setIfInBounds_toArray, List.set_cons_zero, List.set_cons_succ]) | ((with_reducible refine still_skip ?_ ?_); (next => (go_simp; done)); simp only [Act.put, List.setIfInBounds_toArray, List.set_cons_zero, List.set_cons_succ]) | ((with_reducible refine still_val ?_ ?_ ?_ ?_); rotate_left; (next => (go_simp; done)); (next => (go_simp; (try with_reducible rfl))); simp only [Act.put, List.setIfInBounds_toArray, List.set_cons_zero, List.set_cons_succ]))); (with_reducible refine wpStill_nil ?_))
                  (repeat' (first | (go_big_may; fail) | go_values | go_skip | go_guarded | go_step | go_upon | go_back | dsimp only))
                  refine (HWC.out _ (Below.refl _ _).drew).mono ?_
                  rintro e w6 ⟨rfl, h6⟩
                  have H6 := Lib.hid h6
                  clear h6 HWC
                  (repeat' (first | (go_big_may; fail) | go_values | go_skip | go_guarded | go_step | go_upon | go_back | dsimp only))
                  go_ret
                  rw [HRR.out]
                  exact ⟨rfl, H6.out⟩
              · have hqq : ¬ (f1.most : Int) ≤ (n1 : Int) := by omega
                rw [if_neg hm] at hr1
                have HRR := Lib.hid hr1
                have HM := Lib.hid hm
                have HN1 := Lib.hid hn1
                clear hr1 hn1 hm
                (repeat' (first | (go_big_may; fail) | go_values | go_skip | go_guarded | go_step | go_upon | go_back | dsimp only))
                (refine region_still_tail 9 (by kernel_rfl) (by kernel_rfl) ?_; simp only [List.take_succ_cons, List.take_zero, List.drop_succ_cons, List.drop_zero]; (iterate 9 (first | ((with_reducible refine still_plain ?_ rfl ?_ ?_); rotate_left; (next => (go_simp; (try with_reducible rfl))); simp only [Act.put, List.setIfInBounds_toArray, List.set_cons_zero, List.set_cons_succ]) | ((with_reducible refine still_skip ?_ ?_); (next => (go_simp; done)); simp only [Act.put, List.setIfInBounds_toArray, List.set_cons_zero, List.set_cons_succ]) | ((with_reducible refine still_val ?_ ?_ ?_ ?_); rotate_left; (next => (go_simp; done)); (next => (go_simp; (try with_reducible rfl))); simp only [Act.put, List.setIfInBounds_toArray, List.set_cons_zero, List.set_cons_succ]))); (with_reducible refine wpStill_nil ?_))
                (repeat' (first | (go_big_may; fail) | go_values | go_skip | go_guarded | go_step | go_upon | go_back | dsimp only))
                go_roundw
                case rel => exact ⟨i + 1, S1, { f1 with held := f1.held ++ [x] }, rfl, hlt, HG1.out, HS1.out, ⟨HO1.out.most, fun _ => by show (f1.held ++ [x]).length < f1.most; have := HM.out; have := HN1.out; simp; omega, HFX.out, HO1.out.code, HO1.out.made, HO1.out.few⟩, HD1.out, HRR.out, H5.out.mono ((RfT.stable _ _).both ((RefT.stable _ _).both HR.out)) (Below.refl _ _).drew⟩
                case measure => simp [intOf]; omega
            · have hi1 : ¬ (i : Int) < ws.length := by omega
              have hdn : ws.drop i = [] := List.drop_eq_nil_of_le (by omega)
              rw [hdn, addL_nil] at hr1
              have HRR := Lib.hid hr1
              have H1 := Lib.hid h1
              clear h1 hr1 hdn hg1 hs1 ho1 hd1
              (repeat' (first | (go_big_may; fail) | go_values | go_skip | go_guarded | go_step | go_upon | go_back | dsimp only))
              go_ret
              rw [HRR.out]
              exact ⟨rfl, H1.out⟩
  · rw [if_pos hd] at hres
    have hdz : ((f.dead : Int) != 0) = true := by simp; omega
    have HRES := Lib.hid hres
    clear h hh0 hR hG hS hO hrd hx hres hd
    go_enter Tryz.func15, Tryz.ntmps15
    (repeat' (first | (go_big_may; fail) | go_values | go_skip | go_guarded | go_step | go_upon | go_back | dsimp only))
    go_ret
    rw [HRES.out]
    exact ⟨rfl, H.out⟩
end
end Go.Proofs.YthcicmbkkkhifaaGreatDoor
namespace Go.Proofs.YthcicmbkkkhifaaGreatDoor
open Go.RowKit

def okB (c : Nat) : Prop := c = 0 ∨ c = 7 ∨ c = 8 ∨ c = 9 ∨ c = 10 ∨ c = 13
theorem okB_zero : okB 0 := .inl rfl
section
variable {S0 S : St} {r : Nat} {t : List UInt8}
theorem TopOpen.appendC (h : TopOpen S0 S r t) (s : List UInt8) : (appendP S r s).2 = 0 ∨ (appendP S r s).2 = 7 ∨ (appendP S r s).2 = 9 := by
  unfold appendP withRun
  rw [h.find]
  dsimp only
  split
  · exact .inr (.inr rfl)
  · split
    · rename_i h; cases h
    · split
      · exact .inr (.inl rfl)
      · exact .inl rfl
theorem TopOpen.sealC (h : TopOpen S0 S r t) : (sealP S r).2 = 0 ∨ (sealP S r).2 = 9 := by
  unfold sealP withRun
  rw [h.find]
  dsimp only
  split
  · exact .inr rfl
  · split
    · rename_i h; cases h
    · exact .inl rfl
theorem flushP_codeB {x : WrD} (h : TopOpen S0 S r t) (hx : x.run = r) (n : Nat) : okB (flushP S x n).2.2 := by
  unfold flushP
  rw [hx]
  rcases h.appendC (x.buf.take n) with e | e | e
  · rw [if_pos e]; exact okB_zero
  · rw [if_neg (by rw [e]; decide)]; rw [e]; exact .inr (.inl rfl)
  · rw [if_neg (by rw [e]; decide)]; rw [e]; exact .inr (.inr (.inr (.inl rfl)))
theorem putL_codeB : ∀ (n : Nat) {S : St} {t : List UInt8} {x : WrD}, TopOpen S0 S r t → x.run = r → okB (putL n S x).2.2
  | 0, S, t, x, h, hx => okB_zero
  | n + 1, S, t, x, h, hx => by
    unfold putL
    by_cases hge : x.block ≤ x.buf.length
    · rw [if_pos hge]
      rcases flushP_top h hx x.block with ⟨h1, h2, h3⟩ | ⟨h1, h2, h3⟩
      · rw [if_pos h1]
        exact putL_codeB n h2 (by rw [h3]; exact hx)
      · rw [if_neg h1]
        exact flushP_codeB h hx _
    · rw [if_neg hge]
      exact okB_zero
theorem written_codeB (hG : GoodS S) {L : List (List UInt8)} (hL : fits L = true) : okB (writtenP S L).2.2 := by
  unfold writtenP
  by_cases hc : (createP S).2.2 = 0
  · rw [if_neg (by simpa using hc)]
    obtain ⟨h1, _⟩ := create_top hG hc
    obtain ⟨t', g1, g2, g3, g4, g5, g6, g7⟩ := putP_top (x := ⟨(createP S).2.1, 512, [], 0⟩) (L := L) h1 rfl rfl hL
    dsimp only
    have hpc : okB (putP (createP S).1 ⟨(createP S).2.1, 512, [], 0⟩ L).2.2 := by
      unfold putP
      rw [if_neg (by simp), if_neg (by simp [hL])]
      exact putL_codeB _ h1 rfl
    by_cases hp : (putP (createP S).1 ⟨(createP S).2.1, 512, [], 0⟩ L).2.2 = 0
    · rw [if_neg (by simpa using hp)]
      obtain ⟨g8, _⟩ := g4 hp
      have hcc : okB (closeP (putP (createP S).1 ⟨(createP S).2.1, 512, [], 0⟩ L).1 (putP (createP S).1 ⟨(createP S).2.1, 512, [], 0⟩ L).2.1).2.2.2 := by
        generalize (putP (createP S).1 ⟨(createP S).2.1, 512, [], 0⟩ L).1 = S1 at *
        generalize (putP (createP S).1 ⟨(createP S).2.1, 512, [], 0⟩ L).2.1 = x at *
        unfold closeP
        rw [if_neg (by simpa using g8)]
        have hrc : okB (restP S1 x).2.2 := by
          unfold restP
          split
          · exact okB_zero
          · exact flushP_codeB g1 g2 _
        rcases restP_top g1 g2 g8 with ⟨k1, k2, k3⟩ | ⟨k1, _⟩
        · rw [if_neg (by simpa using k1), k3]
          rcases k2.sealC with e | e
          · rw [if_neg (by simpa using e)]; exact okB_zero
          · rw [if_pos (by rw [e]; decide)]; rw [e]; exact .inr (.inr (.inr (.inl rfl)))
        · rw [if_pos k1]
          exact hrc
      split
      · exact hcc
      · exact okB_zero
    · rw [if_pos hp]
      exact hpc
  · rw [if_pos hc]
    show okB (createP S).2.2
    unfold createP
    split
    · exact .inr (.inr (.inr (.inl rfl)))
    · split
      · exact .inr (.inr (.inl rfl))
      · exact okB_zero
end
section
variable {S : St} {f : FmD}
theorem fwrite_codeB (hG : GoodS S) (hf : fits f.held = true) (hd : f.dead = 0) : okB (fwriteP S f).2.2 ∧ okB (fwriteP S f).2.1.dead := by
  have h := written_codeB hG (fits_ofL hf)
  unfold fwriteP
  split
  · exact ⟨okB_zero, by show okB f.dead; rw [hd]; exact okB_zero⟩
  · exact ⟨h, h⟩
theorem addL_codeB : ∀ (ws : List (List UInt8)) {S : St} {f : FmD}, GoodS S → Sealed S → FOk S f → f.dead = 0 → fits ws = true → okB (addL S f ws).2.2 ∧ okB (addL S f ws).2.1.dead
  | [], S, f, _, _, _, hd, _ => ⟨okB_zero, by show okB f.dead; rw [hd]; exact okB_zero⟩
  | x :: ws, S, f, hG, hs, hF, hd, hw => by
    obtain ⟨hw1, hw2⟩ := fits_cons.1 hw
    have hx : fits (f.held ++ [x]) = true := fits_append.2 ⟨hF.fit, by simp [fits, hw1]⟩
    have hl := hF.less hd
    rw [addL_cons]
    by_cases hm : f.most ≤ f.held.length + 1
    · rw [if_pos hm]
      obtain ⟨h1, h2, h3, h4, h5, h6⟩ := fwrite_keep (f := { f with held := f.held ++ [x] }) hG hs hF.most hx hd hF.made hF.few
      by_cases hc : (fwriteP S { f with held := f.held ++ [x] }).2.2 = 0
      · rw [if_pos hc]
        exact addL_codeB ws h1.good h1.seal_ h1.ok (h2.trans hc) hw2
      · rw [if_neg hc]
        exact fwrite_codeB (f := { f with held := f.held ++ [x] }) hG hx hd
    · rw [if_neg hm]
      exact addL_codeB ws (f := { f with held := f.held ++ [x] }) hG hs ⟨hF.most, fun _ => by show (f.held ++ [x]).length < f.most; simp; omega, hx, hF.code, hF.made, hF.few⟩ hd hw2
theorem addP_codeB (hG : GoodS S) (hs : Sealed S) (hF : FOk S f) (hb : okB f.dead) (ws : List (List UInt8)) : okB (addP S f ws).2.2 ∧ okB (addP S f ws).2.1.dead := by
  unfold addP
  by_cases hd : f.dead = 0
  · rw [if_neg (by simpa using hd)]
    by_cases hw : fits ws = false
    · rw [if_pos hw]
      exact ⟨.inr (.inr (.inr (.inr (.inl rfl)))), hb⟩
    · rw [if_neg hw]
      exact addL_codeB ws hG hs hF hd (by simpa using hw)
  · rw [if_pos hd]
    exact ⟨hb, hb⟩
theorem finishP_codeB (hG : GoodS S) (hF : FOk S f) (hb : okB f.dead) : okB (finishP S f).2.2.2 ∧ okB (finishP S f).2.1.dead := by
  have h13 : okB 13 := .inr (.inr (.inr (.inr (.inr rfl))))
  unfold finishP
  by_cases hd : f.dead = 0
  · rw [if_neg (by simpa using hd)]
    by_cases hh : f.held = []
    · rw [if_pos hh]
      exact ⟨okB_zero, h13⟩
    · rw [if_neg hh]
      have h := fwrite_codeB hG hF.fit hd
      split
      · exact ⟨okB_zero, h13⟩
      · exact h
  · rw [if_pos hd]
    exact ⟨hb, hb⟩
theorem dropF_codeB (hb : okB f.dead) : okB (dropF S f).2.dead := by
  unfold dropF
  split
  · exact hb
  · exact .inr (.inr (.inr (.inr (.inr rfl))))
end
set_option maxRecDepth 100000 in
set_option maxHeartbeats 3200000 in
theorem code9_calls {w : World} {ef : Nat → Nat × Nat} (hF : Fails w ef fails13) {c : Nat} (hc : okB c ∨ c = 1 ∨ c = 2) :
    Calls Tryz.prog 16 #[errV ef c] w fun e w' => e = .returned (.int .i64 c) ∧ w = w' := by
  have heq := eql_nil
  by_cases h0 : c = 0
  · subst h0
    clear hF
    rw [errV_zero]
    go_enter Tryz.func16, Tryz.ntmps16
    (repeat' (first | (go_big_may; fail) | go_values | go_skip | go_guarded | go_step | go_upon | go_back | dsimp only))
    go_ret
    exact ⟨rfl, rfl⟩
  · obtain ⟨g, hg, hcs⟩ : ∃ g, (c, g) ∈ fails13 ∧ (c = 1 ∨ c = 2 ∨ c = 7 ∨ c = 8 ∨ c = 9 ∨ c = 10 ∨ c = 13) := by
      rcases hc with (rfl | rfl | rfl | rfl | rfl | rfl) | rfl | rfl
      · exact absurd rfl h0
      · exact ⟨6, by decide, by omega⟩
      · exact ⟨7, by decide, by omega⟩
      · exact ⟨8, by decide, by omega⟩
      · exact ⟨3, by decide, by omega⟩
      · exact ⟨0, by decide, by omega⟩
      · exact ⟨1, by decide, by omega⟩
      · exact ⟨2, by decide, by omega⟩
    have hne : ∀ wz : World, (binOp .eql tErr (.iface tES (.pointer (some ⟨(ef c).1, (ef c).2, none⟩))) .nilIface).run Tryz.prog wz = .ok (.bool false) wz := fun wz => by
      have := eql_errV ef h0 wz
      rwa [errV_pos ef h0] at this
    rw [errV_pos ef h0]
    have q1 := eql_errs hF hg (y := (1, 1)) (by decide)
    have q2 := eql_errs hF hg (y := (2, 2)) (by decide)
    have q3 := eql_errs hF hg (y := (3, 4)) (by decide)
    have q5 := eql_errs hF hg (y := (5, 5)) (by decide)
    have q7 := eql_errs hF hg (y := (7, 6)) (by decide)
    have q8 := eql_errs hF hg (y := (8, 7)) (by decide)
    have q9 := eql_errs hF hg (y := (9, 8)) (by decide)
    have q10 := eql_errs hF hg (y := (10, 3)) (by decide)
    have q12 := eql_errs hF hg (y := (12, 9)) (by decide)
    have q13 := eql_errs hF hg (y := (13, 0)) (by decide)
    have c1 := hF.cell (1, 1) (by decide)
    have c2 := hF.cell (2, 2) (by decide)
    have c3 := hF.cell (3, 4) (by decide)
    have c5 := hF.cell (5, 5) (by decide)
    have c7 := hF.cell (7, 6) (by decide)
    have c8 := hF.cell (8, 7) (by decide)
    have c9 := hF.cell (9, 8) (by decide)
    have c10 := hF.cell (10, 3) (by decide)
    have c12 := hF.cell (12, 9) (by decide)
    have c13 := hF.cell (13, 0) (by decide)
    clear hF hg hc
    generalize (ef c) = ec at *
    rcases hcs with rfl | rfl | rfl | rfl | rfl | rfl | rfl
    all_goals
      clear h0
      simp only [Nat.reduceEqDiff, decide_true, decide_false] at q1 q2 q3 q5 q7 q8 q9 q10 q12 q13
      go_enter Tryz.func16, Tryz.ntmps16
      (repeat' (first | (go_big_may; fail) | go_values | go_skip | go_guarded | go_step | go_upon | go_back | dsimp only))
      go_ret
      exact ⟨rfl, rfl⟩
theorem fails13_12 {W : World} {ef : Nat → Nat × Nat} (h : Fails W ef fails13) : Fails W ef fails12 := h.less (by decide)
end Go.Proofs.YthcicmbkkkhifaaGreatDoor
namespace Go.Proofs.YthcicmbkkkhifaaGreatDoor
open Go.RowKit

section
variable {w : World} {ef : Nat → Nat × Nat}
set_option maxRecDepth 100000 in
set_option maxHeartbeats 800000 in
theorem fmState_nil (hF : Fails w ef fails13) :
    Calls Tryz.prog 26 #[.pointer none] w fun e w' => e = .returned (errV ef 1) ∧ w = w' := by
  have c1 := hF.cell (1, 1) (by decide)
  rw [errV_pos ef (show (1 : Nat) ≠ 0 by decide)]
  clear hF
  go_enter Tryz.func26, Tryz.ntmps26
  (repeat' (first | (go_big_may; fail) | go_values | go_skip | go_guarded | go_step | go_upon | go_back | dsimp only))
  go_ret
  exact ⟨rfl, rfl⟩
set_option maxRecDepth 100000 in
set_option maxHeartbeats 800000 in
theorem Add_nil (hF : Fails w ef fails13) (ao : Option Addr) (n cp : Nat) :
    Calls Tryz.prog 13 #[.pointer none, .slice ao n cp] w fun e w' => e = .returned (errV ef 1) ∧ w = w' := by
  have HS := Lib.hid (fmState_nil hF)
  have neqi := run_neq_iface_nil2 ⟨(ef 1).1, (ef 1).2, none⟩
  rw [errV_pos ef (show (1 : Nat) ≠ 0 by decide)] at *
  clear hF
  go_enter Tryz.func13, Tryz.ntmps13
  (repeat' (first | (go_big_may; fail) | go_values | go_skip | go_guarded | go_step | go_upon | go_back | dsimp only))
  refine HS.out.mono ?_
  rintro e w1 ⟨rfl, rfl⟩
  (repeat' (first | (go_big_may; fail) | go_values | go_skip | go_guarded | go_step | go_upon | go_back | dsimp only))
  go_ret
  exact ⟨rfl, rfl⟩
set_option maxRecDepth 100000 in
set_option maxHeartbeats 800000 in
theorem Finish_nil (hF : Fails w ef fails13) :
    Calls Tryz.prog 17 #[.pointer none] w fun e w' => e = .returned (.tuple #[.slice none 0 0, errV ef 1]) ∧ w = w' := by
  have HS := Lib.hid (fmState_nil hF)
  have neqi := run_neq_iface_nil2 ⟨(ef 1).1, (ef 1).2, none⟩
  rw [errV_pos ef (show (1 : Nat) ≠ 0 by decide)] at *
  clear hF
  go_enter Tryz.func17, Tryz.ntmps17
  (repeat' (first | (go_big_may; fail) | go_values | go_skip | go_guarded | go_step | go_upon | go_back | dsimp only))
  refine HS.out.mono ?_
  rintro e w1 ⟨rfl, rfl⟩
  (repeat' (first | (go_big_may; fail) | go_values | go_skip | go_guarded | go_step | go_upon | go_back | dsimp only))
  go_ret2
  exact ⟨rfl, rfl⟩
set_option maxRecDepth 100000 in
set_option maxHeartbeats 800000 in
theorem FDrop_nil :
    Calls Tryz.prog 19 #[.pointer none] w fun e w' => e = .returned (.tuple #[]) ∧ Below w.heap.size w w' := by
  go_enter Tryz.func19, Tryz.ntmps19
  (repeat' (first | (go_big_may; fail) | go_values | go_skip | go_guarded | go_step | go_upon | go_back | dsimp only))
  (refine region_still_tail 9 (by kernel_rfl) (by kernel_rfl) ?_; simp only [List.take_succ_cons, List.take_zero, List.drop_succ_cons, List.drop_zero]; (iterate 9 (first | ((with_reducible refine still_plain ?_ rfl ?_ ?_); rotate_left; (next => (go_simp; (try with_reducible rfl))); simp only [Act.put, List.setIfInBounds_toArray, List.set_cons_zero, List.set_cons_succ]) | ((with_reducible refine still_skip ?_ ?_); (next => (go_simp; done)); simp only [Act.put, List.setIfInBounds_toArray, List.set_cons_zero, List.set_cons_succ]) | ((with_reducible refine still_val ?_ ?_ ?_ ?_); rotate_left; (next => (go_simp; done)); (next => (go_simp; (try with_reducible rfl))); simp only [Act.put, List.setIfInBounds_toArray, List.set_cons_zero, List.set_cons_succ]))); (with_reducible refine wpStill_nil ?_))
  (repeat' (first | (go_big_may; fail) | go_values | go_skip | go_guarded | go_step | go_upon | go_back | dsimp only))
  go_end0
  exact ⟨rfl, (Below.refl _ _).drew⟩
set_option maxRecDepth 100000 in
set_option maxHeartbeats 800000 in
theorem FNew_no (hF : Fails w ef fails13) {b : Nat} {z : Int} (hz : inI64 z) (hn : z < 1 ∨ 65536 < z) :
    Calls Tryz.prog 9 #[.pointer (some ⟨b, 0, none⟩), .int .i64 z] w fun e w' => e = .returned (.tuple #[.pointer none, errV ef 2]) ∧ Below w.heap.size w w' := by
  have c1 := hF.cell (2, 2) (by decide)
  rw [errV_pos ef (show (2 : Nat) ≠ 0 by decide)]
  clear hF
  by_cases h1 : z < 1
  · clear hn hz
    go_enter Tryz.func9, Tryz.ntmps9
    (repeat' (first | (go_big_may; fail) | go_values | go_skip | go_guarded | go_step | go_upon | go_back | dsimp only))
    go_quiet (fail)
    (repeat' (first | (go_big_may; fail) | go_values | go_skip | go_guarded | go_step | go_upon | go_back | dsimp only))
    go_ret2
    exact ⟨rfl, below_dW _ _⟩
  · have h2 : 65536 < z := by omega
    clear hn hz
    go_enter Tryz.func9, Tryz.ntmps9
    (repeat' (first | (go_big_may; fail) | go_values | go_skip | go_guarded | go_step | go_upon | go_back | dsimp only))
    go_quiet (fail)
    (repeat' (first | (go_big_may; fail) | go_values | go_skip | go_guarded | go_step | go_upon | go_back | dsimp only))
    go_ret2
    exact ⟨rfl, below_dW _ _⟩
set_option maxRecDepth 100000 in
set_option maxHeartbeats 800000 in
theorem rFNew_no {z : Int} (hn : z < 1 ∨ 65536 < z) :
    Calls Tryz.prog 10 #[.int .i64 z] w fun e w' => e = .returned (.tuple #[.pointer none, .int .i64 2]) ∧ w = w' := by
  by_cases h1 : z < 1
  · clear hn
    go_enter Tryz.func10, Tryz.ntmps10
    (repeat' (first | (go_big_may; fail) | go_values | go_skip | go_guarded | go_step | go_upon | go_back | dsimp only))
    go_ret2
    exact ⟨rfl, rfl⟩
  · have h2 : 65536 < z := by omega
    clear hn
    go_enter Tryz.func10, Tryz.ntmps10
    (repeat' (first | (go_big_may; fail) | go_values | go_skip | go_guarded | go_step | go_upon | go_back | dsimp only))
    go_ret2
    exact ⟨rfl, rfl⟩
end
end Go.Proofs.YthcicmbkkkhifaaGreatDoor
namespace Go.Proofs.YthcicmbkkkhifaaGreatDoor
open Go.RowKit

abbrev tOp9 : TypeId := 61
section
variable {W w : World} {R : Thing} {kx k kr sb rb : Nat} {ef : Nat → Nat × Nat} {S : St} {f : FmD} {fv gv v : Value} {ss : List (List UInt8)}
set_option maxRecDepth 100000 in
set_option maxHeartbeats 6400000 in
theorem former_add (h : At W w (Both (FoT k sb ef f) (Both (StoreT sb S) (Both (RfT kr f) (Both (RefT rb S) (Both (CellT kx (wl9C sb rb fv gv) tWl9) R)))))) (hR : Stable R) (hF : Fails W ef fails13) (hG : GoodS S) (hS : Sealed S) (hO : FOk S f) (hb : okB f.dead) (o2 o3 : Int) (hv : RdRow W v ss.length 1 (strs ss)) (hlen : ss.length ≤ 1048576) (hx : ∀ x ∈ ss, x.length ≤ 1048576) :
    Calls Tryz.prog 34 #[.pointer (some ⟨kx, 0, none⟩), .pointer (some ⟨k, 0, none⟩), .pointer (some ⟨kr, 0, none⟩), .agg #[.int .i64 2, .int .i64 o2, .int .i64 o3, v]] w fun e w' => e = .returned (.bool true) ∧ At W w' (Both (FoT k sb ef (addP S f ss).2.1) (Both (StoreT sb (addP S f ss).1) (Both (RfT kr (addP S f ss).2.1) (Both (RefT rb (addP S f ss).1) (Both (CellT kx (wl9C sb rb fv gv) tWl9) R))))) := by
  obtain ⟨av, cv, rfl, _, _⟩ := hv.shape
  obtain ⟨P, hP⟩ : ∃ P, P = addP S f ss := ⟨_, rfl⟩
  rw [← hP]
  have HP := Lib.hid hP
  clear hP
  have hst : Stable (Both (FoT k sb ef f) (Both (StoreT sb S) (Both (RfT kr f) (Both (RefT rb S) (Both (CellT kx (wl9C sb rb fv gv) tWl9) R))))) := (FoT.stable _ _ _ _).both ((StoreT.stable _ _).both ((RfT.stable _ _).both ((RefT.stable _ _).both ((CellT.stable _ _ _).both hR))))
  have HF := Lib.hid hF
  have HR := Lib.hid hR
  have HV := Lib.hid hv
  have HO := Lib.hid (And.intro hG (And.intro hS (And.intro hO (And.intro hb (And.intro hlen hx)))))
  have HST := Lib.hid hst
  clear hF hR hv hG hS hO hb hlen hx
  have h0 := h.newCell hst #[.int .i64 2, .int .i64 o2, .int .i64 o3, .slice av ss.length cv] tOp9
  have H0 := Lib.hid h0
  have b0 := cell_at h0.cell.1 0
  have b3 := cell_at h0.cell.1 3
  have lb := lt_of_heap h0.cell.1
  simp only [List.getElem?_toArray, List.getElem?_cons_zero, List.getElem?_cons_succ] at b0 b3
  clear h h0
  go_enter Tryz.func34, Tryz.ntmps34
  (repeat' (first | (go_big_may; fail) | go_values | go_skip | go_guarded | go_step | go_upon | go_back | dsimp only))
  generalize w.alloc _ = w1 at *
  generalize w.heap.size = s at *
  clear hst
  refine (twin9_calls ss (.slice av ss.length cv) w1 (HV.out.below H0.out.below) (by have := HO.out.2.2.2.2.1; omega)).mono ?_
  rintro e w2 ⟨vt, rfl, hto, hbt⟩
  obtain ⟨ta, tc, hvt, _, _⟩ := own_shape hto
  subst hvt
  have h2 := (H0.out.newRowG ((CellT.stable _ _ _).both HST.out) hbt hto).perm (show _ = Both (FoT k sb ef f) (Both (StoreT sb S) (Both (RowG tSx 1 (.slice ta ss.length tc) ss.length (strs ss)) (Both (RfT kr f) (Both (RefT rb S) (Both (CellT kx (wl9C sb rb fv gv) tWl9) (Both (CellT s #[.int .i64 2, .int .i64 o2, .int .i64 o3, .slice av ss.length cv] tOp9) R)))))) by ac_rfl)
  have hst2 : Stable (Both (RowG tSx 1 (.slice ta ss.length tc) ss.length (strs ss)) (Both (RfT kr f) (Both (RefT rb S) (Both (CellT kx (wl9C sb rb fv gv) tWl9) (Both (CellT s #[.int .i64 2, .int .i64 o2, .int .i64 o3, .slice av ss.length cv] tOp9) R))))) := (RowG.stable _ _ _ _ _).both ((RfT.stable _ _).both ((RefT.stable _ _).both ((CellT.stable _ _ _).both ((CellT.stable _ _ _).both HR.out))))
  have hadd := (Add_at h2 hst2 (fails12_11 (fails13_12 HF.out)) HO.out.1 HO.out.2.1 HO.out.2.2.1 ⟨ta, tc, rfl, by have := HO.out.2.2.2.2.1; omega⟩ (fun x hx => by have := HO.out.2.2.2.2.2 x hx; omega) (fun w' hw => RdRow.of_own hw.rowG))
  have hcb := addP_codeB HO.out.1 HO.out.2.1 HO.out.2.2.1 HO.out.2.2.2.1 ss
  have hrad := fun (w' : World) (X : Thing) (hX : Stable X) (hb' : Below W.heap.size W w') (h : At W w' (Both (RfT kr f) (Both (RefT rb S) X))) => rAdd_at (v := .slice av ss.length cv) h hX HO.out.1 HO.out.2.1 HO.out.2.2.1 ⟨av, cv, rfl, by have := HO.out.2.2.2.2.1; omega⟩ (fun x hx => by have := HO.out.2.2.2.2.2 x hx; omega) (fun w'' hw => HV.out.below hw.below)
  rw [← HP.out] at hadd hcb
  simp only [← HP.out] at hrad
  have HADD := Lib.hid hadd
  have HCB := Lib.hid hcb
  have HRAD := Lib.hid hrad
  clear hadd hcb hrad h2 hst2 hto hbt H0 b0 b3 lb
  (repeat' (first | (go_big_may; fail) | go_values | go_skip | go_guarded | go_step | go_upon | go_back | dsimp only))
  refine HADD.out.mono ?_
  rintro e w3 ⟨rfl, h3⟩
  have h4 := h3.perm (show _ = Both (RfT kr f) (Both (RefT rb S) (Both (FoT k sb ef P.2.1) (Both (StoreT sb P.1) (Both (RowG tSx 1 (.slice ta ss.length tc) ss.length (strs ss)) (Both (CellT kx (wl9C sb rb fv gv) tWl9) (Both (CellT s #[.int .i64 2, .int .i64 o2, .int .i64 o3, .slice av ss.length cv] tOp9) R)))))) by ac_rfl)
  have hcd := code9_calls (c := P.2.2) (HF.out.below h4.below) (.inl HCB.out.1)
  generalize errV ef P.2.2 = pv at *
  have HCD := Lib.hid hcd
  have H4 := Lib.hid h4
  have x2 := cell_at h4.drop.drop.drop.drop.drop.cell.1 2
  have lx := lt_of_heap h4.drop.drop.drop.drop.drop.cell.1
  have b3 := cell_at h4.drop.drop.drop.drop.drop.drop.cell.1 3
  have lb := lt_of_heap h4.drop.drop.drop.drop.drop.drop.cell.1
  simp only [List.getElem?_toArray, List.getElem?_cons_zero, List.getElem?_cons_succ] at x2 b3
  clear h3 h4 hcd HADD
  (repeat' (first | (go_big_may; fail) | go_values | go_skip | go_guarded | go_step | go_upon | go_back | dsimp only))
  refine HCD.out.mono ?_
  rintro e w5 ⟨rfl, rfl⟩
  clear HCD
  (repeat' (first | (go_big_may; fail) | go_values | go_skip | go_guarded | go_step | go_upon | go_back | dsimp only))
  (refine region_still_tail 7 (by kernel_rfl) (by kernel_rfl) ?_; simp only [List.take_succ_cons, List.take_zero, List.drop_succ_cons, List.drop_zero]; (iterate 7 (first | ((with_reducible refine still_plain ?_ rfl ?_ ?_); rotate_left; (next => (go_simp; (try with_reducible rfl))); simp only [Act.put, List.setIfInBounds_toArray, List.set_cons_zero, List.set_cons_succ]) | ((with_reducible refine still_skip ?_ ?_); (next => (go_simp; done)); simp only [Act.put, List.setIfInBounds_toArray, List.set_cons_zero, List.set_cons_succ]) | ((with_reducible refine still_val ?_ ?_ ?_ ?_); rotate_left; (next => (go_simp; done)); (next => (go_simp; (try with_reducible rfl))); simp only [Act.put, List.setIfInBounds_toArray, List.set_cons_zero, List.set_cons_succ]))); (with_reducible refine wpStill_nil ?_))
  (repeat' (first | (go_big_may; fail) | go_values | go_skip | go_guarded | go_step | go_upon | go_back | dsimp only))
  have hst4 : Stable (Both (FoT k sb ef P.2.1) (Both (StoreT sb P.1) (Both (RowG tSx 1 (.slice ta ss.length tc) ss.length (strs ss)) (Both (CellT kx (wl9C sb rb fv gv) tWl9) (Both (CellT s #[.int .i64 2, .int .i64 o2, .int .i64 o3, .slice av ss.length cv] tOp9) R))))) := (FoT.stable _ _ _ _).both ((StoreT.stable _ _).both ((RowG.stable _ _ _ _ _).both ((CellT.stable _ _ _).both ((CellT.stable _ _ _).both HR.out))))
  have h6 := H4.out.mono ((RfT.stable _ _).both ((RefT.stable _ _).both hst4)) (Below.refl _ _).drew
  refine (HRAD.out _ _ hst4 h6.below h6).mono ?_
  rintro e w7 ⟨rfl, h7⟩
  have H7 := Lib.hid ((h7.perm (show _ = Both (RowG tSx 1 (.slice ta ss.length tc) ss.length (strs ss)) (Both (CellT s #[.int .i64 2, .int .i64 o2, .int .i64 o3, .slice av ss.length cv] tOp9) (Both (FoT k sb ef P.2.1) (Both (StoreT sb P.1) (Both (RfT kr P.2.1) (Both (RefT rb P.1) (Both (CellT kx (wl9C sb rb fv gv) tWl9) R)))))) by ac_rfl)).drop.drop)
  clear h6 h7 hst4 H4 x2 lx b3 lb
  (repeat' (first | (go_big_may; fail) | go_values | go_skip | go_guarded | go_step | go_upon | go_back | dsimp only))
  go_ret
  exact ⟨rfl, H7.out⟩
set_option maxRecDepth 100000 in
set_option maxHeartbeats 6400000 in
theorem former_finish (h : At W w (Both (FoT k sb ef f) (Both (StoreT sb S) (Both (RfT kr f) (Both (RefT rb S) (Both (CellT kx (wl9C sb rb fv gv) tWl9) R)))))) (hR : Stable R) (hF : Fails W ef fails13) (hG : GoodS S) (hS : Sealed S) (hO : FOk S f) (hb : okB f.dead) (o2 o3 : Int) (hv : RdRow W v ss.length 1 (strs ss)) :
    Calls Tryz.prog 34 #[.pointer (some ⟨kx, 0, none⟩), .pointer (some ⟨k, 0, none⟩), .pointer (some ⟨kr, 0, none⟩), .agg #[.int .i64 3, .int .i64 o2, .int .i64 o3, v]] w fun e w' => e = .returned (.bool true) ∧ At W w' (Both (FoT k sb ef (finishP S f).2.1) (Both (StoreT sb (finishP S f).1) (Both (RfT kr (finishP S f).2.1) (Both (RefT rb (finishP S f).1) (Both (CellT kx (wl9C sb rb fv gv) tWl9) R))))) := by
  obtain ⟨av, cv, rfl, _, _⟩ := hv.shape
  obtain ⟨P, hP⟩ : ∃ P, P = finishP S f := ⟨_, rfl⟩
  rw [← hP]
  have HP := Lib.hid hP
  clear hP
  have hst : Stable (Both (FoT k sb ef f) (Both (StoreT sb S) (Both (RfT kr f) (Both (RefT rb S) (Both (CellT kx (wl9C sb rb fv gv) tWl9) R))))) := (FoT.stable _ _ _ _).both ((StoreT.stable _ _).both ((RfT.stable _ _).both ((RefT.stable _ _).both ((CellT.stable _ _ _).both hR))))
  have HF := Lib.hid hF
  have HR := Lib.hid hR
  have HO := Lib.hid (And.intro hG (And.intro hS (And.intro hO hb)))
  have HST := Lib.hid hst
  clear hF hR hv hG hS hO hb
  have h0 := h.newCell hst #[.int .i64 3, .int .i64 o2, .int .i64 o3, .slice av ss.length cv] tOp9
  have H0 := Lib.hid h0
  have b0 := cell_at h0.cell.1 0
  have b3 := cell_at h0.cell.1 3
  have lb := lt_of_heap h0.cell.1
  simp only [List.getElem?_toArray, List.getElem?_cons_zero, List.getElem?_cons_succ] at b0 b3
  clear h h0
  go_enter Tryz.func34, Tryz.ntmps34
  (repeat' (first | (go_big_may; fail) | go_values | go_skip | go_guarded | go_step | go_upon | go_back | dsimp only))
  generalize w.alloc _ = w1 at *
  generalize w.heap.size = s at *
  clear hst
  have hfin := Finish_at (H0.out.perm (show _ = Both (FoT k sb ef f) (Both (StoreT sb S) (Both (RfT kr f) (Both (RefT rb S) (Both (CellT kx (wl9C sb rb fv gv) tWl9) (Both (CellT s #[.int .i64 3, .int .i64 o2, .int .i64 o3, .slice av ss.length cv] tOp9) R))))) by ac_rfl)) ((RfT.stable _ _).both ((RefT.stable _ _).both ((CellT.stable _ _ _).both ((CellT.stable _ _ _).both HR.out)))) (fails12_11 (fails13_12 HF.out)) HO.out.1 HO.out.2.1 HO.out.2.2.1
  have hcb := finishP_codeB HO.out.1 HO.out.2.2.1 HO.out.2.2.2
  have hrf := fun (w' : World) (X : Thing) (hX : Stable X) (h : At W w' (Both (RfT kr f) (Both (RefT rb S) X))) => rFinish_at h hX HO.out.1 HO.out.2.1 HO.out.2.2.1
  rw [← HP.out] at hfin hcb
  simp only [← HP.out] at hrf
  have HCB := Lib.hid hcb
  have HRF := Lib.hid hrf
  clear hcb hrf H0 b0 b3 lb
  refine hfin.mono ?_
  rintro e w3 ⟨vl, rfl, h3⟩
  obtain ⟨la, lc, hvl, _, _⟩ := own_shape h3.row
  subst hvl
  have h4 := h3.perm (show _ = Both (RfT kr f) (Both (RefT rb S) (Both (FoT k sb ef P.2.1) (Both (StoreT sb P.1) (Both (RowT (.slice la (mz P.2.2.1).length lc) (mz P.2.2.1)) (Both (CellT kx (wl9C sb rb fv gv) tWl9) (Both (CellT s #[.int .i64 3, .int .i64 o2, .int .i64 o3, .slice av ss.length cv] tOp9) R)))))) by ac_rfl)
  have H4 := Lib.hid h4
  have x2 := cell_at h4.drop.drop.drop.drop.drop.cell.1 2
  have lx := lt_of_heap h4.drop.drop.drop.drop.drop.cell.1
  simp only [List.getElem?_toArray, List.getElem?_cons_zero, List.getElem?_cons_succ] at x2
  have hst4 : Stable (Both (FoT k sb ef P.2.1) (Both (StoreT sb P.1) (Both (RowT (.slice la (mz P.2.2.1).length lc) (mz P.2.2.1)) (Both (CellT kx (wl9C sb rb fv gv) tWl9) (Both (CellT s #[.int .i64 3, .int .i64 o2, .int .i64 o3, .slice av ss.length cv] tOp9) R))))) := (FoT.stable _ _ _ _).both ((StoreT.stable _ _).both ((RowT.stable _ _).both ((CellT.stable _ _ _).both ((CellT.stable _ _ _).both HR.out))))
  have HST4 := Lib.hid hst4
  clear h3 h4 hfin hst4
  obtain ⟨nl, hnl⟩ : ∃ nl, nl = (mz P.2.2.1).length := ⟨_, rfl⟩
  rw [← hnl] at H4 HST4 ⊢
  have HNL := Lib.hid hnl
  clear hnl
  (repeat' (first | (go_big_may; fail) | go_values | go_skip | go_guarded | go_step | go_upon | go_back | dsimp only))
  refine (HRF.out w3 _ HST4.out H4.out).mono ?_
  rintro e w5 ⟨vr, rfl, hvr, h5⟩
  obtain ⟨ra, rc, hvre, _, _⟩ := hvr.shape
  subst hvre
  rw [← HNL.out] at hvr ⊢
  have H5 := Lib.hid h5
  have hcd := code9_calls (c := P.2.2.2) (HF.out.below h5.below) (.inl HCB.out.1)
  have hin := ints9_calls (mz P.2.2.1) (.slice la nl lc) (.slice ra nl rc) w5 (by
    have := RdRow.of_own h5.drop.drop.drop.drop.row
    rw [← HNL.out] at this ⊢
    exact this) (by rw [← HNL.out]; exact hvr)
  generalize errV ef P.2.2.2 = pv at *
  have HCD := Lib.hid hcd
  have HIN := Lib.hid hin
  clear h5 hvr hcd hin HRF H4 x2 lx
  (repeat' (first | (go_big_may; fail) | go_values | go_skip | go_guarded | go_step | go_upon | go_back | dsimp only))
  refine HCD.out.mono ?_
  rintro e w6 ⟨rfl, rfl⟩
  clear HCD
  (repeat' (first | (go_big_may; fail) | go_values | go_skip | go_guarded | go_step | go_upon | go_back | dsimp only))
  refine HIN.out.mono ?_
  rintro e w7 ⟨rfl, hb7⟩
  have H7 := Lib.hid (((H5.out.mono ((RfT.stable _ _).both ((RefT.stable _ _).both HST4.out)) hb7).perm (show _ = Both (RowT (.slice la nl lc) (mz P.2.2.1)) (Both (CellT s #[.int .i64 3, .int .i64 o2, .int .i64 o3, .slice av ss.length cv] tOp9) (Both (FoT k sb ef P.2.1) (Both (StoreT sb P.1) (Both (RfT kr P.2.1) (Both (RefT rb P.1) (Both (CellT kx (wl9C sb rb fv gv) tWl9) R)))))) by ac_rfl)).drop.drop)
  clear hb7 HIN H5
  (repeat' (first | (go_big_may; fail) | go_values | go_skip | go_guarded | go_step | go_upon | go_back | dsimp only))
  go_ret
  exact ⟨rfl, H7.out⟩
set_option maxRecDepth 100000 in
set_option maxHeartbeats 6400000 in
theorem former_drop (h : At W w (Both (FoT k sb ef f) (Both (StoreT sb S) (Both (RfT kr f) (Both (RefT rb S) (Both (CellT kx (wl9C sb rb fv gv) tWl9) R)))))) (hR : Stable R) (hF : Fails W ef fails13) (hG : GoodS S) (hO : FOk S f) (o2 o3 : Int) (hv : RdRow W v ss.length 1 (strs ss)) :
    Calls Tryz.prog 34 #[.pointer (some ⟨kx, 0, none⟩), .pointer (some ⟨k, 0, none⟩), .pointer (some ⟨kr, 0, none⟩), .agg #[.int .i64 4, .int .i64 o2, .int .i64 o3, v]] w fun e w' => e = .returned (.bool true) ∧ At W w' (Both (FoT k sb ef (dropF S f).2) (Both (StoreT sb (dropF S f).1) (Both (RfT kr (dropF S f).2) (Both (RefT rb (dropF S f).1) (Both (CellT kx (wl9C sb rb fv gv) tWl9) R))))) := by
  obtain ⟨av, cv, rfl, _, _⟩ := hv.shape
  obtain ⟨P, hP⟩ : ∃ P, P = dropF S f := ⟨_, rfl⟩
  rw [← hP]
  have HP := Lib.hid hP
  clear hP
  have hst : Stable (Both (FoT k sb ef f) (Both (StoreT sb S) (Both (RfT kr f) (Both (RefT rb S) (Both (CellT kx (wl9C sb rb fv gv) tWl9) R))))) := (FoT.stable _ _ _ _).both ((StoreT.stable _ _).both ((RfT.stable _ _).both ((RefT.stable _ _).both ((CellT.stable _ _ _).both hR))))
  have HF := Lib.hid hF
  have HR := Lib.hid hR
  have HO := Lib.hid (And.intro hG hO)
  have HST := Lib.hid hst
  clear hF hR hv hG hO
  have h0 := h.newCell hst #[.int .i64 4, .int .i64 o2, .int .i64 o3, .slice av ss.length cv] tOp9
  have H0 := Lib.hid h0
  have b0 := cell_at h0.cell.1 0
  have b3 := cell_at h0.cell.1 3
  have lb := lt_of_heap h0.cell.1
  simp only [List.getElem?_toArray, List.getElem?_cons_zero, List.getElem?_cons_succ] at b0 b3
  clear h h0
  go_enter Tryz.func34, Tryz.ntmps34
  (repeat' (first | (go_big_may; fail) | go_values | go_skip | go_guarded | go_step | go_upon | go_back | dsimp only))
  generalize w.alloc _ = w1 at *
  generalize w.heap.size = s at *
  clear hst
  have hfin := FDrop_at (H0.out.perm (show _ = Both (FoT k sb ef f) (Both (StoreT sb S) (Both (RfT kr f) (Both (RefT rb S) (Both (CellT kx (wl9C sb rb fv gv) tWl9) (Both (CellT s #[.int .i64 4, .int .i64 o2, .int .i64 o3, .slice av ss.length cv] tOp9) R))))) by ac_rfl)) ((RfT.stable _ _).both ((RefT.stable _ _).both ((CellT.stable _ _ _).both ((CellT.stable _ _ _).both HR.out)))) (fails12_11 (fails13_12 HF.out)) HO.out.1 HO.out.2.made HO.out.2.code
  have hrf := fun (w' : World) (X : Thing) (hX : Stable X) (h : At W w' (Both (RfT kr f) (Both (RefT rb S) X))) => rFDrop_at h hX HO.out.1 HO.out.2.made
  rw [← HP.out] at hfin
  simp only [← HP.out] at hrf
  have HRF := Lib.hid hrf
  clear hrf H0 b0 b3 lb
  refine hfin.mono ?_
  rintro e w3 ⟨rfl, h3⟩
  have h4 := h3.perm (show _ = Both (RfT kr f) (Both (RefT rb S) (Both (FoT k sb ef P.2) (Both (StoreT sb P.1) (Both (CellT kx (wl9C sb rb fv gv) tWl9) (Both (CellT s #[.int .i64 4, .int .i64 o2, .int .i64 o3, .slice av ss.length cv] tOp9) R))))) by ac_rfl)
  have H4 := Lib.hid h4
  have x2 := cell_at h4.drop.drop.drop.drop.cell.1 2
  have lx := lt_of_heap h4.drop.drop.drop.drop.cell.1
  simp only [List.getElem?_toArray, List.getElem?_cons_zero, List.getElem?_cons_succ] at x2
  have hst4 : Stable (Both (FoT k sb ef P.2) (Both (StoreT sb P.1) (Both (CellT kx (wl9C sb rb fv gv) tWl9) (Both (CellT s #[.int .i64 4, .int .i64 o2, .int .i64 o3, .slice av ss.length cv] tOp9) R)))) := (FoT.stable _ _ _ _).both ((StoreT.stable _ _).both ((CellT.stable _ _ _).both ((CellT.stable _ _ _).both HR.out)))
  have HST4 := Lib.hid hst4
  clear h3 h4 hfin hst4
  (repeat' (first | (go_big_may; fail) | go_values | go_skip | go_guarded | go_step | go_upon | go_back | dsimp only))
  refine (HRF.out w3 _ HST4.out H4.out).mono ?_
  rintro e w5 ⟨rfl, h5⟩
  have H7 := Lib.hid ((h5.perm (show _ = Both (CellT s #[.int .i64 4, .int .i64 o2, .int .i64 o3, .slice av ss.length cv] tOp9) (Both (FoT k sb ef P.2) (Both (StoreT sb P.1) (Both (RfT kr P.2) (Both (RefT rb P.1) (Both (CellT kx (wl9C sb rb fv gv) tWl9) R))))) by ac_rfl)).drop)
  clear h5 HRF H4 x2 lx
  (repeat' (first | (go_big_may; fail) | go_values | go_skip | go_guarded | go_step | go_upon | go_back | dsimp only))
  go_ret
  exact ⟨rfl, H7.out⟩
/-- None was made. -/
abbrev fNone (R : Thing) (kx sb rb : Nat) (fv gv : Value) : Thing := Both (CellT kx (wl9C sb rb fv gv) tWl9) R
set_option maxRecDepth 100000 in
set_option maxHeartbeats 6400000 in
theorem former_none (h : At W w R) (hst : Stable R) (hF : Fails W ef fails13) (px : Value) (o1 o2 o3 : Int) (ho : o1 = 2 ∨ o1 = 3 ∨ o1 = 4) (hv : RdRow W v ss.length 1 (strs ss)) (hlen : ss.length ≤ 1048576) (hp : px = .pointer (some ⟨kx, 0, none⟩)) :
    Calls Tryz.prog 34 #[px, .pointer none, .pointer none, .agg #[.int .i64 o1, .int .i64 o2, .int .i64 o3, v]] w fun e w' => e = .returned (.bool true) ∧ At W w' R := by
  subst hp
  obtain ⟨av, cv, rfl, _, _⟩ := hv.shape
  have HF := Lib.hid hF
  have HV := Lib.hid hv
  have HL := Lib.hid hlen
  have HST := Lib.hid hst
  clear hF hv hlen
  rcases ho with rfl | rfl | rfl
  · skip
    have h0 := h.newCell hst #[.int .i64 2, .int .i64 o2, .int .i64 o3, .slice av ss.length cv] tOp9
    have H0 := Lib.hid h0
    have b0 := cell_at h0.cell.1 0
    have b3 := cell_at h0.cell.1 3
    have lb := lt_of_heap h0.cell.1
    simp only [List.getElem?_toArray, List.getElem?_cons_zero, List.getElem?_cons_succ] at b0 b3
    clear h h0
    go_enter Tryz.func34, Tryz.ntmps34
    (repeat' (first | (go_big_may; fail) | go_values | go_skip | go_guarded | go_step | go_upon | go_back | dsimp only))
    generalize w.alloc _ = w1 at *
    generalize w.heap.size = s at *
    clear hst
    refine (twin9_calls ss (.slice av ss.length cv) w1 (HV.out.below H0.out.below) (by have := HL.out; omega)).mono ?_
    rintro e w2 ⟨vt, rfl, hto, hbt⟩
    obtain ⟨ta, tc, hvt, _, _⟩ := own_shape hto
    subst hvt
    have h2 := H0.out.drop.mono HST.out (hbt.mono (Nat.le_refl _))
    have H2 := Lib.hid h2
    have HADD := Lib.hid (Add_nil (HF.out.below h2.below) ta ss.length tc)
    have HCD := Lib.hid (code9_calls (c := 1) (HF.out.below h2.below) (.inr (.inl rfl)))
    generalize errV ef 1 = pv at *
    clear h2 hto hbt H0 b0 b3 lb
    (repeat' (first | (go_big_may; fail) | go_values | go_skip | go_guarded | go_step | go_upon | go_back | dsimp only))
    refine HADD.out.mono ?_
    rintro e w3 ⟨rfl, rfl⟩
    (repeat' (first | (go_big_may; fail) | go_values | go_skip | go_guarded | go_step | go_upon | go_back | dsimp only))
    refine HCD.out.mono ?_
    rintro e w3 ⟨rfl, rfl⟩
    (repeat' (first | (go_big_may; fail) | go_values | go_skip | go_guarded | go_step | go_upon | go_back | dsimp only))
    go_ret
    exact ⟨rfl, H2.out⟩
  · skip
    have h0 := h.newCell hst #[.int .i64 3, .int .i64 o2, .int .i64 o3, .slice av ss.length cv] tOp9
    have H0 := Lib.hid h0
    have b0 := cell_at h0.cell.1 0
    have b3 := cell_at h0.cell.1 3
    have lb := lt_of_heap h0.cell.1
    simp only [List.getElem?_toArray, List.getElem?_cons_zero, List.getElem?_cons_succ] at b0 b3
    clear h h0
    go_enter Tryz.func34, Tryz.ntmps34
    (repeat' (first | (go_big_may; fail) | go_values | go_skip | go_guarded | go_step | go_upon | go_back | dsimp only))
    generalize w.alloc _ = w1 at *
    generalize w.heap.size = s at *
    clear hst
    have HADD := Lib.hid (Finish_nil (HF.out.below H0.out.below))
    have HCD := Lib.hid (code9_calls (c := 1) (HF.out.below H0.out.below) (.inr (.inl rfl)))
    have HIN := Lib.hid (ints9_calls [] (.slice none 0 0) (.slice none 0 0) w1 (RdRow.of_own (World.ownsRow_nil _ 0 tInt 1)) (RdRow.of_own (World.ownsRow_nil _ 0 tInt 1)))
    generalize errV ef 1 = pv at *
    clear b0 b3 lb
    refine HADD.out.mono ?_
    rintro e w3 ⟨rfl, rfl⟩
    (repeat' (first | (go_big_may; fail) | go_values | go_skip | go_guarded | go_step | go_upon | go_back | dsimp only))
    refine HCD.out.mono ?_
    rintro e w3 ⟨rfl, rfl⟩
    (repeat' (first | (go_big_may; fail) | go_values | go_skip | go_guarded | go_step | go_upon | go_back | dsimp only))
    refine HIN.out.mono ?_
    rintro e w7 ⟨rfl, hb7⟩
    have HEND := Lib.hid (H0.out.drop.mono HST.out hb7)
    clear hb7 H0
    (repeat' (first | (go_big_may; fail) | go_values | go_skip | go_guarded | go_step | go_upon | go_back | dsimp only))
    go_ret
    exact ⟨rfl, HEND.out⟩
  · skip
    have h0 := h.newCell hst #[.int .i64 4, .int .i64 o2, .int .i64 o3, .slice av ss.length cv] tOp9
    have H0 := Lib.hid h0
    have b0 := cell_at h0.cell.1 0
    have b3 := cell_at h0.cell.1 3
    have lb := lt_of_heap h0.cell.1
    simp only [List.getElem?_toArray, List.getElem?_cons_zero, List.getElem?_cons_succ] at b0 b3
    clear h h0
    go_enter Tryz.func34, Tryz.ntmps34
    (repeat' (first | (go_big_may; fail) | go_values | go_skip | go_guarded | go_step | go_upon | go_back | dsimp only))
    generalize w.alloc _ = w1 at *
    generalize w.heap.size = s at *
    clear hst
    refine FDrop_nil.mono ?_
    rintro e w3 ⟨rfl, hb3⟩
    have HEND := Lib.hid (H0.out.drop.mono HST.out hb3)
    clear hb3 H0 b0 b3 lb
    (repeat' (first | (go_big_may; fail) | go_values | go_skip | go_guarded | go_step | go_upon | go_back | dsimp only))
    go_ret
    exact ⟨rfl, HEND.out⟩
end
end Go.Proofs.YthcicmbkkkhifaaGreatDoor
