/- hornbookref09: the document's former walked: Written, gone, write. · hornbookref09: Written walked. · hornbookref09: New, write, Finish, Drop walked. · hornbookref09: Add walked. · batch: the failures that a former's calls answer, in plain Lean; hornbooklaw09.code walked. · batch: what is left where a step was refused; no program in sight. · BatchLost walked. -/
import Derived.Test.YthcicmbkkkhifaaGreatDoorBuBatLoLaw35
import Derived.Test.YthcicmbkkkhifaaGreatDoorBuBatLoLaw39
import Derived.Test.YthcicmbkkkhifaaGreatDoorBuBatLoLaw40
import Derived.Test.YthcicmbkkkhifaaGreatDoorBuBatLoLaw34
import Derived.Test.YthcicmbkkkhifaaGreatDoorBuBatLoLaw22
import Derived.Test.YthcicmbkkkhifaaGreatDoorBuBatLoLaw12
import Derived.Test.YthcicmbkkkhifaaGreatDoorBuBatLoLaw36
import Derived.Test.YthcicmbkkkhifaaGreatDoorBuBatLoLaw30
import Derived.Deep.DeepCutAuto
set_option linter.unusedSimpArgs false
set_option linter.unusedVariables false
namespace Go.Proofs.YthcicmbkkkhifaaGreatDoor
open Go.RowKit

abbrev tRf : TypeId := 75
abbrev rfCells (f : FmD) (hv mv : Value) : Array Value := #[hv, .int .i64 f.most, mv, .int .i64 f.dead]
abbrev RfI (k : Nat) (f : FmD) (hv mv : Value) : Thing := Both (CellT k (rfCells f hv mv) tRf) (Both (RowG tSx 1 hv f.held.length (strs f.held)) (RowT mv (mz f.made)))
theorem RfI.stable (k : Nat) (f : FmD) (hv mv : Value) : Stable (RfI k f hv mv) := (CellT.stable _ _ _).both ((RowG.stable _ _ _ _ _).both (RowT.stable _ _))
/-- The document's former. -/
def RfT (k : Nat) (f : FmD) : Thing := fun w fp => ∃ q : Value × Value, RfI k f q.1 q.2 w fp
theorem RfT.stable (k : Nat) (f : FmD) : Stable (RfT k f) := Stable.ex fun _ => RfI.stable _ _ _ _
section
variable {W w : World} {R : Thing} {k rb : Nat} {S : St} {f : FmD}
theorem At.rf (h : At W w (Both (RfT k f) R)) : ∃ hv mv, At W w (Both (RfI k f hv mv) R) := by
  obtain ⟨q, h⟩ := At.ex h
  exact ⟨_, _, h⟩
theorem At.toRf {hv mv : Value} (h : At W w (Both (RfI k f hv mv) R)) : At W w (Both (RfT k f) R) := At.intoEx ((hv, mv) : Value × Value) h
structure RfFacts (w : World) (k : Nat) (f : FmD) (hv mv : Value) : Prop where
  c0 : w.cell? ⟨k, 0, none⟩ = some hv
  c1 : w.cell? ⟨k, 1, none⟩ = some (.int .i64 f.most)
  c2 : w.cell? ⟨k, 2, none⟩ = some mv
  c3 : w.cell? ⟨k, 3, none⟩ = some (.int .i64 f.dead)
  fz : ∀ j, w.frozen? ⟨k, j, none⟩ = false
  lt : k < w.heap.size
theorem At.rfF {hv mv : Value} (h : At W w (Both (RfI k f hv mv) R)) : RfFacts w k f hv mv := by
  have h0 : At W w (Both (CellT k (rfCells f hv mv) tRf) (Both (RowG tSx 1 hv f.held.length (strs f.held)) (Both (RowT mv (mz f.made)) R))) := h.perm (by unfold RfI; ac_rfl)
  have h1 := h0.cell.1
  exact ⟨cell_at h1 0, cell_at h1 1, cell_at h1 2, cell_at h1 3, thaw_at h1, lt_of_heap h1⟩
theorem At.rfMade {hv mv : Value} (h : At W w (Both (RfI k f hv mv) R)) : w.ownsRow 0 tInt 1 mv (mz f.made).length (intsV (mz f.made)) :=
  (h.perm (show _ = Both (RowT mv (mz f.made)) (Both (CellT k (rfCells f hv mv) tRf) (Both (RowG tSx 1 hv f.held.length (strs f.held)) R)) by unfold RfI; ac_rfl)).row
theorem At.rfHeld {hv mv : Value} (h : At W w (Both (RfI k f hv mv) R)) : w.ownsRow 0 tSx 1 hv f.held.length (strs f.held) :=
  (h.perm (show _ = Both (RowG tSx 1 hv f.held.length (strs f.held)) (Both (CellT k (rfCells f hv mv) tRf) (Both (RowT mv (mz f.made)) R)) by unfold RfI; ac_rfl)).rowG
/-- A cell of the former is set, the rows stay. -/
theorem At.rfSet {hv mv : Value} (h : At W w (Both (RfI k f hv mv) R)) (hR : Stable R) (o : Nat) (v : Value) :
    At W (w.setCell ⟨k, o, none⟩ v) (Both (CellT k ((rfCells f hv mv).setIfInBounds o v) tRf) (Both (RowG tSx 1 hv f.held.length (strs f.held)) (Both (RowT mv (mz f.made)) R))) :=
  (h.perm (show _ = Both (CellT k (rfCells f hv mv) tRf) (Both (RowG tSx 1 hv f.held.length (strs f.held)) (Both (RowT mv (mz f.made)) R)) by unfold RfI; ac_rfl)).setCell ((RowG.stable _ _ _ _ _).both ((RowT.stable _ _).both hR)) o v
theorem At.rfDead (h : At W w (Both (RfT k f) R)) (hR : Stable R) (c : Nat) : At W (w.setCell ⟨k, 3, none⟩ (.int .i64 c)) (Both (RfT k { f with dead := c }) R) := by
  obtain ⟨hv, mv, h⟩ := h.rf
  have h2 : At W _ (Both (CellT k (rfCells { f with dead := c } hv mv) tRf) (Both (RowG tSx 1 hv f.held.length (strs f.held)) (Both (RowT mv (mz f.made)) R))) := h.rfSet hR 3 (.int .i64 c)
  exact At.toRf (f := { f with dead := c }) (hv := hv) (mv := mv) (h2.perm (by unfold RfI; ac_rfl))
set_option maxRecDepth 100000 in
set_option maxHeartbeats 1600000 in
/-- gone: the runs that it made are removed. -/
theorem gone_at (h : At W w (Both (RfT k f) (Both (RefT rb S) R))) (hR : Stable R) (hG : GoodS S) (hm : ∀ n ∈ f.made, n ≤ S.made) :
    Calls Tryz.prog 49 #[.pointer (some ⟨rb, 0, none⟩), .pointer (some ⟨k, 0, none⟩)] w fun e w' => e = .returned (.tuple #[]) ∧ At W w' (Both (RfT k { f with made := [] }) (Both (RefT rb (goneP S f.made)) R)) := by
  obtain ⟨hv, mv, h⟩ := h.rf
  obtain ⟨ao, cp, hmv, hcp1, hcp2⟩ := own_shape h.rfMade
  subst hmv
  have hlen : (mz f.made).length = f.made.length := by simp [mz]
  rw [hlen] at h hcp1
  have hml : f.made.length ≤ 9223372036854775807 := by unfold maxLen at hcp2; omega
  have hms : S.made ≤ 16777216 := hG.sizes.2.2.2.1
  have HM := Lib.hid hm
  have HR := Lib.hid hR
  have HG := Lib.hid hG
  have H := Lib.hid h
  clear h hR hG hm hcp1 hlen
  go_enter Tryz.func49, Tryz.ntmps49
  (repeat' (first | (go_big_may; fail) | go_values | go_skip | go_guarded | go_step | go_upon | go_back | dsimp only))
  go_loopw [4] (fun vi wr => ∃ (i : Nat) (S1 : St), vi = .int .i64 i ∧ i ≤ f.made.length ∧ GoodS S1 ∧ S1.made = S.made ∧ goneP S1 (f.made.drop i) = goneP S f.made ∧ At W wr (Both (RfI k f hv (.slice ao f.made.length cp)) (Both (RefT rb S1) R))) (fun vi _ => f.made.length - (intOf vi).toNat)
  case atStart => exact ⟨0, S, rfl, Nat.zero_le _, HG.out, rfl, rfl, H.out⟩
  case round =>
    obtain ⟨i, S1, rfl, hi, hG1, hm1, hg1, h1⟩ := hrel
    obtain ⟨_, _, c2, _, fz, hlt⟩ := h1.rfF
    have H1 := Lib.hid h1
    have HG1 := Lib.hid hG1
    have HM1 := Lib.hid hm1
    have HGO := Lib.hid hg1
    clear H
    by_cases hlt2 : i < f.made.length
    · obtain ⟨n, hn⟩ : ∃ n, f.made[i]? = some n := ⟨_, List.getElem?_eq_getElem hlt2⟩
      have hnl := HM.out n (List.mem_of_getElem? hn)
      have hrd := RdRow.of_own h1.rfMade
      obtain ⟨gb, off, cap', hsl, hcell⟩ := hrd.intA (k := i) (z := (n : Int)) (by simp [mz, hn])
      have hdr : f.made.drop i = n :: f.made.drop (i + 1) := by
        obtain ⟨h1, h2⟩ := List.getElem?_eq_some_iff.1 hn
        rw [List.drop_eq_getElem_cons h1, h2]
      rw [hdr] at hg1
      have HGO2 := Lib.hid hg1
      have hnz : inI64 (n : Int) := by unfold inI64; omega
      have hrm := rRemove_at (h1.perm (show _ = Both (RefT rb S1) (Both (RfI k f hv (.slice ao f.made.length cp)) R) by ac_rfl)) ((RfI.stable _ _ _ _).both HR.out) HG1.out hnz
      have HRM := Lib.hid hrm
      have HGR := Lib.hid (HG1.out.remove (n : Int))
      have HMR := Lib.hid ((made_remove S1 (n : Int)).trans HM1.out)
      have hi0 : (0 : Int) ≤ i := by omega
      have hi1 : (i : Int) < f.made.length := by omega
      simp only [Value.slice.injEq] at hsl
      obtain ⟨hao, hl1, hcc⟩ := hsl
      subst hao
      subst hcc
      have hwr : IntKind.i64.wrap ((i : Int) + 1) = ((i + 1 : Nat) : Int) := by rw [IntKind.wrap_i64] <;> omega
      generalize (removeP S1 (n : Int)).2 = cc at *
      clear h1 hG1 hm1 hg1 hrd hrm hnz hdr hn hnl hl1
      (repeat' (first | (go_big_may; fail) | go_values | go_skip | go_guarded | go_step | go_upon | go_back | dsimp only))
      refine HRM.out.mono ?_
      rintro e w2 ⟨rfl, h2⟩
      have H2 := Lib.hid h2
      clear h2 HRM
      (repeat' (first | (go_big_may; fail) | go_values | go_skip | go_guarded | go_step | go_upon | go_back | dsimp only))
      go_roundw
      case rel => exact ⟨i + 1, (removeP S1 (n : Int)).1, rfl, hlt2, HGR.out, HMR.out, HGO2.out, H2.out.perm (by ac_rfl)⟩
      case measure => simp [intOf]; omega
    · have hi0 : ¬ (i : Int) < f.made.length := by omega
      have hie : f.made.drop i = [] := List.drop_eq_nil_of_le (by omega)
      rw [hie] at hg1
      have hg2 : S1 = goneP S f.made := hg1
      have h2 : At W _ (Both (CellT k (rfCells { f with made := [] } hv (.slice none 0 0)) tRf) (Both (RowG tSx 1 hv f.held.length (strs f.held)) (Both (RowT (.slice ao f.made.length cp) (mz f.made)) (Both (RefT rb S1) R)))) := h1.rfSet ((RefT.stable _ _).both HR.out) 2 (.slice none 0 0)
      have h3 := h2.pull3.drop
      rw [hg2] at h3
      have HEND := Lib.hid ((h3.noRow ((CellT.stable _ _ _).both ((RowG.stable _ _ _ _ _).both ((RefT.stable _ _).both HR.out)))).perm (show _ = Both (RfI k { f with made := [] } hv (.slice none 0 0)) (Both (RefT rb (goneP S f.made)) R) by unfold RfI; simp only [mz, List.map_nil]; ac_rfl))
      clear h1 h2 h3 hg1 hg2 hG1 hm1 hie
      (repeat' (first | (go_big_may; fail) | go_values | go_skip | go_guarded | go_step | go_upon | go_back | dsimp only))
      go_end0
      exact ⟨rfl, At.toRf (f := { f with made := [] }) HEND.out⟩
end
end Go.Proofs.YthcicmbkkkhifaaGreatDoor
namespace Go.Proofs.YthcicmbkkkhifaaGreatDoor
open Go.RowKit

theorem putL_short : ∀ (n : Nat) (S : St) (x : WrD), 1 ≤ x.block → x.buf.length < n → (putL n S x).2.2 = 0 → (putL n S x).2.1.buf.length < x.block := by
  intro n
  induction n with
  | zero => intro S x _ h; exact absurd h (Nat.not_lt_zero _)
  | succ n ih =>
    intro S x hb hl
    unfold putL
    by_cases hge : x.block ≤ x.buf.length
    · rw [if_pos hge]
      by_cases hz : (flushP S x x.block).2.2 = 0
      · rw [if_pos hz]
        intro h
        have hok := flushP_ok hz
        have hbk : (flushP S x x.block).2.1.block = x.block := by rw [hok]
        have := ih (flushP S x x.block).1 (flushP S x x.block).2.1 (by rw [hbk]; exact hb) (by rw [hok]; simp only [List.length_drop]; omega) h
        rw [hbk] at this
        exact this
      · rw [if_neg hz]
        intro h
        exact absurd h hz
    · rw [if_neg hge]
      intro _
      show x.buf.length < _
      omega
theorem putP_short {S : St} {x : WrD} {L : List (List UInt8)} (hd : x.dead = 0) (hL : fits L = true) (hb : 1 ≤ x.block) (hz : (putP S x L).2.2 = 0) : (putP S x L).2.1.buf.length < x.block := by
  unfold putP at hz ⊢
  rw [if_neg (by simpa using hd), if_neg (by simp [hL])] at hz ⊢
  exact putL_short _ _ { x with buf := x.buf ++ frameL L } hb (Nat.lt_succ_self _) hz
theorem dropP_sim {S : St} {x y : WrD} (h : WSim x y) : (dropP S y).1 = (dropP S x).1 := by
  unfold dropP
  rw [h.dead, h.run]
  split <;> rfl
section
variable {W w : World} {R : Thing} {rb : Nat} {S : St} {L : List (List UInt8)} {v : Value}
set_option maxRecDepth 100000 in
set_option maxHeartbeats 3200000 in
theorem rWritten_at (h : At W w (Both (RefT rb S) R)) (hR : Stable R) (hG : GoodS S) (hrd : ∀ w', At W w' R → RdRow w' v L.length 1 (strs L)) (hL : fits L = true) (hlen : (frameL L).length ≤ 1099511627776) :
    Calls Tryz.prog 48 #[.pointer (some ⟨rb, 0, none⟩), v] w fun e w' => e = .returned (.tuple #[.int .i64 (writtenP S L).2.1, .int .i64 (writtenP S L).2.2]) ∧ At W w' (Both (RefT rb (writtenP S L).1) R) := by
  obtain ⟨res, hres⟩ : ∃ res, res = writtenP S L := ⟨_, rfl⟩
  rw [← hres]
  unfold writtenP at hres
  have HR := Lib.hid hR
  have HRD := Lib.hid hrd
  by_cases hc : (createP S).2.2 = 0
  · rw [if_neg (by simpa using hc)] at hres
    obtain ⟨htop, _⟩ := create_top hG hc
    have hgs := htop.good
    have hrz : inI64 (((createP S).2.1 : Nat) : Int) := by
      have h1 := hgs.sizes.2.2.2.1
      have h2 := htop.num
      have h3 := htop.made
      unfold inI64; omega
    have ho := rOpen_ok h hR hG (n := 512) (by omega) hc
    have hpu := fun (k : Nat) (w' : World) (h' : At W w' (Both (RwT k ⟨(createP S).2.1, 512, [], 0⟩) (Both (RefT rb (createP S).1) R))) =>
      rPut_at (ss := L) h' hR hgs (by show 1 ≤ 512; omega) (by show 512 ≤ 4096; omega) hrz (HRD.out _ h'.drop.drop) (fun _ => by show 0 + _ ≤ _; omega)
    obtain ⟨P, hP⟩ : ∃ P, P = putP (createP S).1 ⟨(createP S).2.1, 512, [], 0⟩ L := ⟨_, rfl⟩
    obtain ⟨t', p1, p2, p3, p4, p5, p6, p7⟩ := putP_top (x := ⟨(createP S).2.1, 512, [], 0⟩) (L := L) htop rfl rfl hL
    have hsh := putP_short (S := (createP S).1) (x := ⟨(createP S).2.1, 512, [], 0⟩) (L := L) rfl hL (by show 1 ≤ 512; omega)
    simp only [← hP] at hpu p1 p2 p3 p4 p5 p6 p7 hres hsh
    have HO := Lib.hid ho
    have HPU := Lib.hid hpu
    have HPG := Lib.hid p1.good
    have hrz2 : inI64 ((P.2.1.run : Nat) : Int) := by rw [p2]; exact hrz
    have HRZ := Lib.hid hrz2
    by_cases hz : P.2.2 = 0
    · rw [if_neg (by simpa using hz)] at hres
      rw [hz] at HPU
      have hbl := hsh hz
      obtain ⟨q1, _⟩ := p4 hz
      have HCL := Lib.hid (fun (k : Nat) (w' : World) (h' : At W w' (Both (RwT k P.2.1) (Both (RefT rb P.1) R))) => rClose_at h' HR.out HPG.out HRZ.out (fun _ => by have : P.2.1.buf.length < 512 := hbl; omega))
      have hct := closeP_top p1 p2 q1
      have hcgd := closeP_good p1.good P.2.1
      obtain ⟨Q, hQ⟩ : ∃ Q, Q = closeP P.1 P.2.1 := ⟨_, rfl⟩
      rw [← hQ] at HCL hct hcgd hres
      have hrq : inI64 ((Q.2.1.run : Nat) : Int) ∨ Q.2.2.2 = 0 := by
        rcases hct with ⟨k1, _⟩ | ⟨_, _, k3, _⟩
        · exact .inr k1
        · refine .inl ?_; rw [k3]; exact hrz
      have HQ1 := Lib.hid q1
      have HCG := Lib.hid hcgd
      have hnz : ((P.2.2 : Int) != 0) = false := by simp [hz]
      by_cases hz2 : Q.2.2.2 = 0
      · rw [if_neg (by simpa using hz2)] at hres
        rw [hz2] at HCL
        have HRES := Lib.hid hres
        clear h hR hG hrd hlen ho hpu hP htop hgs hc p1 p2 p3 p4 p5 p6 p7 hsh hres hz hz2 hct hcgd hQ q1 hrq hrz hrz2 hbl hnz
        go_enter Tryz.func48, Tryz.ntmps48
        (repeat' (first | (go_big_may; fail) | go_values | go_skip | go_guarded | go_step | go_upon | go_back | dsimp only))
        refine HO.out.mono ?_
        rintro e w1 ⟨k, rfl, h1⟩
        have H1 := Lib.hid h1
        clear h1 HO
        (repeat' (first | (go_big_may; fail) | go_values | go_skip | go_guarded | go_step | go_upon | go_back | dsimp only))
        refine (HPU.out k w1 H1.out).mono ?_
        rintro e w2 ⟨rfl, y, hy, h2⟩
        obtain rfl := hy.eq HQ1.out
        have H2 := Lib.hid h2
        clear h2 HPU H1 hy
        (repeat' (first | (go_big_may; fail) | go_values | go_skip | go_guarded | go_step | go_upon | go_back | dsimp only))
        refine (HCL.out k w2 H2.out).mono ?_
        rintro e w3 ⟨rfl, y3, _, h3⟩
        have H3 := Lib.hid h3.drop
        clear h3 HCL H2
        (repeat' (first | (go_big_may; fail) | go_values | go_skip | go_guarded | go_step | go_upon | go_back | dsimp only))
        go_ret2
        rw [HRES.out]
        exact ⟨rfl, H3.out⟩
      · rw [if_pos hz2] at hres
        have hrq2 : inI64 ((Q.2.1.run : Nat) : Int) := hrq.resolve_right hz2
        have HDR := Lib.hid (fun (k : Nat) (y : WrD) (hy : WSim Q.2.1 y) (w' : World) (h' : At W w' (Both (RwT k y) (Both (RefT rb Q.1) R))) => rDrop_at h' HR.out HCG.out (by rw [hy.run]; exact hrq2))
        have HRES := Lib.hid hres
        have hq : ((Q.2.2.2 : Int) != 0) = true := by simp; omega
        clear h hR hG hrd hlen ho hpu hP htop hgs hc p1 p2 p3 p4 p5 p6 p7 hsh hres hz hz2 hct hcgd hQ q1 hrq hrq2 hrz hrz2 hbl hnz
        go_enter Tryz.func48, Tryz.ntmps48
        (repeat' (first | (go_big_may; fail) | go_values | go_skip | go_guarded | go_step | go_upon | go_back | dsimp only))
        refine HO.out.mono ?_
        rintro e w1 ⟨k, rfl, h1⟩
        have H1 := Lib.hid h1
        clear h1 HO
        (repeat' (first | (go_big_may; fail) | go_values | go_skip | go_guarded | go_step | go_upon | go_back | dsimp only))
        refine (HPU.out k w1 H1.out).mono ?_
        rintro e w2 ⟨rfl, y, hy, h2⟩
        obtain rfl := hy.eq HQ1.out
        have H2 := Lib.hid h2
        clear h2 HPU H1 hy
        (repeat' (first | (go_big_may; fail) | go_values | go_skip | go_guarded | go_step | go_upon | go_back | dsimp only))
        refine (HCL.out k w2 H2.out).mono ?_
        rintro e w3 ⟨rfl, y3, hy3, h3⟩
        have HD3 := Lib.hid (HDR.out k y3 hy3 w3 h3)
        have HY3 := Lib.hid hy3
        clear h3 HCL H2 HDR hy3
        (repeat' (first | (go_big_may; fail) | go_values | go_skip | go_guarded | go_step | go_upon | go_back | dsimp only))
        refine HD3.out.mono ?_
        rintro e w4 ⟨rfl, h4⟩
        have H4 := Lib.hid h4.drop
        clear h4 HD3
        (repeat' (first | (go_big_may; fail) | go_values | go_skip | go_guarded | go_step | go_upon | go_back | dsimp only))
        go_ret2
        rw [HRES.out]
        refine ⟨rfl, ?_⟩
        have h5 := H4.out
        rw [dropP_sim HY3.out] at h5
        exact h5
    · rw [if_pos hz] at hres
      have HDR := Lib.hid (fun (k : Nat) (y : WrD) (hy : WSim P.2.1 y) (w' : World) (h' : At W w' (Both (RwT k y) (Both (RefT rb P.1) R))) => rDrop_at h' HR.out HPG.out (by rw [hy.run]; exact HRZ.out))
      have HRES := Lib.hid hres
      have hq : ((P.2.2 : Int) != 0) = true := by simp; omega
      clear h hR hG hrd hlen ho hpu hP htop hgs hc p1 p2 p3 p4 p5 p6 p7 hsh hres hz hrz hrz2
      go_enter Tryz.func48, Tryz.ntmps48
      (repeat' (first | (go_big_may; fail) | go_values | go_skip | go_guarded | go_step | go_upon | go_back | dsimp only))
      refine HO.out.mono ?_
      rintro e w1 ⟨k, rfl, h1⟩
      have H1 := Lib.hid h1
      clear h1 HO
      (repeat' (first | (go_big_may; fail) | go_values | go_skip | go_guarded | go_step | go_upon | go_back | dsimp only))
      refine (HPU.out k w1 H1.out).mono ?_
      rintro e w2 ⟨rfl, y, hy, h2⟩
      have HD3 := Lib.hid (HDR.out k y hy w2 h2)
      have HY3 := Lib.hid hy
      clear h2 HPU H1 hy HDR
      (repeat' (first | (go_big_may; fail) | go_values | go_skip | go_guarded | go_step | go_upon | go_back | dsimp only))
      refine HD3.out.mono ?_
      rintro e w4 ⟨rfl, h4⟩
      have H4 := Lib.hid h4.drop
      clear h4 HD3
      (repeat' (first | (go_big_may; fail) | go_values | go_skip | go_guarded | go_step | go_upon | go_back | dsimp only))
      go_ret2
      rw [HRES.out]
      refine ⟨rfl, ?_⟩
      have h5 := H4.out
      rw [dropP_sim HY3.out] at h5
      exact h5
  · rw [if_pos hc] at hres
    have HO := Lib.hid (rOpen_fail h hR hG (n := 512) (by omega) hc)
    have HRES := Lib.hid hres
    have hq : (((createP S).2.2 : Int) != 0) = true := by simp; omega
    generalize (createP S).2.2 = c at *
    generalize (createP S).1 = S1 at *
    clear h hR hG hrd hlen hc hres
    go_enter Tryz.func48, Tryz.ntmps48
    (repeat' (first | (go_big_may; fail) | go_values | go_skip | go_guarded | go_step | go_upon | go_back | dsimp only))
    refine HO.out.mono ?_
    rintro e w1 ⟨rfl, h1⟩
    have H1 := Lib.hid h1
    clear h1 HO
    (repeat' (first | (go_big_may; fail) | go_values | go_skip | go_guarded | go_step | go_upon | go_back | dsimp only))
    go_ret2
    rw [HRES.out]
    exact ⟨rfl, H1.out⟩
end
end Go.Proofs.YthcicmbkkkhifaaGreatDoor
namespace Go.Proofs.YthcicmbkkkhifaaGreatDoor
open Go.RowKit

section
variable {W w : World} {R : Thing} {k rb : Nat} {S : St} {f : FmD}
set_option maxRecDepth 100000 in
set_option maxHeartbeats 1600000 in
theorem rFNew_at (h : At W w R) (hR : Stable R) {n : Nat} (hn : 1 ≤ n ∧ n ≤ 65536) :
    Calls Tryz.prog 10 #[.int .i64 n] w fun e w' => ∃ k, e = .returned (.tuple #[.pointer (some ⟨k, 0, none⟩), .int .i64 0]) ∧ At W w' (Both (RfT k (newF n)) R) := by
  have h1 : ¬ (n : Int) < 1 := by omega
  have h2 : ¬ 65536 < (n : Int) := by omega
  have h3 := h.newCell hR (rfCells (newF n) (.slice none 0 0) (.slice none 0 0)) tRf
  have h4 := (h3.noRow ((CellT.stable _ _ _).both hR)).noRowG ((RowT.stable _ _).both ((CellT.stable _ _ _).both hR)) tSx 1
  have H5 := Lib.hid (At.toRf (f := newF n) (hv := .slice none 0 0) (mv := .slice none 0 0) (h4.perm (show _ = Both (RfI w.heap.size (newF n) (.slice none 0 0) (.slice none 0 0)) R by unfold RfI; show Both (RowG tSx 1 (.slice none 0 0) 0 []) (Both (RowT (.slice none 0 0) []) _) = Both (Both _ (Both (RowG tSx 1 (.slice none 0 0) 0 []) (RowT (.slice none 0 0) []))) R; ac_rfl)))
  clear h h3 h4 hn
  go_enter Tryz.func10, Tryz.ntmps10
  (repeat' (first | (go_big_may; fail) | go_values | go_skip | go_guarded | go_step | go_upon | go_back | dsimp only))
  go_ret2
  exact ⟨_, rfl, H5.out⟩
set_option maxRecDepth 100000 in
set_option maxHeartbeats 3200000 in
theorem rwrite_at (h : At W w (Both (RfT k f) (Both (RefT rb S) R))) (hR : Stable R) (hG : GoodS S) (hfit : fits f.held = true) (hlen : f.held.length ≤ 65536) (hm : ∀ n ∈ f.made, n ≤ S.made) (hfew : f.made.length ≤ S.made) :
    Calls Tryz.prog 28 #[.pointer (some ⟨rb, 0, none⟩), .pointer (some ⟨k, 0, none⟩)] w fun e w' => e = .returned (.int .i64 (fwriteP S f).2.2) ∧ At W w' (Both (RfT k (fwriteP S f).2.1) (Both (RefT rb (fwriteP S f).1) R)) := by
  obtain ⟨res, hres⟩ : ∃ res, res = fwriteP S f := ⟨_, rfl⟩
  rw [← hres]
  unfold fwriteP at hres
  obtain ⟨hv, mv, h⟩ := h.rf
  have hst := (RfI.stable k f hv mv).both ((RefT.stable rb S).both hR)
  have hof := Of_at f.held.length w f.held hv (Nat.le_refl _) (by omega) (RdRow.of_own h.rfHeld)
  have hfo := fits_ofL hfit
  have hfl : (frameL (ofL f.held)).length ≤ 1099511627776 := by
    have h1 := frame_wsum hfo
    have h2 := wsum_fit hfo
    have h3 := ofL_len f.held
    omega
  have hms := hG.sizes.2.2.2.1
  have hwt := written_top hG hfo
  have hwr := fun (vo : Value) (w' : World) (h' : At W w' (Both (RefT rb S) (Both (RowG tSt 1 vo (ofL f.held).length (strs (ofL f.held))) (Both (RfI k f hv mv) R)))) =>
    rWritten_at h' ((RowG.stable _ _ _ _ _).both ((RfI.stable _ _ _ _).both hR)) hG (fun w' h' => RdRow.of_own h'.rowG) hfo hfl
  obtain ⟨c0, _, _, _, _, hlt⟩ := h.rfF
  have H := Lib.hid h
  have HST := Lib.hid hst
  have HOF := Lib.hid hof
  have HR := Lib.hid hR
  generalize writtenP S (ofL f.held) = P at *
  by_cases hz : P.2.2 = 0
  · rw [if_pos hz] at hres
    rw [hz] at hwr
    have HWR := Lib.hid hwr
    have HRES := Lib.hid hres
    have hml : (mz f.made).length ≤ 16777216 := by simp only [mz, List.length_map]; omega
    have HML := Lib.hid hml
    clear h hR hG hfit hlen hm hfew hres hst hof hfo hfl hms hwt hwr hz hml
    go_enter Tryz.func28, Tryz.ntmps28
    (repeat' (first | (go_big_may; fail) | go_values | go_skip | go_guarded | go_step | go_upon | go_back | dsimp only))
    refine HOF.out.mono ?_
    rintro e w1 ⟨vo, rfl, h1⟩
    have h2 := (H.out.glue HST.out h1).perm (show _ = Both (RefT rb S) (Both (RowG tSt 1 vo (ofL f.held).length (strs (ofL f.held))) (Both (RfI k f hv mv) R)) by ac_rfl)
    have H2 := Lib.hid h2
    clear h1 h2 HOF H HST c0 hlt
    (repeat' (first | (go_big_may; fail) | go_values | go_skip | go_guarded | go_step | go_upon | go_back | dsimp only))
    refine (HWR.out vo w1 H2.out).mono ?_
    rintro e w2 ⟨rfl, h3⟩
    have h4 := (h3.perm (show _ = Both (RowG tSt 1 vo (ofL f.held).length (strs (ofL f.held))) (Both (RfI k f hv mv) (Both (RefT rb P.1) R)) by ac_rfl)).drop
    obtain ⟨_, _, c2, _, fz, hlt⟩ := h4.rfF
    have h5 := h4.perm (show _ = Both (RowG tInt 1 mv (mz f.made).length (intsV (mz f.made))) (Both (CellT k (rfCells f hv mv) tRf) (Both (RowG tSx 1 hv f.held.length (strs f.held)) (Both (RefT rb P.1) R))) by unfold RfI; show Both (Both _ (Both _ (RowG tInt 1 mv (mz f.made).length (intsV (mz f.made))))) _ = _; ac_rfl)
    have HS5 := Lib.hid (show Stable (Both (CellT k (rfCells f hv mv) tRf) (Both (RowG tSx 1 hv f.held.length (strs f.held)) (Both (RefT rb P.1) R))) from (CellT.stable _ _ _).both ((RowG.stable _ _ _ _ _).both ((RefT.stable _ _).both HR.out)))
    have H5 := Lib.hid h5
    have hml := HML.out
    clear h3 h4 h5 HWR H2
    (repeat' (first | (go_big_may; ((at_builtin; go_must (refine wpList_append_to rfl _ _ 46 tInt rfl Tryz.underlying46 info_int rfl (by decide) rfl (H5.out) (HS5.out) rfl (by first | rfl | simp) rfl ((by intro u hu; simp at hu; subst hu; rfl)) (by unfold maxLen; omega) (by omega) ?_); intro a6 p6 w6 h6 _); have H6 := Lib.hid h6; obtain ⟨e2, e2f, e2l⟩ := h6.drop.cellF (o := 2) rfl; obtain ⟨e0, e0f, _⟩ := h6.drop.cellF (o := 0) rfl; clear h6 c2 fz hlt)) | go_values | go_skip | go_guarded | go_step | go_upon | go_back | dsimp only))
    have h7 := (H6.out.perm (show _ = Both (CellT k (rfCells f hv mv) tRf) (Both (RowG tInt 1 (.slice a6 ((mz f.made).length + 1) p6) ((mz f.made).length + 1) (intsV (mz f.made) ++ (#[Value.int .i64 P.2.1] : Array Value).toList)) (Both (RowG tSx 1 hv f.held.length (strs f.held)) (Both (RefT rb P.1) R))) by ac_rfl)).setCell ((RowG.stable _ _ _ _ _).both ((RowG.stable _ _ _ _ _).both ((RefT.stable _ _).both HR.out))) 2 (.slice a6 ((mz f.made).length + 1) p6)
    have h8 := h7.setCell ((RowG.stable _ _ _ _ _).both ((RowG.stable _ _ _ _ _).both ((RefT.stable _ _).both HR.out))) 0 (.slice none 0 0)
    have e1 : mz (f.made ++ [P.2.1]) = mz f.made ++ [(P.2.1 : Int)] := by simp [mz]
    have e2 : RowG tInt 1 (.slice a6 ((mz f.made).length + 1) p6) ((mz f.made).length + 1) (intsV (mz f.made) ++ (#[Value.int .i64 P.2.1] : Array Value).toList) = RowT (.slice a6 ((mz f.made).length + 1) p6) (mz (f.made ++ [P.2.1])) := by
      funext w fp
      unfold RowT RowG
      rw [e1]
      simp only [List.length_append, List.length_cons, List.length_nil, intsV, List.map_append, List.map_cons, List.map_nil, Nat.zero_add]
    rw [e2] at h8
    have h9 : At W _ (Both (RowG tSx 1 hv f.held.length (strs f.held)) (Both (CellT k (rfCells { f with made := f.made ++ [P.2.1], held := [] } (.slice none 0 0) (.slice a6 ((mz f.made).length + 1) p6)) tRf) (Both (RowT (.slice a6 ((mz f.made).length + 1) p6) (mz (f.made ++ [P.2.1]))) (Both (RefT rb P.1) R)))) := h8.pull3
    have h10 := h9.drop.noRowG ((CellT.stable _ _ _).both ((RowT.stable _ _).both ((RefT.stable _ _).both HR.out))) tSx 1
    have HEND := Lib.hid (At.toRf (f := { f with made := f.made ++ [P.2.1], held := [] }) (hv := .slice none 0 0) (mv := .slice a6 ((mz f.made).length + 1) p6) (h10.perm (show _ = Both (RfI k { f with made := f.made ++ [P.2.1], held := [] } (.slice none 0 0) (.slice a6 ((mz f.made).length + 1) p6)) (Both (RefT rb P.1) R) by unfold RfI; show Both (RowG tSx 1 (.slice none 0 0) 0 []) _ = Both (Both _ (Both (RowG tSx 1 (.slice none 0 0) 0 []) _)) _; ac_rfl)))
    clear h7 h8 h9 h10 e1 e2 H6 H5 HS5 hml
    (repeat' (first | (go_big_may; fail) | go_values | go_skip | go_guarded | go_step | go_upon | go_back | dsimp only))
    go_ret
    rw [HRES.out]
    exact ⟨rfl, HEND.out⟩
  · rw [if_neg hz] at hres
    have hz9 : ((P.2.2 : Int) != 0) = true := by simp; omega
    have hgn := fun (w' : World) (h' : At W w' (Both (RfT k f) (Both (RefT rb P.1) R))) => gone_at h' hR hwt.1 (fun n hn => Nat.le_trans (hm n hn) hwt.2.1)
    have HGN := Lib.hid hgn
    have HWR := Lib.hid hwr
    have HRES := Lib.hid hres
    clear h hR hG hfit hlen hm hfew hres hst hof hfo hfl hms hwt hwr hz hgn
    go_enter Tryz.func28, Tryz.ntmps28
    (repeat' (first | (go_big_may; fail) | go_values | go_skip | go_guarded | go_step | go_upon | go_back | dsimp only))
    refine HOF.out.mono ?_
    rintro e w1 ⟨vo, rfl, h1⟩
    have h2 := (H.out.glue HST.out h1).perm (show _ = Both (RefT rb S) (Both (RowG tSt 1 vo (ofL f.held).length (strs (ofL f.held))) (Both (RfI k f hv mv) R)) by ac_rfl)
    have H2 := Lib.hid h2
    clear h1 h2 HOF H HST c0 hlt
    (repeat' (first | (go_big_may; fail) | go_values | go_skip | go_guarded | go_step | go_upon | go_back | dsimp only))
    refine (HWR.out vo w1 H2.out).mono ?_
    rintro e w2 ⟨rfl, h3⟩
    have h4 := (h3.perm (show _ = Both (RowG tSt 1 vo (ofL f.held).length (strs (ofL f.held))) (Both (RfI k f hv mv) (Both (RefT rb P.1) R)) by ac_rfl)).drop
    have HG2 := Lib.hid (HGN.out w2 (At.toRf h4))
    clear h3 h4 HWR H2 HGN
    (repeat' (first | (go_big_may; fail) | go_values | go_skip | go_guarded | go_step | go_upon | go_back | dsimp only))
    refine HG2.out.mono ?_
    rintro e w3 ⟨rfl, h5⟩
    obtain ⟨hv3, mv3, h6⟩ := h5.rf
    obtain ⟨_, _, _, d3, fz, hlt⟩ := h6.rfF
    have HEND := Lib.hid (h5.rfDead ((RefT.stable _ _).both HR.out) P.2.2)
    clear h5 h6 HG2
    (repeat' (first | (go_big_may; fail) | go_values | go_skip | go_guarded | go_step | go_upon | go_back | dsimp only))
    go_ret
    rw [HRES.out]
    exact ⟨rfl, HEND.out⟩
set_option maxRecDepth 100000 in
set_option maxHeartbeats 3200000 in
theorem rFinish_at (h : At W w (Both (RfT k f) (Both (RefT rb S) R))) (hR : Stable R) (hG : GoodS S) (hS : Sealed S) (hO : FOk S f) :
    Calls Tryz.prog 18 #[.pointer (some ⟨rb, 0, none⟩), .pointer (some ⟨k, 0, none⟩)] w fun e w' => ∃ v, e = .returned (.tuple #[v, .int .i64 (finishP S f).2.2.2]) ∧ RdRow w' v (mz (finishP S f).2.2.1).length 1 (intsV (mz (finishP S f).2.2.1)) ∧ At W w' (Both (RfT k (finishP S f).2.1) (Both (RefT rb (finishP S f).1) R)) := by
  obtain ⟨res, hres⟩ : ∃ res, res = finishP S f := ⟨_, rfl⟩
  rw [← hres]
  unfold finishP at hres
  obtain ⟨hv, mv, h1⟩ := h.rf
  obtain ⟨bo, cp, hbv, hcp1, hcp2⟩ := own_shape h1.rfHeld
  subst hbv
  unfold maxLen at hcp2
  have hmx : f.held.length ≤ 9223372036854775807 := by omega
  obtain ⟨c0, _, c2, c3, fz, hlt⟩ := h1.rfF
  have HR := Lib.hid hR
  by_cases hd : f.dead = 0
  · rw [if_neg (by simpa using hd)] at hres
    have hdz : ((f.dead : Int) != 0) = false := by simp [hd]
    by_cases hh : f.held = []
    · rw [if_pos hh] at hres
      have hl0 : ¬ (0 : Int) < f.held.length := by rw [hh]; simp
      have h2 : At W _ (Both (CellT k (rfCells { f with dead := 13 } (.slice bo f.held.length cp) mv) tRf) (Both (RowG tSx 1 (.slice bo f.held.length cp) f.held.length (strs f.held)) (Both (RowT mv (mz f.made)) (Both (RefT rb S) R)))) := h1.rfSet ((RefT.stable _ _).both hR) 3 (.int .i64 13)
      have h3 := h2.perm (show _ = Both (RfI k { f with dead := 13 } (.slice bo f.held.length cp) mv) (Both (RefT rb S) R) by unfold RfI; ac_rfl)
      have hrd := RdRow.of_own h3.rfMade
      have H3 := Lib.hid (At.toRf (f := { f with dead := 13 }) h3)
      have HRD := Lib.hid hrd
      have HRES := Lib.hid hres
      clear h h1 h2 h3 hrd hR hG hS hO hres hd hh hcp1 hcp2
      go_enter Tryz.func18, Tryz.ntmps18
      (repeat' (first | (go_big_may; fail) | go_values | go_skip | go_guarded | go_step | go_upon | go_back | dsimp only))
      go_ret2
      rw [HRES.out]
      exact ⟨_, rfl, HRD.out, H3.out⟩
    · rw [if_neg hh] at hres
      have hl0 : (0 : Int) < f.held.length := by have := List.length_pos_iff.2 hh; omega
      have hless := hO.less hd
      have hmost := hO.most
      have HWC := Lib.hid (rwrite_at h hR hG hO.fit (by omega) hO.made hO.few)
      generalize fwriteP S f = P at *
      by_cases hz : P.2.2 = 0
      · rw [if_pos hz] at hres
        rw [hz] at HWC
        have HRES := Lib.hid hres
        clear h h1 hR hG hS hO hres hd hh hcp1 hcp2 hless hmost hz
        go_enter Tryz.func18, Tryz.ntmps18
        (repeat' (first | (go_big_may; fail) | go_values | go_skip | go_guarded | go_step | go_upon | go_back | dsimp only))
        refine HWC.out.mono ?_
        rintro e w2 ⟨rfl, h4⟩
        obtain ⟨hv4, mv4, h5⟩ := h4.rf
        clear c0 c2 c3 fz hlt
        obtain ⟨_, _, c2, c3, fz, hlt⟩ := h5.rfF
        have h6 : At W _ (Both (CellT k (rfCells { P.2.1 with dead := 13 } hv4 mv4) tRf) (Both (RowG tSx 1 hv4 P.2.1.held.length (strs P.2.1.held)) (Both (RowT mv4 (mz P.2.1.made)) (Both (RefT rb P.1) R)))) := h5.rfSet ((RefT.stable _ _).both HR.out) 3 (.int .i64 13)
        have h7 := h6.perm (show _ = Both (RfI k { P.2.1 with dead := 13 } hv4 mv4) (Both (RefT rb P.1) R) by unfold RfI; ac_rfl)
        have hrd := RdRow.of_own h7.rfMade
        have H7 := Lib.hid (At.toRf (f := { P.2.1 with dead := 13 }) h7)
        have HRD := Lib.hid hrd
        clear h4 h5 h6 h7 hrd HWC
        (repeat' (first | (go_big_may; fail) | go_values | go_skip | go_guarded | go_step | go_upon | go_back | dsimp only))
        go_ret2
        rw [HRES.out]
        exact ⟨_, rfl, HRD.out, H7.out⟩
      · rw [if_neg hz] at hres
        have hz9 : ((P.2.2 : Int) != 0) = true := by simp; omega
        have HRES := Lib.hid hres
        clear h h1 hR hG hS hO hres hd hh hcp1 hcp2 hless hmost hz
        go_enter Tryz.func18, Tryz.ntmps18
        (repeat' (first | (go_big_may; fail) | go_values | go_skip | go_guarded | go_step | go_upon | go_back | dsimp only))
        refine HWC.out.mono ?_
        rintro e w2 ⟨rfl, h4⟩
        have H4 := Lib.hid h4
        clear h4 HWC
        (repeat' (first | (go_big_may; fail) | go_values | go_skip | go_guarded | go_step | go_upon | go_back | dsimp only))
        go_ret2
        rw [HRES.out]
        exact ⟨_, rfl, RdRow.of_own (World.ownsRow_nil _ 0 tInt 1), H4.out⟩
  · rw [if_pos hd] at hres
    have hdz : ((f.dead : Int) != 0) = true := by simp; omega
    have H := Lib.hid h
    have HST := Lib.hid ((RfT.stable k f).both ((RefT.stable rb S).both hR))
    have HRES := Lib.hid hres
    clear h h1 hR hG hS hO hres hd hcp1 hcp2
    go_enter Tryz.func18, Tryz.ntmps18
    (repeat' (first | (go_big_may; fail) | go_values | go_skip | go_guarded | go_step | go_upon | go_back | dsimp only))
    (refine region_still_tail 5 (by kernel_rfl) (by kernel_rfl) ?_; simp only [List.take_succ_cons, List.take_zero, List.drop_succ_cons, List.drop_zero]; (iterate 5 (first | ((with_reducible refine still_plain ?_ rfl ?_ ?_); rotate_left; (next => (go_simp; (try with_reducible rfl))); simp only [Act.put, List.setIfInBounds_toArray, List.set_cons_zero, List.set_cons_succ]) | ((with_reducible refine still_skip ?_ ?_); (next => (go_simp; done)); simp only [Act.put, List.setIfInBounds_toArray, List.set_cons_zero, List.set_cons_succ]) | ((with_reducible refine still_val ?_ ?_ ?_ ?_); rotate_left; (next => (go_simp; done)); (next => (go_simp; (try with_reducible rfl))); simp only [Act.put, List.setIfInBounds_toArray, List.set_cons_zero, List.set_cons_succ]))); (with_reducible refine wpStill_nil ?_))
    (repeat' (first | (go_big_may; fail) | go_values | go_skip | go_guarded | go_step | go_upon | go_back | dsimp only))
    go_ret2
    rw [HRES.out]
    exact ⟨_, rfl, RdRow.of_own (World.ownsRow_nil _ 0 tInt 1), H.out.mono HST.out (Below.refl _ _).drew⟩
end
end Go.Proofs.YthcicmbkkkhifaaGreatDoor
namespace Go.Proofs.YthcicmbkkkhifaaGreatDoor
open Go.RowKit

section
variable {W w : World} {R : Thing} {k rb : Nat} {S : St} {f : FmD} {ws : List (List UInt8)} {v : Value}
set_option maxRecDepth 100000 in
set_option maxHeartbeats 6400000 in
theorem rAdd_at (h : At W w (Both (RfT k f) (Both (RefT rb S) R))) (hR : Stable R) (hG : GoodS S) (hS : Sealed S) (hO : FOk S f) (hv : ∃ ao cp, v = .slice ao ws.length cp ∧ ws.length ≤ 1099511627776) (hx : ∀ x ∈ ws, x.length ≤ 1099511627776) (hrd : ∀ w', At W w' R → RdRow w' v ws.length 1 (strs ws)) :
    Calls Tryz.prog 15 #[.pointer (some ⟨rb, 0, none⟩), .pointer (some ⟨k, 0, none⟩), v] w fun e w' => e = .returned (.int .i64 (addP S f ws).2.2) ∧ At W w' (Both (RfT k (addP S f ws).2.1) (Both (RefT rb (addP S f ws).1) R)) := by
  obtain ⟨av, cv, rfl, hlen⟩ := hv
  have H := Lib.hid h
  have HR := Lib.hid hR
  have HRD := Lib.hid hrd
  have HX := Lib.hid hx
  obtain ⟨hv0, mv0, hh0⟩ := h.rf
  obtain ⟨_, _, _, c3, _, hlk⟩ := hh0.rfF
  obtain ⟨res, hres⟩ : ∃ res, res = addP S f ws := ⟨_, rfl⟩
  rw [← hres]
  unfold addP at hres
  by_cases hd : f.dead = 0
  · rw [if_neg (by simpa using hd)] at hres
    have hdz : ((f.dead : Int) != 0) = false := by simp [hd]
    have HG := Lib.hid hG
    have HSE := Lib.hid hS
    have HO := Lib.hid hO
    have HD := Lib.hid hd
    by_cases hfit : fits ws = false
    · rw [if_pos hfit] at hres
      have HRES := Lib.hid hres
      have HFI := Lib.hid hfit
      clear h hh0 hR hG hS hO hrd hx hres hfit hd
      go_enter Tryz.func15, Tryz.ntmps15
      (repeat' (first | (go_big_may; fail) | go_values | go_skip | go_guarded | go_step | go_upon | go_back | dsimp only))
      go_loopw [7] (fun vi wr => ∃ (i : Nat), vi = .int .i64 i ∧ i ≤ ws.length ∧ (∀ (j : Nat) x, j < i → ws[j]? = some x → x.length ≤ 255) ∧ At W wr (Both (RfT k f) (Both (RefT rb S) R))) (fun vi _ => ws.length - (intOf vi).toNat)
      case atStart => exact ⟨0, rfl, Nat.zero_le _, fun j x hj => absurd hj (Nat.not_lt_zero _), H.out⟩
      case round =>
        obtain ⟨i, rfl, hi, hsm, h1⟩ := hrel
        have H1 := Lib.hid h1
        have HSM := Lib.hid hsm
        by_cases hlt : i < ws.length
        · obtain ⟨x, hxx⟩ : ∃ x, ws[i]? = some x := ⟨_, List.getElem?_eq_getElem hlt⟩
          obtain ⟨gb, off, cap', hsl, hcell⟩ := (HRD.out _ h1.drop.drop).str hxx
          simp only [Value.slice.injEq] at hsl
          obtain ⟨hao, _, hcv⟩ := hsl
          subst hao
          subst hcv
          have hxl := HX.out x (List.mem_of_getElem? hxx)
          have hi0 : (0 : Int) ≤ i := by omega
          have hi1 : (i : Int) < ws.length := by omega
          have hwr : IntKind.i64.wrap ((i : Int) + 1) = ((i + 1 : Nat) : Int) := by rw [IntKind.wrap_i64] <;> omega
          by_cases hbig : 255 < x.length
          · have hb1 : (255 : Int) < x.length := by omega
            clear h1 hsm hxx
            (repeat' (first | (go_big_may; fail) | go_values | go_skip | go_guarded | go_step | go_upon | go_back | dsimp only))
            go_ret
            rw [HRES.out]
            exact ⟨rfl, H1.out⟩
          · have hb1 : ¬ (255 : Int) < x.length := by omega
            have HXX := Lib.hid hxx
            have HBG := Lib.hid hbig
            clear h1 hsm hxx hbig
            (repeat' (first | (go_big_may; fail) | go_values | go_skip | go_guarded | go_step | go_upon | go_back | dsimp only))
            go_roundw
            case rel => exact ⟨i + 1, rfl, hlt, fun j y hj hy => by
              rcases Nat.lt_or_ge j i with h2 | h2
              · exact HSM.out j y h2 hy
              · have : j = i := by omega
                subst this
                rw [HXX.out] at hy
                cases hy
                have := HBG.out
                omega, H1.out⟩
            case measure => simp [intOf]; omega
        · exfalso
          obtain ⟨j, x, hj, hbx⟩ := fits_no HFI.out
          have h2 := (List.getElem?_eq_some_iff.1 hj).1
          have := hsm j x (by omega) hj
          omega
    · have hft : fits ws = true := by simpa using hfit
      rw [if_neg hfit] at hres
      have HRES := Lib.hid hres
      have HFI := Lib.hid hft
      clear h hh0 hR hG hS hO hrd hx hres hfit hft hd
      go_enter Tryz.func15, Tryz.ntmps15
      (repeat' (first | (go_big_may; fail) | go_values | go_skip | go_guarded | go_step | go_upon | go_back | dsimp only))
      go_loopw [7] (fun vi wr => ∃ (i : Nat), vi = .int .i64 i ∧ i ≤ ws.length ∧ At W wr (Both (RfT k f) (Both (RefT rb S) R))) (fun vi _ => ws.length - (intOf vi).toNat)
      case atStart => exact ⟨0, rfl, Nat.zero_le _, H.out⟩
      case round =>
        obtain ⟨i, rfl, hi, h1⟩ := hrel
        have H1 := Lib.hid h1
        by_cases hlt : i < ws.length
        · obtain ⟨x, hxx⟩ : ∃ x, ws[i]? = some x := ⟨_, List.getElem?_eq_getElem hlt⟩
          obtain ⟨gb, off, cap', hsl, hcell⟩ := (HRD.out _ h1.drop.drop).str hxx
          simp only [Value.slice.injEq] at hsl
          obtain ⟨hao, _, hcv⟩ := hsl
          subst hao
          subst hcv
          have hxl := fits_at HFI.out hxx
          have hi0 : (0 : Int) ≤ i := by omega
          have hi1 : (i : Int) < ws.length := by omega
          have hwr : IntKind.i64.wrap ((i : Int) + 1) = ((i + 1 : Nat) : Int) := by rw [IntKind.wrap_i64] <;> omega
          have hb1 : ¬ (255 : Int) < x.length := by omega
          clear h1 hxx hxl
          (repeat' (first | (go_big_may; fail) | go_values | go_skip | go_guarded | go_step | go_upon | go_back | dsimp only))
          go_roundw
          case rel => exact ⟨i + 1, rfl, hlt, H1.out⟩
          case measure => simp [intOf]; omega
        · have hi1 : ¬ (i : Int) < ws.length := by omega
          clear h1
          (repeat' (first | (go_big_may; fail) | go_values | go_skip | go_guarded | go_step | go_upon | go_back | dsimp only))
          go_loopw [8] (fun vi wr => ∃ (i : Nat) (S1 : St) (f1 : FmD), vi = .int .i64 i ∧ i ≤ ws.length ∧ GoodS S1 ∧ Sealed S1 ∧ FOk S1 f1 ∧ f1.dead = 0 ∧ res = addL S1 f1 (ws.drop i) ∧ At W wr (Both (RfT k f1) (Both (RefT rb S1) R))) (fun vi _ => ws.length - (intOf vi).toNat)
          case atStart => exact ⟨0, S, f, rfl, Nat.zero_le _, HG.out, HSE.out, HO.out, HD.out, HRES.out, H1.out⟩
          case round =>
            obtain ⟨i, S1, f1, rfl, hi, hg1, hs1, ho1, hd1, hr1, h1⟩ := hrel
            clear HRES H1 H HG HSE HO HD
            have HG1 := Lib.hid hg1
            have HS1 := Lib.hid hs1
            have HO1 := Lib.hid ho1
            have HD1 := Lib.hid hd1
            by_cases hlt : i < ws.length
            · obtain ⟨x, hxx⟩ : ∃ x, ws[i]? = some x := ⟨_, List.getElem?_eq_getElem hlt⟩
              obtain ⟨gb, off, cap', hsl, hcell⟩ := (HRD.out _ h1.drop.drop).str hxx
              simp only [Value.slice.injEq] at hsl
              obtain ⟨hao, _, hcv⟩ := hsl
              subst hao
              subst hcv
              have hdr : ws.drop i = x :: ws.drop (i + 1) := by
                obtain ⟨h1, h2⟩ := List.getElem?_eq_some_iff.1 hxx
                rw [List.drop_eq_getElem_cons h1, h2]
              rw [hdr, addL_cons] at hr1
              have hxl := fits_at HFI.out hxx
              have hfx : fits (f1.held ++ [x]) = true := fits_append.2 ⟨ho1.fit, by simp [fits, hxl]⟩
              have HFX := Lib.hid hfx
              have hless := ho1.less hd1
              have hmost := ho1.most
              have hi0 : (0 : Int) ≤ i := by omega
              have hi1 : (i : Int) < ws.length := by omega
              have hwr : IntKind.i64.wrap ((i : Int) + 1) = ((i + 1 : Nat) : Int) := by rw [IntKind.wrap_i64] <;> omega
              obtain ⟨hv, mv, h1⟩ := h1.rf
              have h2 := h1.perm (show _ = Both (CellT k (rfCells f1 hv mv) tRf) (Both (RowG tSx 1 hv f1.held.length (strs f1.held)) (Both (RowT mv (mz f1.made)) (Both (RefT rb S1) R))) by unfold RfI; ac_rfl)
              have hSY : Stable (Both (CellT k (rfCells f1 hv mv) tRf) (Both (RowG tSx 1 hv f1.held.length (strs f1.held)) (Both (RowT mv (mz f1.made)) (Both (RefT rb S1) R)))) := (CellT.stable _ _ _).both ((RowG.stable _ _ _ _ _).both ((RowT.stable _ _).both ((RefT.stable _ _).both HR.out)))
              have hSX : Stable (Both (CellT k (rfCells f1 hv mv) tRf) (Both (RowT mv (mz f1.made)) (Both (RefT rb S1) R))) := (CellT.stable _ _ _).both ((RowT.stable _ _).both ((RefT.stable _ _).both HR.out))
              have c0 := cell_at h2.cell.1 0
              have lk := lt_of_heap h2.cell.1
              simp only [List.getElem?_toArray, List.getElem?_cons_zero, List.getElem?_cons_succ] at c0
              have H15 := Lib.hid h2
              have hS9 : wr.drew.cell? ⟨k, 0, none⟩ = some hv ∧ wr.drew.cell? ⟨gb, off + i, none⟩ = some (.string ⟨x.toArray⟩) := ⟨c0, hcell⟩
              clear h1 h2 hxx hdr hxl hfx hg1 hs1 ho1 hd1
              (repeat' (first | (go_big_may; fail) | go_values | go_skip | go_guarded | go_step | go_upon | go_back | dsimp only))
              refine wp_only ?_
              rename_i K13 hK13
              have HK13 := Lib.hid hK13
              clear hK13
              refine wpL.start (fun l wx => (l.getD 13 true = false → wx.cell? ⟨k, 0, none⟩ = some hv) ∧ (l.getD 9 true = false → wx.cell? ⟨gb, off + i, none⟩ = some (.string ⟨x.toArray⟩))) (by kernel_rfl) ⟨fun _ => hS9.1, fun _ => hS9.2⟩ (fun hHeld => ?_)
              refine wpL.take (i := 0) (v := ?_) rfl (by kernel_rfl) (by kernel_rfl) (by kernel_rfl) (fun _ _ _ h => h) (fun l w => by (try dsimp only); rw [getD_set_ne true (show 0 ≠ 13 by decide), getD_set_ne true (show 0 ≠ 9 by decide)]) (Or.inl ⟨by rfl, ?_⟩) hHeld (fun hH2 => ?_)
              rotate_left
              next => (intro w hSw; go_simp; (try with_reducible rfl))
              clear hHeld
              have hHeld := hH2
              clear hH2
              (try simp only [List.getElem_toArray, List.getElem_cons_zero, List.getElem_cons_succ, Act.put, List.setIfInBounds_toArray, List.set_cons_zero, List.set_cons_succ])
              refine wpL.take (i := 1) (v := ?_) rfl (by kernel_rfl) (by kernel_rfl) (by kernel_rfl) (fun _ _ _ h => h) (fun l w => by (try dsimp only); rw [getD_set_ne true (show 1 ≠ 13 by decide), getD_set_ne true (show 1 ≠ 9 by decide)]) (Or.inl ⟨by rfl, ?_⟩) hHeld (fun hH2 => ?_)
              rotate_left
              next => (intro w hSw; go_simp; (try with_reducible rfl))
              clear hHeld
              have hHeld := hH2
              clear hH2
              (try simp only [List.getElem_toArray, List.getElem_cons_zero, List.getElem_cons_succ, Act.put, List.setIfInBounds_toArray, List.set_cons_zero, List.set_cons_succ])
              refine wpL.take (i := 2) (v := ?_) rfl (by kernel_rfl) (by kernel_rfl) (by kernel_rfl) (fun _ _ _ h => h) (fun l w => by (try dsimp only); rw [getD_set_ne true (show 2 ≠ 13 by decide), getD_set_ne true (show 2 ≠ 9 by decide)]) (Or.inl ⟨by rfl, ?_⟩) hHeld (fun hH2 => ?_)
              rotate_left
              next => (intro w hSw; go_simp; (try with_reducible rfl))
              clear hHeld
              have hHeld := hH2
              clear hH2
              (try simp only [List.getElem_toArray, List.getElem_cons_zero, List.getElem_cons_succ, Act.put, List.setIfInBounds_toArray, List.set_cons_zero, List.set_cons_succ])
              refine wpL.take (i := 3) (v := ?_) rfl (by kernel_rfl) (by kernel_rfl) (by kernel_rfl) (fun _ _ _ h => h) (fun l w => by (try dsimp only); rw [getD_set_ne true (show 3 ≠ 13 by decide), getD_set_ne true (show 3 ≠ 9 by decide)]) (Or.inl ⟨by rfl, ?_⟩) hHeld (fun hH2 => ?_)
              rotate_left
              next => (intro w hSw; go_simp; (try with_reducible rfl))
              clear hHeld
              have hHeld := hH2
              clear hH2
              (try simp only [List.getElem_toArray, List.getElem_cons_zero, List.getElem_cons_succ, Act.put, List.setIfInBounds_toArray, List.set_cons_zero, List.set_cons_succ])
              refine wpL.takeG (i := 4) (g := 13) (v := ?_) (T := fun wx => wx.cell? ⟨k, 0, none⟩ = some (hv)) rfl rfl (by kernel_rfl) (by kernel_rfl) (by kernel_rfl) (by kernel_rfl) (by kernel_rfl) (fun _ _ _ h => h) (fun l w hl hS => hS.1 hl) (fun l w => by (try dsimp only); rw [getD_set_ne true (show 4 ≠ 13 by decide), getD_set_ne true (show 4 ≠ 9 by decide)]) (Or.inl ⟨by rfl, ?_⟩) hHeld (fun hH2 => ?_)
              rotate_left
              next => (intro w hSw; (try dsimp only at hSw); go_simp; (try with_reducible rfl))
              clear hHeld
              have hHeld := hH2
              clear hH2
              (try simp only [List.getElem_toArray, List.getElem_cons_zero, List.getElem_cons_succ, Act.put, List.setIfInBounds_toArray, List.set_cons_zero, List.set_cons_succ])
              refine wpL.take (i := 5) (v := ?_) rfl (by kernel_rfl) (by kernel_rfl) (by kernel_rfl) (fun _ _ _ h => h) (fun l w => by (try dsimp only); rw [getD_set_ne true (show 5 ≠ 13 by decide), getD_set_ne true (show 5 ≠ 9 by decide)]) (Or.inl ⟨by rfl, ?_⟩) hHeld (fun hH2 => ?_)
              rotate_left
              next => (intro w hSw; go_simp; (try with_reducible rfl))
              clear hHeld
              have hHeld := hH2
              clear hH2
              (try simp only [List.getElem_toArray, List.getElem_cons_zero, List.getElem_cons_succ, Act.put, List.setIfInBounds_toArray, List.set_cons_zero, List.set_cons_succ])
              refine wpL.take (i := 6) (v := ?_) rfl (by kernel_rfl) (by kernel_rfl) (by kernel_rfl) (fun _ _ _ h => h) (fun l w => by (try dsimp only); rw [getD_set_ne true (show 6 ≠ 13 by decide), getD_set_ne true (show 6 ≠ 9 by decide)]) (Or.inl ⟨by rfl, ?_⟩) hHeld (fun hH2 => ?_)
              rotate_left
              next => (intro w hSw; go_simp; (try with_reducible rfl))
              clear hHeld
              have hHeld := hH2
              clear hH2
              (try simp only [List.getElem_toArray, List.getElem_cons_zero, List.getElem_cons_succ, Act.put, List.setIfInBounds_toArray, List.set_cons_zero, List.set_cons_succ])
              refine wpL.take (i := 7) (v := ?_) rfl (by kernel_rfl) (by kernel_rfl) (by kernel_rfl) (fun _ _ _ h => h) (fun l w => by (try dsimp only); rw [getD_set_ne true (show 7 ≠ 13 by decide), getD_set_ne true (show 7 ≠ 9 by decide)]) (Or.inl ⟨by rfl, ?_⟩) hHeld (fun hH2 => ?_)
              rotate_left
              next => (intro w hSw; go_simp; (try with_reducible rfl))
              clear hHeld
              have hHeld := hH2
              clear hH2
              (try simp only [List.getElem_toArray, List.getElem_cons_zero, List.getElem_cons_succ, Act.put, List.setIfInBounds_toArray, List.set_cons_zero, List.set_cons_succ])
              refine wpL.takeG (i := 8) (g := 9) (v := ?_) (T := fun wx => wx.cell? ⟨gb, off + i, none⟩ = some (.string ⟨x.toArray⟩)) rfl rfl (by kernel_rfl) (by kernel_rfl) (by kernel_rfl) (by kernel_rfl) (by kernel_rfl) (fun _ _ _ h => h) (fun l w hl hS => hS.2 hl) (fun l w => by (try dsimp only); rw [getD_set_ne true (show 8 ≠ 13 by decide), getD_set_ne true (show 8 ≠ 9 by decide)]) (Or.inl ⟨by rfl, ?_⟩) hHeld (fun hH2 => ?_)
              rotate_left
              next => (intro w hSw; (try dsimp only at hSw); go_simp; (try with_reducible rfl))
              clear hHeld
              have hHeld := hH2
              clear hH2
              (try simp only [List.getElem_toArray, List.getElem_cons_zero, List.getElem_cons_succ, Act.put, List.setIfInBounds_toArray, List.set_cons_zero, List.set_cons_succ])
              refine wpL.ready (rs := [9]) (by kernel_rfl) (by simp) ?_
              refine AllL.cons rfl (fun K hK => ?_) AllL.nil
              go_simp
              refine hK.out _ _ ?_ (fun hH2 => ?_)
              next =>
                (try dsimp only)
                refine ⟨fun hl => ?_, fun hl => ?_⟩
                · first | (exact lNo hl (by decide +kernel)) | exact hS9.1 | exact cell_oldA hS9.1 | exact t0
                · first | (exact lNo hl (by decide +kernel)) | exact hS9.2 | exact cell_oldA hS9.2
              clear hK K hHeld
              have hHeld := hH2
              clear hH2
              (try simp only [List.getElem_toArray, List.getElem_cons_zero, List.getElem_cons_succ, Act.put, List.setIfInBounds_toArray, List.set_cons_zero, List.set_cons_succ])
              refine wpL.ready (rs := [10]) (by kernel_rfl) (by simp) ?_
              refine AllL.cons rfl (fun K hK => ?_) AllL.nil
              refine step_append_ex rfl _ _ 22 rfl hv _ rfl rfl (append_cell_run (R := Both (CellT k (rfCells f1 hv mv) tRf) (Both (RowT mv (mz f1.made)) (Both (RefT rb S1) R))) (xs := strs f1.held) (u := .string ⟨x.toArray⟩) 22 22 tSx Tryz.underlying22 info_Sx rfl (((H15.out.drew hSY).alloc hSY _).perm (by ac_rfl)) hSX (by exact cell_new _ _ _) rfl (by unfold maxLen; omega) (by omega)) ?_
              rintro ao1 cp1 w10 ⟨h10, hu10⟩
              have hstr : strs f1.held ++ [Value.string ⟨x.toArray⟩] = strs (f1.held ++ [x]) := by simp [strs]
              rw [hstr] at h10
              have h11 := h10.perm (show _ = Both (CellT k (rfCells f1 hv mv) tRf) (Both (RowG tSx 1 (.slice ao1 (f1.held.length + 1) cp1) (f1.held.length + 1) (strs (f1.held ++ [x]))) (Both (RowT mv (mz f1.made)) (Both (RefT rb S1) R))) by ac_rfl)
              have hSZ : Stable (Both (RowG tSx 1 (.slice ao1 (f1.held.length + 1) cp1) (f1.held.length + 1) (strs (f1.held ++ [x]))) (Both (RowT mv (mz f1.made)) (Both (RefT rb S1) R))) := (RowG.stable _ _ _ _ _).both ((RowT.stable _ _).both ((RefT.stable _ _).both HR.out))
              have t0 := cell_at h11.cell.1 0
              have tz := thaw_at h11.cell.1
              have tl := lt_of_heap h11.cell.1
              have h12 : At W _ (Both (CellT k (rfCells { f1 with held := f1.held ++ [x] } (.slice ao1 (f1.held.length + 1) cp1) mv) tRf) (Both (RowG tSx 1 (.slice ao1 (f1.held.length + 1) cp1) (f1.held.length + 1) (strs (f1.held ++ [x]))) (Both (RowT mv (mz f1.made)) (Both (RefT rb S1) R)))) := h11.setCell hSZ 0 (.slice ao1 (f1.held.length + 1) cp1)
              have hll : f1.held.length + 1 = (f1.held ++ [x]).length := by simp
              have h13 : At W _ (Both (RfI k { f1 with held := f1.held ++ [x] } (.slice ao1 (f1.held.length + 1) cp1) mv) (Both (RefT rb S1) R)) := h12.perm (by unfold RfI; rw [← hll]; ac_rfl)
              have H13 := Lib.hid h13
              simp only [List.getElem?_toArray, List.getElem?_cons_zero, List.getElem?_cons_succ] at t0
              clear h10 h11 h12 h13 hSZ hu10 H15 hSX hSY hS9 hstr hll c0 lk
              refine hK.out _ _ ?_ (fun hH2 => ?_)
              next =>
                (try dsimp only)
                refine ⟨fun hl => ?_, fun hl => ?_⟩
                · first | (exact lNo hl (by decide +kernel)) | exact hS9.1 | exact cell_oldA hS9.1 | exact t0
                · first | (exact lNo hl (by decide +kernel)) | exact hS9.2 | exact cell_oldA hS9.2
              clear hK K hHeld
              have hHeld := hH2
              clear hH2
              (try simp only [List.getElem_toArray, List.getElem_cons_zero, List.getElem_cons_succ, Act.put, List.setIfInBounds_toArray, List.set_cons_zero, List.set_cons_succ])
              refine wpL.ready (rs := [11]) (by kernel_rfl) (by simp) ?_
              refine AllL.cons rfl (fun K hK => ?_) AllL.nil
              go_simp
              refine hK.out _ _ ?_ (fun hH2 => ?_)
              next =>
                (try dsimp only)
                refine ⟨fun hl => ?_, fun hl => ?_⟩
                · first | (exact lNo hl (by decide +kernel)) | exact hS9.1 | exact cell_oldA hS9.1 | exact t0
                · first | (exact lNo hl (by decide +kernel)) | exact hS9.2 | exact cell_oldA hS9.2
              clear hK K hHeld
              have hHeld := hH2
              clear hH2
              (try simp only [List.getElem_toArray, List.getElem_cons_zero, List.getElem_cons_succ, Act.put, List.setIfInBounds_toArray, List.set_cons_zero, List.set_cons_succ])
              refine wpL.ready (rs := [12]) (by kernel_rfl) (by simp) ?_
              refine AllL.cons rfl (fun K hK => ?_) AllL.nil
              go_simp
              refine hK.out _ _ ?_ (fun hH2 => ?_)
              next =>
                (try dsimp only)
                refine ⟨fun hl => ?_, fun hl => ?_⟩
                · first | (exact lNo hl (by decide +kernel)) | exact hS9.1 | exact cell_oldA hS9.1 | exact t0
                · first | (exact lNo hl (by decide +kernel)) | exact hS9.2 | exact cell_oldA hS9.2
              clear hK K hHeld
              have hHeld := hH2
              clear hH2
              (try simp only [List.getElem_toArray, List.getElem_cons_zero, List.getElem_cons_succ, Act.put, List.setIfInBounds_toArray, List.set_cons_zero, List.set_cons_succ])
              refine wpL.ready (rs := [13]) (by kernel_rfl) (by simp) ?_
              refine AllL.cons rfl (fun K hK => ?_) AllL.nil
              go_simp
              refine hK.out _ _ ?_ (fun hH2 => ?_)
              next =>
                (try dsimp only)
                refine ⟨fun hl => ?_, fun hl => ?_⟩
                · first | (exact lNo hl (by decide +kernel)) | exact hS9.1 | exact cell_oldA hS9.1 | exact t0
                · first | (exact lNo hl (by decide +kernel)) | exact hS9.2 | exact cell_oldA hS9.2
              clear hK K hHeld
              have hHeld := hH2
              clear hH2
              (try simp only [List.getElem_toArray, List.getElem_cons_zero, List.getElem_cons_succ, Act.put, List.setIfInBounds_toArray, List.set_cons_zero, List.set_cons_succ])
              refine wpL.done (by kernel_rfl) ?_ _
              refine HK13.out _ _ ?_
              generalize World.setCell _ (⟨k, 0, none⟩ : Addr) _ = w4 at *
              clear hHeld t0 tz tl
              obtain ⟨g1, g2, _, _, _, gl⟩ := H13.out.rfF
              have H5 := Lib.hid (At.toRf (f := { f1 with held := f1.held ++ [x] }) H13.out)
              clear H13
              generalize hn1 : f1.held.length + 1 = n1 at *
              dsimp only at g2
              by_cases hm : f1.most ≤ n1
              · have hqq : (f1.most : Int) ≤ (n1 : Int) := by omega
                rw [if_pos hm] at hr1
                have hwc := fun (w' : World) (hb : Below w4.heap.size w4 w') => rwrite_at (H5.out.mono ((RfT.stable _ _).both ((RefT.stable _ _).both HR.out)) hb) HR.out HG1.out HFX.out (by show (f1.held ++ [x]).length ≤ _; simp; omega) HO1.out.made HO1.out.few
                obtain ⟨k1, k2, k3, k4, k5, k6⟩ := fwrite_keep (f := { f1 with held := f1.held ++ [x] }) HG1.out HS1.out HO1.out.most HFX.out HD1.out HO1.out.made HO1.out.few
                generalize fwriteP S1 { f1 with held := f1.held ++ [x] } = P at *
                by_cases hz : P.2.2 = 0
                · rw [if_pos hz] at hr1
                  rw [hz] at hwc
                  have HWC := Lib.hid hwc
                  have HK := Lib.hid k1
                  have HK2 := Lib.hid (k2.trans hz)
                  have HRR := Lib.hid hr1
                  clear hwc k1 k2 k3 k4 k5 k6 hr1 hn1 hz hm
                  (repeat' (first | (go_big_may; fail) | go_values | go_skip | go_guarded | go_step | go_upon | go_back | dsimp only))
                  (refine region_still_tail 9 (by kernel_rfl) (by kernel_rfl) ?_; simp only [List.take_succ_cons, List.take_zero, List.drop_succ_cons, List.drop_zero]; (iterate 9 (first | ((with_reducible refine still_plain ?_ rfl ?_ ?_); rotate_left; (next => (go_simp; (try with_reducible rfl))); simp only [Act.put, List.setIfInBounds_toArray, List.set_cons_zero, List.set_cons_succ]) | ((with_reducible refine still_skip ?_ ?_); (next => (go_simp; done)); simp only [Act.put, List.setIfInBounds_toArray, List.set_cons_zero, List.set_cons_succ]) | ((with_reducible refine still_val ?_ ?_ ?_ ?_); rotate_left; (next => (go_simp; done)); (next => (go_simp; (try with_reducible rfl))); simp only [Act.put, List.setIfInBounds_toArray, List.set_cons_zero, List.set_cons_succ]))); (with_reducible refine wpStill_nil ?_))
                  (repeat' (first | (go_big_may; fail) | go_values | go_skip | go_guarded | go_step | go_upon | go_back | dsimp only))
                  refine (HWC.out _ (Below.refl _ _).drew).mono ?_
                  rintro e w6 ⟨rfl, h6⟩
                  have H6 := Lib.hid h6
                  clear h6 HWC
                  (repeat' (first | (go_big_may; fail) | go_values | go_skip | go_guarded | go_step | go_upon | go_back | dsimp only))
                  go_roundw
                  case rel => exact ⟨i + 1, P.1, P.2.1, rfl, hlt, HK.out.good, HK.out.seal_, HK.out.ok, HK2.out, HRR.out, H6.out⟩
                  case measure => simp [intOf]; omega
                · rw [if_neg hz] at hr1
                  have hz9 : ((P.2.2 : Int) != 0) = true := by simp; omega
                  have HWC := Lib.hid hwc
                  have HRR := Lib.hid hr1
                  clear hwc k1 k2 k3 k4 k5 k6 hr1 hn1 hz hm
                  (repeat' (first | (go_big_may; fail) | go_values | go_skip | go_guarded | go_step | go_upon | go_back | dsimp only))
                  (refine region_still_tail 9 (by kernel_rfl) (by kernel_rfl) ?_; simp only [List.take_succ_cons, List.take_zero, List.drop_succ_cons, List.drop_zero]; (iterate 9 (first | ((with_reducible refine still_plain ?_ rfl ?_ ?_); rotate_left; (next => (go_simp; (try with_reducible rfl))); simp only [Act.put, List.setIfInBounds_toArray, List.set_cons_zero, List.set_cons_succ]) | ((with_reducible refine still_skip ?_ ?_); (next => (go_simp; done)); simp only [Act.put, List.setIfInBounds_toArray, List.set_cons_zero, List.set_cons_succ]) | ((with_reducible refine still_val ?_ ?_ ?_ ?_); rotate_left; (next => (go_simp; done)); (next => (go_simp; (try with_reducible rfl))); simp only [Act.put, List.setIfInBounds_toArray, List.set_cons_zero, List.set_cons_succ]))); (with_reducible refine wpStill_nil ?_))
                  (repeat' (first | (go_big_may; fail) | go_values | go_skip | go_guarded | go_step | go_upon | go_back | dsimp only))
                  refine (HWC.out _ (Below.refl _ _).drew).mono ?_
                  rintro e w6 ⟨rfl, h6⟩
                  have H6 := Lib.hid h6
                  clear h6 HWC
                  (repeat' (first | (go_big_may; fail) | go_values | go_skip | go_guarded | go_step | go_upon | go_back | dsimp only))
                  go_ret
                  rw [HRR.out]
                  exact ⟨rfl, H6.out⟩
              · have hqq : ¬ (f1.most : Int) ≤ (n1 : Int) := by omega
                rw [if_neg hm] at hr1
                have HRR := Lib.hid hr1
                have HM := Lib.hid hm
                have HN1 := Lib.hid hn1
                clear hr1 hn1 hm
                (repeat' (first | (go_big_may; fail) | go_values | go_skip | go_guarded | go_step | go_upon | go_back | dsimp only))
                (refine region_still_tail 9 (by kernel_rfl) (by kernel_rfl) ?_; simp only [List.take_succ_cons, List.take_zero, List.drop_succ_cons, List.drop_zero]; (iterate 9 (first | ((with_reducible refine still_plain ?_ rfl ?_ ?_); rotate_left; (next => (go_simp; (try with_reducible rfl))); simp only [Act.put, List.setIfInBounds_toArray, List.set_cons_zero, List.set_cons_succ]) | ((with_reducible refine still_skip ?_ ?_); (next => (go_simp; done)); simp only [Act.put, List.setIfInBounds_toArray, List.set_cons_zero, List.set_cons_succ]) | ((with_reducible refine still_val ?_ ?_ ?_ ?_); rotate_left; (next => (go_simp; done)); (next => (go_simp; (try with_reducible rfl))); simp only [Act.put, List.setIfInBounds_toArray, List.set_cons_zero, List.set_cons_succ]))); (with_reducible refine wpStill_nil ?_))
                (repeat' (first | (go_big_may; fail) | go_values | go_skip | go_guarded | go_step | go_upon | go_back | dsimp only))
                go_roundw
                case rel => exact ⟨i + 1, S1, { f1 with held := f1.held ++ [x] }, rfl, hlt, HG1.out, HS1.out, ⟨HO1.out.most, fun _ => by show (f1.held ++ [x]).length < f1.most; have := HM.out; have := HN1.out; simp; omega, HFX.out, HO1.out.code, HO1.out.made, HO1.out.few⟩, HD1.out, HRR.out, H5.out.mono ((RfT.stable _ _).both ((RefT.stable _ _).both HR.out)) (Below.refl _ _).drew⟩
                case measure => simp [intOf]; omega
            · have hi1 : ¬ (i : Int) < ws.length := by omega
              have hdn : ws.drop i = [] := List.drop_eq_nil_of_le (by omega)
              rw [hdn, addL_nil] at hr1
              have HRR := Lib.hid hr1
              have H1 := Lib.hid h1
              clear h1 hr1 hdn hg1 hs1 ho1 hd1
              (repeat' (first | (go_big_may; fail) | go_values | go_skip | go_guarded | go_step | go_upon | go_back | dsimp only))
              go_ret
              rw [HRR.out]
              exact ⟨rfl, H1.out⟩
  · rw [if_pos hd] at hres
    have hdz : ((f.dead : Int) != 0) = true := by simp; omega
    have HRES := Lib.hid hres
    clear h hh0 hR hG hS hO hrd hx hres hd
    go_enter Tryz.func15, Tryz.ntmps15
    (repeat' (first | (go_big_may; fail) | go_values | go_skip | go_guarded | go_step | go_upon | go_back | dsimp only))
    go_ret
    rw [HRES.out]
    exact ⟨rfl, H.out⟩
end
end Go.Proofs.YthcicmbkkkhifaaGreatDoor
namespace Go.Proofs.YthcicmbkkkhifaaGreatDoor
open Go.RowKit

def okB (c : Nat) : Prop := c = 0 ∨ c = 7 ∨ c = 8 ∨ c = 9 ∨ c = 10 ∨ c = 13
theorem okB_zero : okB 0 := .inl rfl
section
variable {S0 S : St} {r : Nat} {t : List UInt8}
theorem TopOpen.appendC (h : TopOpen S0 S r t) (s : List UInt8) : (appendP S r s).2 = 0 ∨ (appendP S r s).2 = 7 ∨ (appendP S r s).2 = 9 := by
  unfold appendP withRun
  rw [h.find]
  dsimp only
  split
  · exact .inr (.inr rfl)
  · split
    · rename_i h; cases h
    · split
      · exact .inr (.inl rfl)
      · exact .inl rfl
theorem TopOpen.sealC (h : TopOpen S0 S r t) : (sealP S r).2 = 0 ∨ (sealP S r).2 = 9 := by
  unfold sealP withRun
  rw [h.find]
  dsimp only
  split
  · exact .inr rfl
  · split
    · rename_i h; cases h
    · exact .inl rfl
theorem flushP_codeB {x : WrD} (h : TopOpen S0 S r t) (hx : x.run = r) (n : Nat) : okB (flushP S x n).2.2 := by
  unfold flushP
  rw [hx]
  rcases h.appendC (x.buf.take n) with e | e | e
  · rw [if_pos e]; exact okB_zero
  · rw [if_neg (by rw [e]; decide)]; rw [e]; exact .inr (.inl rfl)
  · rw [if_neg (by rw [e]; decide)]; rw [e]; exact .inr (.inr (.inr (.inl rfl)))
theorem putL_codeB : ∀ (n : Nat) {S : St} {t : List UInt8} {x : WrD}, TopOpen S0 S r t → x.run = r → okB (putL n S x).2.2
  | 0, S, t, x, h, hx => okB_zero
  | n + 1, S, t, x, h, hx => by
    unfold putL
    by_cases hge : x.block ≤ x.buf.length
    · rw [if_pos hge]
      rcases flushP_top h hx x.block with ⟨h1, h2, h3⟩ | ⟨h1, h2, h3⟩
      · rw [if_pos h1]
        exact putL_codeB n h2 (by rw [h3]; exact hx)
      · rw [if_neg h1]
        exact flushP_codeB h hx _
    · rw [if_neg hge]
      exact okB_zero
theorem written_codeB (hG : GoodS S) {L : List (List UInt8)} (hL : fits L = true) : okB (writtenP S L).2.2 := by
  unfold writtenP
  by_cases hc : (createP S).2.2 = 0
  · rw [if_neg (by simpa using hc)]
    obtain ⟨h1, _⟩ := create_top hG hc
    obtain ⟨t', g1, g2, g3, g4, g5, g6, g7⟩ := putP_top (x := ⟨(createP S).2.1, 512, [], 0⟩) (L := L) h1 rfl rfl hL
    dsimp only
    have hpc : okB (putP (createP S).1 ⟨(createP S).2.1, 512, [], 0⟩ L).2.2 := by
      unfold putP
      rw [if_neg (by simp), if_neg (by simp [hL])]
      exact putL_codeB _ h1 rfl
    by_cases hp : (putP (createP S).1 ⟨(createP S).2.1, 512, [], 0⟩ L).2.2 = 0
    · rw [if_neg (by simpa using hp)]
      obtain ⟨g8, _⟩ := g4 hp
      have hcc : okB (closeP (putP (createP S).1 ⟨(createP S).2.1, 512, [], 0⟩ L).1 (putP (createP S).1 ⟨(createP S).2.1, 512, [], 0⟩ L).2.1).2.2.2 := by
        generalize (putP (createP S).1 ⟨(createP S).2.1, 512, [], 0⟩ L).1 = S1 at *
        generalize (putP (createP S).1 ⟨(createP S).2.1, 512, [], 0⟩ L).2.1 = x at *
        unfold closeP
        rw [if_neg (by simpa using g8)]
        have hrc : okB (restP S1 x).2.2 := by
          unfold restP
          split
          · exact okB_zero
          · exact flushP_codeB g1 g2 _
        rcases restP_top g1 g2 g8 with ⟨k1, k2, k3⟩ | ⟨k1, _⟩
        · rw [if_neg (by simpa using k1), k3]
          rcases k2.sealC with e | e
          · rw [if_neg (by simpa using e)]; exact okB_zero
          · rw [if_pos (by rw [e]; decide)]; rw [e]; exact .inr (.inr (.inr (.inl rfl)))
        · rw [if_pos k1]
          exact hrc
      split
      · exact hcc
      · exact okB_zero
    · rw [if_pos hp]
      exact hpc
  · rw [if_pos hc]
    show okB (createP S).2.2
    unfold createP
    split
    · exact .inr (.inr (.inr (.inl rfl)))
    · split
      · exact .inr (.inr (.inl rfl))
      · exact okB_zero
end
section
variable {S : St} {f : FmD}
theorem fwrite_codeB (hG : GoodS S) (hf : fits f.held = true) (hd : f.dead = 0) : okB (fwriteP S f).2.2 ∧ okB (fwriteP S f).2.1.dead := by
  have h := written_codeB hG (fits_ofL hf)
  unfold fwriteP
  split
  · exact ⟨okB_zero, by show okB f.dead; rw [hd]; exact okB_zero⟩
  · exact ⟨h, h⟩
theorem addL_codeB : ∀ (ws : List (List UInt8)) {S : St} {f : FmD}, GoodS S → Sealed S → FOk S f → f.dead = 0 → fits ws = true → okB (addL S f ws).2.2 ∧ okB (addL S f ws).2.1.dead
  | [], S, f, _, _, _, hd, _ => ⟨okB_zero, by show okB f.dead; rw [hd]; exact okB_zero⟩
  | x :: ws, S, f, hG, hs, hF, hd, hw => by
    obtain ⟨hw1, hw2⟩ := fits_cons.1 hw
    have hx : fits (f.held ++ [x]) = true := fits_append.2 ⟨hF.fit, by simp [fits, hw1]⟩
    have hl := hF.less hd
    rw [addL_cons]
    by_cases hm : f.most ≤ f.held.length + 1
    · rw [if_pos hm]
      obtain ⟨h1, h2, h3, h4, h5, h6⟩ := fwrite_keep (f := { f with held := f.held ++ [x] }) hG hs hF.most hx hd hF.made hF.few
      by_cases hc : (fwriteP S { f with held := f.held ++ [x] }).2.2 = 0
      · rw [if_pos hc]
        exact addL_codeB ws h1.good h1.seal_ h1.ok (h2.trans hc) hw2
      · rw [if_neg hc]
        exact fwrite_codeB (f := { f with held := f.held ++ [x] }) hG hx hd
    · rw [if_neg hm]
      exact addL_codeB ws (f := { f with held := f.held ++ [x] }) hG hs ⟨hF.most, fun _ => by show (f.held ++ [x]).length < f.most; simp; omega, hx, hF.code, hF.made, hF.few⟩ hd hw2
theorem addP_codeB (hG : GoodS S) (hs : Sealed S) (hF : FOk S f) (hb : okB f.dead) (ws : List (List UInt8)) : okB (addP S f ws).2.2 ∧ okB (addP S f ws).2.1.dead := by
  unfold addP
  by_cases hd : f.dead = 0
  · rw [if_neg (by simpa using hd)]
    by_cases hw : fits ws = false
    · rw [if_pos hw]
      exact ⟨.inr (.inr (.inr (.inr (.inl rfl)))), hb⟩
    · rw [if_neg hw]
      exact addL_codeB ws hG hs hF hd (by simpa using hw)
  · rw [if_pos hd]
    exact ⟨hb, hb⟩
theorem finishP_codeB (hG : GoodS S) (hF : FOk S f) (hb : okB f.dead) : okB (finishP S f).2.2.2 ∧ okB (finishP S f).2.1.dead := by
  have h13 : okB 13 := .inr (.inr (.inr (.inr (.inr rfl))))
  unfold finishP
  by_cases hd : f.dead = 0
  · rw [if_neg (by simpa using hd)]
    by_cases hh : f.held = []
    · rw [if_pos hh]
      exact ⟨okB_zero, h13⟩
    · rw [if_neg hh]
      have h := fwrite_codeB hG hF.fit hd
      split
      · exact ⟨okB_zero, h13⟩
      · exact h
  · rw [if_pos hd]
    exact ⟨hb, hb⟩
end
set_option maxRecDepth 100000 in
set_option maxHeartbeats 3200000 in
theorem code9_calls {w : World} {ef : Nat → Nat × Nat} (hF : Fails w ef fails13) {c : Nat} (hc : okB c ∨ c = 1 ∨ c = 2) :
    Calls Tryz.prog 16 #[errV ef c] w fun e w' => e = .returned (.int .i64 c) ∧ w = w' := by
  have heq := eql_nil
  by_cases h0 : c = 0
  · subst h0
    clear hF
    rw [errV_zero]
    go_enter Tryz.func16, Tryz.ntmps16
    (repeat' (first | (go_big_may; fail) | go_values | go_skip | go_guarded | go_step | go_upon | go_back | dsimp only))
    go_ret
    exact ⟨rfl, rfl⟩
  · obtain ⟨g, hg, hcs⟩ : ∃ g, (c, g) ∈ fails13 ∧ (c = 1 ∨ c = 2 ∨ c = 7 ∨ c = 8 ∨ c = 9 ∨ c = 10 ∨ c = 13) := by
      rcases hc with (rfl | rfl | rfl | rfl | rfl | rfl) | rfl | rfl
      · exact absurd rfl h0
      · exact ⟨6, by decide, by omega⟩
      · exact ⟨7, by decide, by omega⟩
      · exact ⟨8, by decide, by omega⟩
      · exact ⟨3, by decide, by omega⟩
      · exact ⟨0, by decide, by omega⟩
      · exact ⟨1, by decide, by omega⟩
      · exact ⟨2, by decide, by omega⟩
    have hne : ∀ wz : World, (binOp .eql tErr (.iface tES (.pointer (some ⟨(ef c).1, (ef c).2, none⟩))) .nilIface).run Tryz.prog wz = .ok (.bool false) wz := fun wz => by
      have := eql_errV ef h0 wz
      rwa [errV_pos ef h0] at this
    rw [errV_pos ef h0]
    have q1 := eql_errs hF hg (y := (1, 1)) (by decide)
    have q2 := eql_errs hF hg (y := (2, 2)) (by decide)
    have q3 := eql_errs hF hg (y := (3, 4)) (by decide)
    have q5 := eql_errs hF hg (y := (5, 5)) (by decide)
    have q7 := eql_errs hF hg (y := (7, 6)) (by decide)
    have q8 := eql_errs hF hg (y := (8, 7)) (by decide)
    have q9 := eql_errs hF hg (y := (9, 8)) (by decide)
    have q10 := eql_errs hF hg (y := (10, 3)) (by decide)
    have q12 := eql_errs hF hg (y := (12, 9)) (by decide)
    have q13 := eql_errs hF hg (y := (13, 0)) (by decide)
    have c1 := hF.cell (1, 1) (by decide)
    have c2 := hF.cell (2, 2) (by decide)
    have c3 := hF.cell (3, 4) (by decide)
    have c5 := hF.cell (5, 5) (by decide)
    have c7 := hF.cell (7, 6) (by decide)
    have c8 := hF.cell (8, 7) (by decide)
    have c9 := hF.cell (9, 8) (by decide)
    have c10 := hF.cell (10, 3) (by decide)
    have c12 := hF.cell (12, 9) (by decide)
    have c13 := hF.cell (13, 0) (by decide)
    clear hF hg hc
    generalize (ef c) = ec at *
    rcases hcs with rfl | rfl | rfl | rfl | rfl | rfl | rfl
    all_goals
      clear h0
      simp only [Nat.reduceEqDiff, decide_true, decide_false] at q1 q2 q3 q5 q7 q8 q9 q10 q12 q13
      go_enter Tryz.func16, Tryz.ntmps16
      (repeat' (first | (go_big_may; fail) | go_values | go_skip | go_guarded | go_step | go_upon | go_back | dsimp only))
      go_ret
      exact ⟨rfl, rfl⟩
theorem fails13_12 {W : World} {ef : Nat → Nat × Nat} (h : Fails W ef fails13) : Fails W ef fails12 := h.less (by decide)
end Go.Proofs.YthcicmbkkkhifaaGreatDoor
namespace Go.Proofs.YthcicmbkkkhifaaGreatDoor
open Go.RowKit

theorem withRun_cap {S : St} {z : Int} {f : Nat × RunD → St × Nat} (hf : ∀ p, (f p).1.cap = S.cap) : (withRun S z f).1.cap = S.cap := by
  unfold withRun
  split
  · rfl
  · split
    · rfl
    · split
      · rfl
      · exact hf _
theorem cap_append (S : St) (z : Int) (t : List UInt8) : (appendP S z t).1.cap = S.cap := withRun_cap fun p => by split <;> rfl
theorem cap_seal (S : St) (z : Int) : (sealP S z).1.cap = S.cap := withRun_cap fun _ => rfl
theorem cap_remove (S : St) (z : Int) : (removeP S z).1.cap = S.cap := by
  unfold removeP
  split <;> rfl
theorem cap_create (S : St) : (createP S).1.cap = S.cap := by
  unfold createP
  split
  · rfl
  · split <;> rfl
theorem cap_flush (S : St) (x : WrD) (n : Nat) : (flushP S x n).1.cap = S.cap := by
  unfold flushP
  split <;> exact cap_append _ _ _
theorem cap_putL : ∀ (n : Nat) (S : St) (x : WrD), (putL n S x).1.cap = S.cap
  | 0, _, _ => rfl
  | n + 1, S, x => by
    unfold putL
    split
    · split
      · rw [cap_putL n]; exact cap_flush _ _ _
      · exact cap_flush _ _ _
    · rfl
theorem cap_put (S : St) (x : WrD) (ss : List (List UInt8)) : (putP S x ss).1.cap = S.cap := by
  unfold putP
  split
  · rfl
  · split
    · rfl
    · exact cap_putL _ _ _
theorem cap_rest (S : St) (x : WrD) : (restP S x).1.cap = S.cap := by
  unfold restP
  split
  · rfl
  · exact cap_flush _ _ _
theorem cap_close (S : St) (x : WrD) : (closeP S x).1.cap = S.cap := by
  unfold closeP
  split
  · rfl
  · split
    · exact cap_rest _ _
    · split <;> rw [cap_seal] <;> exact cap_rest _ _
theorem cap_drop (S : St) (x : WrD) : (dropP S x).1.cap = S.cap := by
  unfold dropP
  split
  · rfl
  · exact cap_remove _ _
theorem cap_written (S : St) (L : List (List UInt8)) : (writtenP S L).1.cap = S.cap := by
  unfold writtenP
  split
  · exact cap_create _
  · dsimp only
    split
    · rw [cap_drop, cap_put, cap_create]
    · split
      · rw [cap_drop, cap_close, cap_put, cap_create]
      · show (closeP _ _).1.cap = _
        rw [cap_close, cap_put, cap_create]
theorem cap_gone : ∀ (l : List Nat) (S : St), (goneP S l).cap = S.cap
  | [], _ => rfl
  | n :: l, S => by
    show (goneP (removeP S n).1 l).cap = _
    rw [cap_gone l, cap_remove]
theorem cap_fwrite (S : St) (f : FmD) : (fwriteP S f).1.cap = S.cap := by
  unfold fwriteP
  split
  · exact cap_written _ _
  · show (goneP _ _).cap = _
    rw [cap_gone, cap_written]
theorem cap_addL : ∀ (ws : List (List UInt8)) (S : St) (f : FmD), (addL S f ws).1.cap = S.cap
  | [], _, _ => by rw [addL_nil]
  | x :: ws, S, f => by
    rw [addL_cons]
    split
    · split
      · rw [cap_addL ws, cap_fwrite]
      · exact cap_fwrite _ _
    · exact cap_addL ws _ _
theorem cap_addP (S : St) (f : FmD) (ws : List (List UInt8)) : (addP S f ws).1.cap = S.cap := by
  unfold addP
  split
  · rfl
  · split
    · rfl
    · exact cap_addL _ _ _
theorem cap_finish (S : St) (f : FmD) : (finishP S f).1.cap = S.cap := by
  unfold finishP
  split
  · rfl
  · split
    · rfl
    · split <;> exact cap_fwrite _ _
theorem addP_dead {S : St} {f : FmD} (h : f.dead ≠ 0) (ws : List (List UInt8)) : addP S f ws = (S, f, f.dead) := if_pos h
/-- What the law asks behind Add and Finish of a former in a store of its own. -/
structure LostOf (S : St) (b : Nat) (ws : List (List UInt8)) : Prop where
  good : GoodS (addP S (newF b) ws).1
  seal_ : Sealed (addP S (newF b) ws).1
  fok : FOk (addP S (newF b) ws).1 (addP S (newF b) ws).2.1
  cA : okB (addP S (newF b) ws).2.2
  fin : FKeep (addP S (newF b) ws).1 (finishP (addP S (newF b) ws).1 (addP S (newF b) ws).2.1).1 (addP S (newF b) ws).2.1 (finishP (addP S (newF b) ws).1 (addP S (newF b) ws).2.1).2.1
  cF : okB (finishP (addP S (newF b) ws).1 (addP S (newF b) ws).2.1).2.2.2
  yes : (finishP (addP S (newF b) ws).1 (addP S (newF b) ws).2.1).2.2.2 = 0 → (finishP (addP S (newF b) ws).1 (addP S (newF b) ws).2.1).2.1.dead = 13 ∧ (finishP (addP S (newF b) ws).1 (addP S (newF b) ws).2.1).1.runs.length = (finishP (addP S (newF b) ws).1 (addP S (newF b) ws).2.1).2.2.1.length
  no : (finishP (addP S (newF b) ws).1 (addP S (newF b) ws).2.1).2.2.2 ≠ 0 → (finishP (addP S (newF b) ws).1 (addP S (newF b) ws).2.1).2.1.dead = (finishP (addP S (newF b) ws).1 (addP S (newF b) ws).2.1).2.2.2 ∧
    (finishP (addP S (newF b) ws).1 (addP S (newF b) ws).2.1).1.runs = [] ∧ (finishP (addP S (newF b) ws).1 (addP S (newF b) ws).2.1).2.2.1 = [] ∧ (finishP (addP S (newF b) ws).1 (addP S (newF b) ws).2.1).1.made ≤ ws.length + 1
theorem lostOf {S : St} (hG : GoodS S) (hr : S.runs = []) (hm : S.made = 0) {b : Nat} (hb : 1 ≤ b ∧ b ≤ 65536) {ws : List (List UInt8)} (hw : fits ws = true) : LostOf S b ws := by
  have hS : Sealed S := fun p hp => by rw [hr] at hp; cases hp
  have hF := newF_formed hG hr hm b
  have hO := newF_ok S hb
  have e : addP S (newF b) ws = addL S (newF b) ws := by
    unfold addP
    rw [if_neg (by simp [newF]), if_neg (by simp [hw])]
  have hk := addP_keep hG hS hO ws
  have hcb := addP_codeB hG hS hO okB_zero ws
  have hfk := finishP_keep hk.1.good hk.1.seal_ hk.1.ok
  have hfc := finishP_codeB hk.1.good hk.1.ok hcb.2
  refine ⟨hk.1.good, hk.1.seal_, hk.1.ok, hcb.1, hfk.1, hfc.1, ?_, ?_⟩
  all_goals
    rw [e]
    rcases addL_formed ws hF hb.1 hb.1 rfl rfl hw with ⟨g1, Ms, g2, g3, g4, g5, g6, g7, g8⟩ | ⟨g1, g2, g3, g4, g5, g6⟩
  · intro h0
    rcases finish_formed g2 g7 g3 with ⟨q1, q2, q3, q4, q5, q6⟩ | ⟨q1, _⟩
    · refine ⟨q4, ?_⟩
      rw [q2, q5]
      have := congrArg List.length (runsL_num ([] ++ Ms ++ if (addL S (newF b) ws).2.1.held = [] then [] else [(addL S (newF b) ws).2.1.held]) 1)
      rw [List.length_map] at this
      rw [this]
    · exact absurd h0 q1
  · intro h0
    have hfd : finishP (addL S (newF b) ws).1 (addL S (newF b) ws).2.1 = ((addL S (newF b) ws).1, (addL S (newF b) ws).2.1, [], (addL S (newF b) ws).2.1.dead) := by
      unfold finishP
      rw [if_pos (by rw [g6]; exact g1)]
    rw [hfd] at h0
    exact absurd h0 (by rw [g6]; exact g1)
  · intro h0
    rcases finish_formed g2 g7 g3 with ⟨q1, _⟩ | ⟨q1, q2, q3, q4, q5, q6⟩
    · exact absurd q1 h0
    · exact ⟨q6, q2, q5, by rw [List.nil_append] at q4; omega⟩
  · intro h0
    have hfd : finishP (addL S (newF b) ws).1 (addL S (newF b) ws).2.1 = ((addL S (newF b) ws).1, (addL S (newF b) ws).2.1, [], (addL S (newF b) ws).2.1.dead) := by
      unfold finishP
      rw [if_pos (by rw [g6]; exact g1)]
    rw [hfd]
    exact ⟨rfl, g2, rfl, by simp at g4; dsimp only; omega⟩
theorem ofL_z : ofL [[122]] = [[122]] := ofL_one _
/-- Another former goes on. -/
theorem again_z {S : St} (hG : GoodS S) (hr : S.runs = []) (hm : S.made < 16777216) (hl : S.left = 0) (hc : 2 ≤ S.cap) : (addP S (newF 1) [[122]]).2.2 = 0 ∧ (addP S (newF 1) [[122]]).1.runs.length = 1 := by
  have hu : S.used = 0 := by rw [hG.used, hr]; rfl
  have hfr : frameL (ofL [[122]]) = [1, 122] := by rw [ofL_z]; simp [frameL, uintL_lt]
  have hfz : fits (ofL [[122]]) = true := by rw [ofL_z]; decide
  obtain ⟨w1, w2⟩ := written_free (L := ofL [[122]]) (n := 0) hG hfz ⟨hl, by rw [hfr, hu]; exact hc⟩ hm
  obtain ⟨_, _, ⟨_, _, _, k4⟩ | ⟨k1, _⟩⟩ := written_top (L := ofL [[122]]) hG hfz
  · have e : addP S (newF 1) [[122]] = ((fwriteP S { newF 1 with held := (newF 1).held ++ [[122]] }).1, (fwriteP S { newF 1 with held := (newF 1).held ++ [[122]] }).2.1, 0) := by
      have hz : (fwriteP S { newF 1 with held := (newF 1).held ++ [[122]] }).2.2 = 0 := by
        unfold fwriteP
        show (if (writtenP S (ofL [[122]])).2.2 = 0 then _ else _ : St × FmD × Nat).2.2 = 0
        rw [if_pos w1]
      unfold addP
      rw [if_neg (by simp [newF]), if_neg (by decide), addL_cons, if_pos (by decide), if_pos hz, addL_nil]
    rw [e]
    refine ⟨rfl, ?_⟩
    show (fwriteP S { newF 1 with held := (newF 1).held ++ [[122]] }).1.runs.length = 1
    unfold fwriteP
    show (if (writtenP S (ofL [[122]])).2.2 = 0 then _ else _ : St × FmD × Nat).1.runs.length = 1
    rw [if_pos w1]
    show (writtenP S (ofL [[122]])).1.runs.length = 1
    rw [k4, hr]
    rfl
  · exact absurd w1 k1
end Go.Proofs.YthcicmbkkkhifaaGreatDoor
namespace Go.Proofs.YthcicmbkkkhifaaGreatDoor
open Go.RowKit

abbrev tLs : TypeId := 24
theorem eql_same9 (a : Addr) (wz : World) : (binOp .eql tErr (.iface tES (.pointer (some a))) (.iface tES (.pointer (some a)))).run Tryz.prog wz = .ok (.bool true) wz := by
  obtain ⟨i, hi, hc⟩ := Option.map_eq_some_iff.1 tES_comp
  obtain ⟨j, hj, _⟩ := Option.map_eq_some_iff.1 tE_size
  exact run_eql_iface_ptr_same wz a Tryz.underlying34 Tryz.underlying172 hi hc hj
set_option maxRecDepth 100000 in
set_option maxHeartbeats 12800000 in
theorem batchLost_walk (W : World) (ef : Nat → Nat × Nat) (hF : Fails W ef fails13) (ss : List (List UInt8)) (rv : Value) (rd : RdRow W rv ss.length 1 (strs ss)) (hlen : ss.length + sumLen ss + 1 ≤ 1048576) (B n c : Int) (_ : inI64 B) (hn : inI64 n) (hc : inI64 c) :
    Calls Tryz.prog 3 #[.agg #[rv, .int .i64 B, .int .i64 n, .int .i64 c]] W fun e w' => e = .returned (.bool true) ∧ Below W.heap.size W w' := by
  obtain ⟨hss, hsx⟩ := bulk_each (ss := ss) (by omega)
  obtain ⟨ft1, ft2, ft3, ft4⟩ := fitW_facts ss 0
  have ft3 := ft3 (by omega)
  have hll : (fitW ss 0).1.length ≤ 1048576 := by omega
  have HF := Lib.hid hF
  have HF12 := Lib.hid (fails13_12 hF)
  have HF11 := Lib.hid (fails12_11 (fails13_12 hF))
  have RD := Lib.hid rd
  have HSS := Lib.hid hss
  have HSX := Lib.hid hsx
  have HFT := Lib.hid (And.intro ft1 hll)
  have HN := Lib.hid hn
  have HC := Lib.hid hc
  obtain ⟨av, cv, hv, _, _⟩ := rd.shape
  subst hv
  obtain ⟨b, hb1, hb2, hb3, hb3w⟩ := block_mod 20 (by omega) B
  have hb4 : IntKind.i64.wrap (b : Int) = (b : Int) := by rw [IntKind.wrap_i64] <;> omega
  rw [show ((20 : Nat) : Int) = 20 from rfl] at hb3 hb3w
  have HB := Lib.hid (And.intro hb1 hb2)
  have hnot : ∀ (x : Bool) (w : World), (Op.unary .not (.bool x)).run Tryz.prog w = .ok (.bool (!x)) w := fun _ _ => rfl
  have H0 := Lib.hid ((At.nought (Below.refl W.heap.size W)).newCell Stable.nought #[.slice av ss.length cv, .int .i64 B, .int .i64 n, .int .i64 c] tLs)
  have HST0 := Lib.hid ((CellT.stable W.heap.size #[.slice av ss.length cv, .int .i64 B, .int .i64 n, .int .i64 c] tLs).both Stable.nought)
  clear hF rd hlen hn hc hb1 hb2 ft1 ft2 ft3 ft4 hll hss hsx
  go_enter Tryz.func3, Tryz.ntmps3
  (repeat' (first | (go_big_may; fail) | go_values | go_skip | go_guarded | go_step | go_upon | go_back | dsimp only))
  refine (wakes9_calls (HF12.out.below H0.out.below)).mono ?_
  rintro e w1 ⟨rfl, hb⟩
  generalize W.heap.size = bx at *
  have H2 := Lib.hid (H0.out.mono HST0.out hb)
  clear hb H0
  (repeat' (first | (go_big_may; fail) | go_values | go_skip | go_guarded | go_step | go_upon | go_back | dsimp only))
  go_cut [3, 4] (fun v6 v7 wx => ∃ sb rb, v6 = .pointer (some ⟨sb, 0, none⟩) ∧ v7 = .pointer (some ⟨rb, 0, none⟩) ∧ At W wx (Both (StoreT sb (newSt c)) (Both (RefT rb (newSt c)) (Both (CellT bx #[.slice av ss.length cv, .int .i64 B, .int .i64 n, .int .i64 c] tLs) Nought))))
  case first =>
    refine wp_only ?_
    rename_i J K' hJ hK
    have HJ := Lib.hid hJ
    have HK := Lib.hid hK
    clear hJ hK
    have hnew := fun (w' : World) (hb : Below w1.heap.size w1 w') => New_at (H2.out.mono HST0.out hb) HST0.out HC.out
    have hrnew := fun (w' : World) (hb : Below w1.heap.size w1 w') => rNew_at (H2.out.mono HST0.out hb) HST0.out HC.out
    have hnew2 := fun (rb : Nat) (w3 : World) (h3 : At W w3 (Both (RefT rb (newSt c)) (Both (CellT bx #[.slice av ss.length cv, .int .i64 B, .int .i64 n, .int .i64 c] tLs) Nought))) (w' : World) (hb : Below w3.heap.size w3 w') => New_at (h3.mono ((RefT.stable _ _).both HST0.out) hb) ((RefT.stable _ _).both HST0.out) HC.out
    have hrnew2 := fun (sb : Nat) (w3 : World) (h3 : At W w3 (Both (StoreT sb (newSt c)) (Both (CellT bx #[.slice av ss.length cv, .int .i64 B, .int .i64 n, .int .i64 c] tLs) Nought))) (w' : World) (hb : Below w3.heap.size w3 w') => rNew_at (h3.mono ((StoreT.stable _ _).both HST0.out) hb) ((StoreT.stable _ _).both HST0.out) HC.out
    have HNEW := Lib.hid hnew
    have HRNEW := Lib.hid hrnew
    have HNEW2 := Lib.hid hnew2
    have HRNEW2 := Lib.hid hrnew2
    have hx2 := H2.out.cell.1
    have hcg := cell_at hx2 3
    have hlx := lt_of_heap hx2
    clear hnew hrnew hnew2 hrnew2 hx2
    go_region_held3 (fun wx => wx.cell? ⟨bx, 3, none⟩ = some (.int .i64 c)) (first | assumption | go_keep) ((first
      | ((refine Calls.mono (HRNEW2.out _ _ H3n.out _ (by exact ⟨rfl, rfl, rfl, Nat.le_refl _, fun _ _ => rfl⟩)) ?_); rintro e w4 ⟨rfl, h4⟩; have cg4 := cell_at h4.drop.drop.cell.1 3; have hl4 := lt_of_heap h4.drop.drop.cell.1; have H4 := Lib.hid h4.swap; clear h4)
      | ((refine Calls.mono (HNEW2.out _ _ H3r.out _ (by exact ⟨rfl, rfl, rfl, Nat.le_refl _, fun _ _ => rfl⟩)) ?_); rintro e w4 ⟨rfl, h4⟩; have cg4 := cell_at h4.drop.drop.cell.1 3; have hl4 := lt_of_heap h4.drop.drop.cell.1; have H4 := Lib.hid h4; clear h4)
      | (go_at_call 6; (refine Calls.mono (HNEW.out _ (by exact ⟨rfl, rfl, rfl, Nat.le_refl _, fun _ _ => rfl⟩)) ?_); rintro e w3 ⟨rfl, h3⟩; have cg3 := cell_at h3.drop.cell.1 3; have hl3 := lt_of_heap h3.drop.cell.1; have H3n := Lib.hid h3; clear h3)
      | (go_at_call 7; (refine Calls.mono (HRNEW.out _ (by exact ⟨rfl, rfl, rfl, Nat.le_refl _, fun _ _ => rfl⟩)) ?_); rintro e w3 ⟨rfl, h3⟩; have cg3 := cell_at h3.drop.cell.1 3; have hl3 := lt_of_heap h3.drop.cell.1; have H3r := Lib.hid h3; clear h3)))
    all_goals (refine HK.out _ _ ?_; have hJ := HJ.out; go_meet)
    all_goals exact ⟨_, _, rfl, rfl, H4.out⟩
  case rest =>
  obtain ⟨sb, rb, e6, e7, h3⟩ := hcut
  subst e6 e7
  have hxx := h3.drop.drop.cell.1
  have x0 := cell_at hxx 0
  have x1 := cell_at hxx 1
  have xl := lt_of_heap hxx
  have H3 := Lib.hid h3
  clear h3 H2 hxx
  (repeat' (first | (go_big_may; fail) | go_values | go_skip | go_guarded | go_step | go_upon | go_back | dsimp only))
  refine (fit9_at H3.out ((StoreT.stable _ _).both ((RefT.stable _ _).both HST0.out)) RD.out HSS.out HSX.out).mono ?_
  rintro e w4 ⟨vg, rfl, _, h4⟩
  obtain ⟨ga, gc, hvg, hgc, hgm⟩ := own_shape h4.rowG
  subst hvg
  have H4 := Lib.hid h4
  clear h4 H3 hb3w hb3 hb4 x0 x1
  generalize (fitW ss 0).1 = L at *
  generalize (fitW ss 0).2 = sz at *
  (repeat' (first | (go_big_may; fail) | go_values | go_skip | go_guarded | go_step | go_upon | go_back | dsimp only))
  have hst4 : Stable (Both (RowG tSx 1 (.slice ga L.length gc) L.length (strs L)) (Both (StoreT sb (newSt c)) (Both (RefT rb (newSt c)) (Both (CellT bx #[.slice av ss.length cv, .int .i64 B, .int .i64 n, .int .i64 c] tLs) Nought)))) := (RowG.stable _ _ _ _ _).both ((StoreT.stable _ _).both ((RefT.stable _ _).both HST0.out))
  refine (FNew_at (b := sb) (ef := ef) H4.out hst4 (n := b) (by have := HB.out; omega)).mono ?_
  rintro e w5 ⟨k, rfl, h5⟩
  have H5 := Lib.hid h5
  clear h5 H4
  (repeat' (first | (go_big_may; fail) | go_values | go_skip | go_guarded | go_step | go_upon | go_back | dsimp only))
  refine (rFNew_at H5.out ((FoT.stable _ _ _ _).both hst4) (n := b) (by have := HB.out; omega)).mono ?_
  rintro e w6 ⟨kr, rfl, h6⟩
  have neqn : ∀ wz : World, (binOp .neq tErr .nilIface .nilIface).run Tryz.prog wz = .ok (.bool false) wz := fun wz => neq_nil wz
  have h7 := h6.perm (show _ = Both (StoreT sb (newSt c)) (Both (RefT rb (newSt c)) (Both (FoT k sb ef (newF b)) (Both (RfT kr (newF b)) (Both (RowG tSx 1 (.slice ga L.length gc) L.length (strs L)) (Both (CellT bx #[.slice av ss.length cv, .int .i64 B, .int .i64 n, .int .i64 c] tLs) Nought))))) by ac_rfl)
  have x2 := cell_at h7.drop.drop.drop.drop.drop.cell.1 2
  have hsA : Stable (Both (FoT k sb ef (newF b)) (Both (RfT kr (newF b)) (Both (RowG tSx 1 (.slice ga L.length gc) L.length (strs L)) (Both (CellT bx #[.slice av ss.length cv, .int .i64 B, .int .i64 n, .int .i64 c] tLs) Nought)))) := (FoT.stable _ _ _ _).both ((RfT.stable _ _).both ((RowG.stable _ _ _ _ _).both HST0.out))
  have HSA := Lib.hid hsA
  have H7 := Lib.hid h7
  clear h6 h7 hsA H5 hst4
  (repeat' (first | (go_big_may; fail) | go_values | go_skip | go_guarded | go_step | go_upon | go_back | dsimp only))
  refine (Break_at H7.out ((RefT.stable _ _).both HSA.out) HN.out).mono ?_
  rintro e w8 ⟨rfl, h8⟩
  have x2 := cell_at h8.drop.drop.drop.drop.drop.cell.1 2
  have H8 := Lib.hid h8.swap
  clear h8 H7
  (repeat' (first | (go_big_may; fail) | go_values | go_skip | go_guarded | go_step | go_upon | go_back | dsimp only))
  refine (rBreak_at H8.out ((StoreT.stable _ _).both HSA.out) HN.out).mono ?_
  rintro e w9 ⟨rfl, h9⟩
  have h10 := h9.perm (show _ = Both (FoT k sb ef (newF b)) (Both (StoreT sb (breakS (newSt c) n)) (Both (RowG tSx 1 (.slice ga L.length gc) L.length (strs L)) (Both (RfT kr (newF b)) (Both (RefT rb (breakS (newSt c) n)) (Both (CellT bx #[.slice av ss.length cv, .int .i64 B, .int .i64 n, .int .i64 c] tLs) Nought))))) by ac_rfl)
  have HG0 := Lib.hid ((GoodS.new c).brk HN.out)
  have HLO := Lib.hid (lostOf (S := breakS (newSt c) n) HG0.out rfl rfl (b := b) (by have := HB.out; omega) HFT.out.1)
  have HCAP := Lib.hid (show (breakS (newSt c) n).cap = (max 0 (min c 67108864)).toNat from rfl)
  have HSE0 := Lib.hid (show Sealed (breakS (newSt c) n) from fun p hp => by cases hp)
  generalize breakS (newSt c) n = S0 at *
  have htw := twin9_calls L (.slice ga L.length gc) w9 (RdRow.of_own h10.drop.drop.rowG) (by have := HFT.out.2; omega)
  have HTW := Lib.hid htw
  have H10 := Lib.hid h10
  clear h9 h10 htw H8 x2
  (repeat' (first | (go_big_may; fail) | go_values | go_skip | go_guarded | go_step | go_upon | go_back | dsimp only))
  refine HTW.out.mono ?_
  rintro e w10 ⟨vt, rfl, hto, hbt⟩
  obtain ⟨ta, tc, hvt, _, _⟩ := own_shape hto
  subst hvt
  have hsB : Stable (Both (RowG tSx 1 (.slice ga L.length gc) L.length (strs L)) (Both (RfT kr (newF b)) (Both (RefT rb S0) (Both (CellT bx #[.slice av ss.length cv, .int .i64 B, .int .i64 n, .int .i64 c] tLs) Nought)))) := (RowG.stable _ _ _ _ _).both ((RfT.stable _ _).both ((RefT.stable _ _).both HST0.out))
  have hsT : Stable (Both (RowG tSx 1 (.slice ta L.length tc) L.length (strs L)) (Both (RowG tSx 1 (.slice ga L.length gc) L.length (strs L)) (Both (RfT kr (newF b)) (Both (RefT rb S0) (Both (CellT bx #[.slice av ss.length cv, .int .i64 B, .int .i64 n, .int .i64 c] tLs) Nought))))) := (RowG.stable _ _ _ _ _).both hsB
  have h11 := (H10.out.newRowG ((FoT.stable _ _ _ _).both ((StoreT.stable _ _).both hsB)) hbt hto).perm (show _ = Both (FoT k sb ef (newF b)) (Both (StoreT sb S0) (Both (RowG tSx 1 (.slice ta L.length tc) L.length (strs L)) (Both (RowG tSx 1 (.slice ga L.length gc) L.length (strs L)) (Both (RfT kr (newF b)) (Both (RefT rb S0) (Both (CellT bx #[.slice av ss.length cv, .int .i64 B, .int .i64 n, .int .i64 c] tLs) Nought)))))) by ac_rfl)
  have hadd := Add_at h11 hsT HF11.out HG0.out HSE0.out (newF_ok S0 (by have := HB.out; omega)) ⟨ta, tc, rfl, by have := HFT.out.2; omega⟩ (fun x hx => by have := fits_mem.1 HFT.out.1 x hx; omega) (fun w' hw => RdRow.of_own hw.rowG)
  have hradd := fun (w' : World) (h : At W w' (Both (RfT kr (newF b)) (Both (RefT rb S0) (Both (RowG tSx 1 (.slice ga L.length gc) L.length (strs L)) (Both (RowG tSx 1 (.slice ta L.length tc) L.length (strs L)) (Both (FoT k sb ef (addP S0 (newF b) L).2.1) (Both (StoreT sb (addP S0 (newF b) L).1) (Both (CellT bx #[.slice av ss.length cv, .int .i64 B, .int .i64 n, .int .i64 c] tLs) Nought)))))))) => rAdd_at h ((RowG.stable _ _ _ _ _).both ((RowG.stable _ _ _ _ _).both ((FoT.stable _ _ _ _).both ((StoreT.stable _ _).both HST0.out)))) HG0.out HSE0.out (newF_ok S0 (by have := HB.out; omega)) ⟨ga, gc, rfl, by have := HFT.out.2; omega⟩ (fun x hx => by have := fits_mem.1 HFT.out.1 x hx; omega) (fun w' hw => RdRow.of_own hw.rowG)
  obtain ⟨lgood, lseal, lfok, lcA, lfin, lcF, lyes, lno⟩ := HLO.out
  have hcap1 : (addP S0 (newF b) L).1.cap = (max 0 (min c 67108864)).toNat := (cap_addP _ _ _).trans HCAP.out
  clear h11 hto hbt hsB hsT HTW H10 HLO HG0 HSE0 HCAP
  generalize addP S0 (newF b) L = P at *
  have HRADD := Lib.hid hradd
  have HADD := Lib.hid hadd
  have HP := Lib.hid (And.intro lgood (And.intro lseal (And.intro lfok (And.intro lcA lfin.ok))))
  have HCF := Lib.hid lcF
  have HYES := Lib.hid lyes
  have HNO := Lib.hid lno
  have HQG := Lib.hid (And.intro lfin.good (And.intro lfin.seal_ (And.intro lfin.ok ((cap_finish P.1 P.2.1).trans hcap1))))
  clear lgood lseal lfok lcA lfin lcF lyes lno hradd hadd hcap1
  (repeat' (first | (go_big_may; fail) | go_values | go_skip | go_guarded | go_step | go_upon | go_back | dsimp only))
  refine HADD.out.mono ?_
  rintro e w11 ⟨rfl, h11⟩
  have H11 := Lib.hid (h11.perm (show _ = Both (RfT kr (newF b)) (Both (RefT rb S0) (Both (RowG tSx 1 (.slice ga L.length gc) L.length (strs L)) (Both (RowG tSx 1 (.slice ta L.length tc) L.length (strs L)) (Both (FoT k sb ef P.2.1) (Both (StoreT sb P.1) (Both (CellT bx #[.slice av ss.length cv, .int .i64 B, .int .i64 n, .int .i64 c] tLs) Nought)))))) by ac_rfl))
  clear h11 HADD
  (repeat' (first | (go_big_may; fail) | go_values | go_skip | go_guarded | go_step | go_upon | go_back | dsimp only))
  refine (HRADD.out w11 H11.out).mono ?_
  rintro e w12 ⟨rfl, h12⟩
  have H12 := Lib.hid (h12.perm (show _ = Both (FoT k sb ef P.2.1) (Both (StoreT sb P.1) (Both (RfT kr P.2.1) (Both (RefT rb P.1) (Both (RowG tSx 1 (.slice ga L.length gc) L.length (strs L)) (Both (RowG tSx 1 (.slice ta L.length tc) L.length (strs L)) (Both (CellT bx #[.slice av ss.length cv, .int .i64 B, .int .i64 n, .int .i64 c] tLs) Nought)))))) by ac_rfl))
  have hcd := code9_calls (c := P.2.2) (HF.out.below h12.below) (.inl HP.out.2.2.2.1)
  generalize errV ef P.2.2 = pv at *
  have HCD := Lib.hid hcd
  clear h12 H11 HRADD hcd
  (repeat' (first | (go_big_may; fail) | go_values | go_skip | go_guarded | go_step | go_upon | go_back | dsimp only))
  refine HCD.out.mono ?_
  rintro e w13 ⟨rfl, rfl⟩
  clear HCD
  (repeat' (first | (go_big_may; fail) | go_values | go_skip | go_guarded | go_step | go_upon | go_back | dsimp only))
  have hsC : Stable (Both (RowG tSx 1 (.slice ga L.length gc) L.length (strs L)) (Both (RowG tSx 1 (.slice ta L.length tc) L.length (strs L)) (Both (CellT bx #[.slice av ss.length cv, .int .i64 B, .int .i64 n, .int .i64 c] tLs) Nought))) := (RowG.stable _ _ _ _ _).both ((RowG.stable _ _ _ _ _).both HST0.out)
  have HSC := Lib.hid hsC
  refine (Finish_at H12.out ((RfT.stable _ _).both ((RefT.stable _ _).both hsC)) HF11.out HP.out.1 HP.out.2.1 HP.out.2.2.1).mono ?_
  have hrf := fun (w' : World) (X : Thing) (hX : Stable X) (h : At W w' (Both (RfT kr P.2.1) (Both (RefT rb P.1) X))) => rFinish_at h hX HP.out.1 HP.out.2.1 HP.out.2.2.1
  generalize finishP P.1 P.2.1 = Q at *
  generalize Q.2.2.2 = cz at *
  generalize Q.2.2.1 = ql at *
  generalize Q.2.1 = QF at *
  generalize Q.1 = QS at *
  have HRF := Lib.hid hrf
  clear hrf hsC
  rintro e w14 ⟨vl, rfl, h14⟩
  obtain ⟨la, lc, hvl, _, _⟩ := own_shape h14.row
  rw [show (mz ql).length = ql.length by simp [mz]] at hvl
  subst hvl
  have H14 := Lib.hid (h14.perm (show _ = Both (RfT kr P.2.1) (Both (RefT rb P.1) (Both (RowT (.slice la ql.length lc) (mz ql)) (Both (FoT k sb ef QF) (Both (StoreT sb QS) (Both (RowG tSx 1 (.slice ga L.length gc) L.length (strs L)) (Both (RowG tSx 1 (.slice ta L.length tc) L.length (strs L)) (Both (CellT bx #[.slice av ss.length cv, .int .i64 B, .int .i64 n, .int .i64 c] tLs) Nought))))))) by ac_rfl))
  clear h14 H12
  (repeat' (first | (go_big_may; fail) | go_values | go_skip | go_guarded | go_step | go_upon | go_back | dsimp only))
  refine (HRF.out w14 _ ((RowT.stable _ _).both ((FoT.stable _ _ _ _).both ((StoreT.stable _ _).both HSC.out))) H14.out).mono ?_
  rintro e w15 ⟨vr, rfl, _, h15⟩
  have H15 := Lib.hid (h15.perm (show _ = Both (FoT k sb ef QF) (Both (StoreT sb QS) (Both (RowT (.slice la ql.length lc) (mz ql)) (Both (RfT kr QF) (Both (RefT rb QS) (Both (RowG tSx 1 (.slice ga L.length gc) L.length (strs L)) (Both (RowG tSx 1 (.slice ta L.length tc) L.length (strs L)) (Both (CellT bx #[.slice av ss.length cv, .int .i64 B, .int .i64 n, .int .i64 c] tLs) Nought))))))) by ac_rfl))
  have hcd := code9_calls (c := cz) (HF.out.below h15.below) (.inl HCF.out)
  clear h15 H14 HRF
  (repeat' (first | (go_big_may; fail) | go_values | go_skip | go_guarded | go_step | go_upon | go_back | dsimp only))
  have hsD : Stable (Both (RowT (.slice la ql.length lc) (mz ql)) (Both (RfT kr QF) (Both (RefT rb QS) (Both (RowG tSx 1 (.slice ga L.length gc) L.length (strs L)) (Both (RowG tSx 1 (.slice ta L.length tc) L.length (strs L)) (Both (CellT bx #[.slice av ss.length cv, .int .i64 B, .int .i64 n, .int .i64 c] tLs) Nought)))))) := (RowT.stable _ _).both ((RfT.stable _ _).both ((RefT.stable _ _).both HSC.out))
  have HSD := Lib.hid hsD
  clear hsD
  by_cases hz : cz = 0
  · obtain ⟨hd13, hrl⟩ := HYES.out hz
    subst hz
    rw [errV_zero] at hcd ⊢
    have HCD := Lib.hid hcd
    have heqn := eql_nil
    have hdr := FDrop_at H15.out HSD.out HF11.out HQG.out.1 HQG.out.2.2.1.made HQG.out.2.2.1.code
    rw [show dropF QS QF = (QS, QF) from if_pos hd13] at hdr
    have HDR := Lib.hid hdr
    have hklen : QS.keys.length = ql.length := by unfold St.keys; rw [List.length_map]; exact hrl
    have HKL := Lib.hid hklen
    have HD13 := Lib.hid hd13
    clear hdr hd13 hrl hklen HYES HNO hcd
    refine HCD.out.mono ?_
    rintro e w16 ⟨rfl, rfl⟩
    clear HCD
    (repeat' (first | (go_big_may; fail) | go_values | go_skip | go_guarded | go_step | go_upon | go_back | dsimp only))
    refine HDR.out.mono ?_
    rintro e w17 ⟨rfl, h17⟩
    have H17 := Lib.hid h17
    clear h17 HDR H15
    (repeat' (first | (go_big_may; fail) | go_values | go_skip | go_guarded | go_step | go_upon | go_back | dsimp only))
    have hg13 : ∀ w', Below W.heap.size W w' → w'.cell? ⟨0, 0, none⟩ = some (.iface tES (.pointer (some ⟨(ef 13).1, (ef 13).2, none⟩))) := fun w' hb => (HF11.out.below hb).cell (13, 0) (by decide)
    have HG13 := Lib.hid hg13
    have hlive : ∀ w', Below w17.heap.size w17 w' → Calls Tryz.prog 20 #[.pointer (some ⟨sb, 0, none⟩)] w' fun e w'' => ∃ v, e = .returned v ∧ At W w'' (Both (RowT v QS.keys) (Both (StoreT sb QS) (Both (FoT k sb ef QF) (Both (RowT (.slice la ql.length lc) (mz ql)) (Both (RfT kr QF) (Both (RefT rb QS) (Both (RowG tSx 1 (.slice ga L.length gc) L.length (strs L)) (Both (RowG tSx 1 (.slice ta L.length tc) L.length (strs L)) (Both (CellT bx #[.slice av ss.length cv, .int .i64 B, .int .i64 n, .int .i64 c] tLs) Nought))))))))) := fun w' hb => Live_at (H17.out.mono ((FoT.stable _ _ _ _).both ((StoreT.stable _ _).both HSD.out)) hb).swap ((FoT.stable _ _ _ _).both HSD.out)
    have hadd0 : ∀ (w' : World) (X : Thing), Stable X → At W w' (Both (FoT k sb ef QF) (Both (StoreT sb QS) X)) → Calls Tryz.prog 13 #[.pointer (some ⟨k, 0, none⟩), .slice none 0 0] w' fun e w'' => e = .returned (.iface tES (.pointer (some ⟨(ef 13).1, (ef 13).2, none⟩))) ∧ At W w'' (Both (FoT k sb ef QF) (Both (StoreT sb QS) X)) := fun w' X hX h => by
      have h1 := Add_at (ws := []) (v := .slice none 0 0) h hX HF11.out HQG.out.1 HQG.out.2.1 HQG.out.2.2.1 ⟨none, 0, rfl, by simp⟩ (by simp) (fun w' _ => ⟨rfl, none, 0, rfl, Nat.le_refl _, by simp [maxLen], fun j u hu => by simp [strs] at hu⟩)
      rw [addP_dead (by rw [HD13.out]; decide)] at h1
      dsimp only at h1
      rw [HD13.out, errV_pos ef (show (13 : Nat) ≠ 0 by decide)] at h1
      exact h1
    have q4 := eql_same9 (⟨(ef 13).1, (ef 13).2, none⟩ : Addr)
    have HLIVE := Lib.hid hlive
    have HADD := Lib.hid hadd0
    have hcg := HG13.out _ H17.out.below
    have hlg := World.block_lt_of_cell? _ _ hcg
    clear hg13 hlive hadd0
    go_region_held3 (fun wx => wx.cell? ⟨0, 0, none⟩ = some (.iface tES (.pointer (some ⟨(ef 13).1, (ef 13).2, none⟩)))) (first | assumption | go_keep) ((first
      | (go_at_call 13; (refine Calls.mono (HADD.out _ _ ((RowT.stable _ _).both HSD.out) H9.out) ?_); rintro e w10 ⟨rfl, h10⟩; have cg10 := HG13.out _ h10.below; have hl10 := World.block_lt_of_cell? _ _ cg10; have H10 := Lib.hid h10; clear h10)
      | (go_at_call 20; (refine Calls.mono (HLIVE.out _ (by exact ⟨rfl, rfl, rfl, Nat.le_refl _, fun _ _ => rfl⟩)) ?_); rintro e w9 ⟨v9, rfl, h9⟩; obtain ⟨aol, capl, hvl, _, _⟩ := own_shape h9.row; rw [HKL.out] at hvl; subst hvl; have cg9 := HG13.out _ h9.below; have hl9 := World.block_lt_of_cell? _ _ cg9; have H9 := Lib.hid (h9.perm (show _ = Both (FoT k sb ef QF) (Both (StoreT sb QS) (Both (RowT (.slice aol ql.length capl) QS.keys) (Both (RowT (.slice la ql.length lc) (mz ql)) (Both (RfT kr QF) (Both (RefT rb QS) (Both (RowG tSx 1 (.slice ga L.length gc) L.length (strs L)) (Both (RowG tSx 1 (.slice ta L.length tc) L.length (strs L)) (Both (CellT bx #[.slice av ss.length cv, .int .i64 B, .int .i64 n, .int .i64 c] tLs) Nought)))))))) by ac_rfl)); clear h9)))
    all_goals
      (repeat' (first | (go_big_may; fail) | go_values | go_skip | go_guarded | go_step | go_upon | go_back | dsimp only))
      go_ret
      exact ⟨rfl, H10.out.below⟩
  · obtain ⟨hd0, hru, hli0, hmd⟩ := HNO.out hz
    have hep := errV_pos ef hz
    have hzn := eql_errV ef hz
    rw [hep] at hcd hzn ⊢
    have HCD := Lib.hid hcd
    have HEP := Lib.hid hep
    subst hli0
    have hkeys : QS.keys = [] := by unfold St.keys; rw [hru]; rfl
    have husd : QS.used = 0 := by rw [HQG.out.1.used, hru]; rfl
    have hg1 : GoodS (breakS QS 0) := HQG.out.1.brk (by unfold inI64; omega)
    have hse1 : Sealed (breakS QS 0) := fun p hp => HQG.out.2.1 p hp
    have hru1 : (breakS QS 0).runs = [] := hru
    have hag : 2 ≤ c → (addP (breakS QS 0) (newF 1) [[122]]).2.2 = 0 ∧ (addP (breakS QS 0) (newF 1) [[122]]).1.keys.length = 1 := fun h2 => by
      have := again_z hg1 hru1 (by show QS.made < _; have := HFT.out.2; omega) rfl (by show 2 ≤ QS.cap; rw [HQG.out.2.2.2]; omega)
      exact ⟨this.1, by unfold St.keys; rw [List.length_map]; exact this.2⟩
    have HKEY := Lib.hid hkeys
    have HUS := Lib.hid husd
    have HG1 := Lib.hid (And.intro hg1 hse1)
    have HAG := Lib.hid hag
    have HD0 := Lib.hid (And.intro hd0 hz)
    clear hcd hep hz hd0 hru hmd hkeys husd hg1 hse1 hru1 hag HYES HNO
    refine HCD.out.mono ?_
    rintro e w16 ⟨rfl, rfl⟩
    clear HCD
    (repeat' (first | (go_big_may; fail) | go_values | go_skip | go_guarded | go_step | go_upon | go_back | dsimp only))
    have hlive := Live_at H15.out.swap ((FoT.stable _ _ _ _).both HSD.out)
    rw [HKEY.out] at hlive
    refine hlive.mono ?_
    rintro e w17 ⟨v17, rfl, h17⟩
    obtain ⟨aol, capl, hvl, _, _⟩ := own_shape h17.row
    subst hvl
    have H17 := Lib.hid h17.drop
    clear h17 hlive H15
    (repeat' (first | (go_big_may; fail) | go_values | go_skip | go_guarded | go_step | go_upon | go_back | dsimp only))
    have hus := Used_at H17.out
    rw [HUS.out] at hus
    refine hus.mono ?_
    rintro e w18 ⟨rfl, rfl⟩
    clear hus
    (repeat' (first | (go_big_may; fail) | go_values | go_skip | go_guarded | go_step | go_upon | go_back | dsimp only))
    have hadd := Add_at (ws := []) (v := .slice none 0 0) H17.out.swap HSD.out HF11.out HQG.out.1 HQG.out.2.1 HQG.out.2.2.1 ⟨none, 0, rfl, by simp⟩ (by simp) (fun w' _ => ⟨rfl, none, 0, rfl, Nat.le_refl _, by simp [maxLen], fun j u hu => by simp [strs] at hu⟩)
    rw [addP_dead (by rw [HD0.out.1]; exact HD0.out.2)] at hadd
    dsimp only at hadd
    rw [HD0.out.1, HEP.out] at hadd
    have q3 := fun wz : World => neq_same (⟨(ef cz).1, (ef cz).2, none⟩ : Addr) wz
    refine hadd.mono ?_
    rintro e w19 ⟨rfl, h19⟩
    have H19 := Lib.hid h19.swap
    clear h19 hadd H17
    (repeat' (first | (go_big_may; fail) | go_values | go_skip | go_guarded | go_step | go_upon | go_back | dsimp only))
    refine (Break_at H19.out ((FoT.stable _ _ _ _).both HSD.out) (z := 0) (by unfold inI64; omega)).mono ?_
    rintro e w20 ⟨rfl, h20⟩
    have H20 := Lib.hid h20
    clear h20 H19
    (repeat' (first | (go_big_may; fail) | go_values | go_skip | go_guarded | go_step | go_upon | go_back | dsimp only))
    refine (FNew_at (b := sb) (ef := ef) H20.out ((StoreT.stable _ _).both ((FoT.stable _ _ _ _).both HSD.out)) (n := 1) (by omega)).mono ?_
    rintro e w21 ⟨kh, rfl, h21⟩
    have hxx := (h21.perm (show _ = Both (CellT bx #[.slice av ss.length cv, .int .i64 B, .int .i64 n, .int .i64 c] tLs) (Both (FoT kh sb ef (newF 1)) (Both (StoreT sb (breakS QS 0)) (Both (FoT k sb ef QF) (Both (RowT (.slice la ([] : List Nat).length lc) (mz [])) (Both (RfT kr QF) (Both (RefT rb QS) (Both (RowG tSx 1 (.slice ga L.length gc) L.length (strs L)) (Both (RowG tSx 1 (.slice ta L.length tc) L.length (strs L)) Nought)))))))) by ac_rfl)).cell.1
    have x3 := cell_at hxx 3
    have xl := lt_of_heap hxx
    have H21 := Lib.hid h21
    clear h21 H20 hxx
    have heqn := eql_nil
    by_cases hc2 : c < 2
    · (repeat' (first | (go_big_may; fail) | go_values | go_skip | go_guarded | go_step | go_upon | go_back | dsimp only))
      go_ret
      exact ⟨rfl, H21.out.below⟩
    · have HC2 := Lib.hid (HAG.out (by omega))
      (repeat' (first | (go_big_may; fail) | go_values | go_skip | go_guarded | go_step | go_upon | go_back | dsimp only))
      have hsE : Stable (Both (StoreT sb (breakS QS 0)) (Both (FoT k sb ef QF) (Both (RowT (.slice la ([] : List Nat).length lc) (mz [])) (Both (RfT kr QF) (Both (RefT rb QS) (Both (RowG tSx 1 (.slice ga L.length gc) L.length (strs L)) (Both (RowG tSx 1 (.slice ta L.length tc) L.length (strs L)) (Both (CellT bx #[.slice av ss.length cv, .int .i64 B, .int .i64 n, .int .i64 c] tLs) Nought)))))))) := (StoreT.stable _ _).both ((FoT.stable _ _ _ _).both HSD.out)
      have h22 := (H21.out.newRowG ((FoT.stable _ _ _ _).both hsE) ((Below.refl _ _).alloc (Nat.le_refl _) _) (World.ownsRow_lit (e := tSx) (size := 1) w21 #[.string ⟨#[122]⟩] 1 (Nat.le_refl _) (by decide) rfl)).perm (show _ = Both (FoT kh sb ef (newF 1)) (Both (StoreT sb (breakS QS 0)) (Both (RowG tSx 1 (.slice (some ⟨w21.heap.size, 0, none⟩) 1 1) 1 (strs [[122]])) (Both (FoT k sb ef QF) (Both (RowT (.slice la ([] : List Nat).length lc) (mz [])) (Both (RfT kr QF) (Both (RefT rb QS) (Both (RowG tSx 1 (.slice ga L.length gc) L.length (strs L)) (Both (RowG tSx 1 (.slice ta L.length tc) L.length (strs L)) (Both (CellT bx #[.slice av ss.length cv, .int .i64 B, .int .i64 n, .int .i64 c] tLs) Nought))))))))) by unfold strs; ac_rfl)
      have hadd := Add_at (ws := [[122]]) h22 ((RowG.stable _ _ _ _ _).both ((FoT.stable _ _ _ _).both HSD.out)) HF11.out HG1.out.1 HG1.out.2 (newF_ok _ (by omega)) ⟨_, 1, rfl, by simp⟩ (by simp) (fun w' hw => RdRow.of_own hw.rowG)
      rw [HC2.out.1, errV_zero] at hadd
      have HADD := Lib.hid hadd
      have hkl := HC2.out.2
      clear h22 hadd H21 x3 xl hsE
      generalize addP (breakS QS 0) (newF 1) [[122]] = PZ at *
      refine HADD.out.mono ?_
      rintro e w22 ⟨rfl, h22⟩
      have H22 := Lib.hid h22
      have HKL := Lib.hid hkl
      clear h22 HADD HC2 HAG hkl
      (repeat' (first | (go_big_may; fail) | go_values | go_skip | go_guarded | go_step | go_upon | go_back | dsimp only))
      refine (Live_at H22.out.swap ((FoT.stable _ _ _ _).both ((RowG.stable _ _ _ _ _).both ((FoT.stable _ _ _ _).both HSD.out)))).mono ?_
      rintro e w23 ⟨v23, rfl, h23⟩
      obtain ⟨aom, capm, hvl, _, _⟩ := own_shape h23.row
      rw [HKL.out] at hvl
      subst hvl
      have H23 := Lib.hid h23
      clear h23 H22
      (repeat' (first | (go_big_may; fail) | go_values | go_skip | go_guarded | go_step | go_upon | go_back | dsimp only))
      go_ret
      exact ⟨rfl, H23.out.below⟩
end Go.Proofs.YthcicmbkkkhifaaGreatDoor
