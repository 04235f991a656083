/- hornbookref09: the document's former walked: Written, gone, write. · hornbookref09: Written walked. · hornbookref09: New, write, Finish, Drop walked. · hornbookref09: Add walked. · batch: the failures that a former's calls answer, in plain Lean; hornbooklaw09.code walked. · merge: what stands in runs; what the rounds leave; no program in sight. · merge: the rounds over runs that were written of rising texts; no program in sight. · batch: what is left where a step was refused; no program in sight. · merge: all rounds; no program in sight. · merge: a former over a store that holds runs already (after XBatP's Formed). · merge: Sort: one run of these words, or nothing of its own is left; no program in sight. · merge: with room for twice the frames Sort is never refused; no program in sight. · batch.Former: the nil former; limits. · hornbookref09: Finish walked, its answer kept as a row. · hornbooklaw10.alike walked. -/
import Derived.Test.YtadokkffmekndaaGreatDoorBuMgPlLaw42
import Derived.Test.YtadokkffmekndaaGreatDoorBuMgPlLaw43
import Derived.Test.YtadokkffmekndaaGreatDoorBuMgPlLaw44
import Derived.Test.YtadokkffmekndaaGreatDoorBuMgPlLaw41
import Derived.Test.YtadokkffmekndaaGreatDoorBuMgPlLaw12
import Derived.Test.YtadokkffmekndaaGreatDoorBuMgPlLaw38
import Derived.Test.YtadokkffmekndaaGreatDoorBuMgPlLaw39
import Derived.Test.YtadokkffmekndaaGreatDoorBuMgPlLaw20
import Derived.Deep.QuietTactic
import Derived.BigQuiet
set_option linter.unusedSimpArgs false
set_option linter.unusedVariables false
namespace Go.Proofs.YtadokkffmekndaaGreatDoor
open Go.RowKit
abbrev tRf : TypeId := 126
abbrev rfCells (f : FmD) (hv mv : Value) : Array Value := #[hv, .int .i64 f.most, mv, .int .i64 f.dead]
abbrev RfI (k : Nat) (f : FmD) (hv mv : Value) : Thing := Both (CellT k (rfCells f hv mv) tRf) (Both (RowG tSx 1 hv f.held.length (strs f.held)) (RowT mv (mz f.made)))
theorem RfI.stable (k : Nat) (f : FmD) (hv mv : Value) : Stable (RfI k f hv mv) := (CellT.stable _ _ _).both ((RowG.stable _ _ _ _ _).both (RowT.stable _ _))
def RfT (k : Nat) (f : FmD) : Thing := fun w fp => ∃ q : Value × Value, RfI k f q.1 q.2 w fp
theorem RfT.stable (k : Nat) (f : FmD) : Stable (RfT k f) := Stable.ex fun _ => RfI.stable _ _ _ _
section
variable {W w : World} {R : Thing} {k rb : Nat} {S : St} {f : FmD}
theorem At.rf (h : At W w (Both (RfT k f) R)) : ∃ hv mv, At W w (Both (RfI k f hv mv) R) := by
  obtain ⟨q, h⟩ := At.ex h
  exact ⟨_, _, h⟩
theorem At.toRf {hv mv : Value} (h : At W w (Both (RfI k f hv mv) R)) : At W w (Both (RfT k f) R) := At.intoEx ((hv, mv) : Value × Value) h
structure RfFacts (w : World) (k : Nat) (f : FmD) (hv mv : Value) : Prop where
  c0 : w.cell? ⟨k, 0, none⟩ = some hv
  c1 : w.cell? ⟨k, 1, none⟩ = some (.int .i64 f.most)
  c2 : w.cell? ⟨k, 2, none⟩ = some mv
  c3 : w.cell? ⟨k, 3, none⟩ = some (.int .i64 f.dead)
  fz : ∀ j, w.frozen? ⟨k, j, none⟩ = false
  lt : k < w.heap.size
theorem At.rfF {hv mv : Value} (h : At W w (Both (RfI k f hv mv) R)) : RfFacts w k f hv mv := by
  have h0 : At W w (Both (CellT k (rfCells f hv mv) tRf) (Both (RowG tSx 1 hv f.held.length (strs f.held)) (Both (RowT mv (mz f.made)) R))) := h.perm (by unfold RfI; ac_rfl)
  have h1 := h0.cell.1
  exact ⟨cell_at h1 0, cell_at h1 1, cell_at h1 2, cell_at h1 3, thaw_at h1, lt_of_heap h1⟩
theorem At.rfMade {hv mv : Value} (h : At W w (Both (RfI k f hv mv) R)) : w.ownsRow 0 tInt 1 mv (mz f.made).length (intsV (mz f.made)) :=
  (h.perm (show _ = Both (RowT mv (mz f.made)) (Both (CellT k (rfCells f hv mv) tRf) (Both (RowG tSx 1 hv f.held.length (strs f.held)) R)) by unfold RfI; ac_rfl)).row
theorem At.rfHeld {hv mv : Value} (h : At W w (Both (RfI k f hv mv) R)) : w.ownsRow 0 tSx 1 hv f.held.length (strs f.held) :=
  (h.perm (show _ = Both (RowG tSx 1 hv f.held.length (strs f.held)) (Both (CellT k (rfCells f hv mv) tRf) (Both (RowT mv (mz f.made)) R)) by unfold RfI; ac_rfl)).rowG
theorem At.rfSet {hv mv : Value} (h : At W w (Both (RfI k f hv mv) R)) (hR : Stable R) (o : Nat) (v : Value) :
    At W (w.setCell ⟨k, o, none⟩ v) (Both (CellT k ((rfCells f hv mv).setIfInBounds o v) tRf) (Both (RowG tSx 1 hv f.held.length (strs f.held)) (Both (RowT mv (mz f.made)) R))) :=
  (h.perm (show _ = Both (CellT k (rfCells f hv mv) tRf) (Both (RowG tSx 1 hv f.held.length (strs f.held)) (Both (RowT mv (mz f.made)) R)) by unfold RfI; ac_rfl)).setCell ((RowG.stable _ _ _ _ _).both ((RowT.stable _ _).both hR)) o v
theorem At.rfDead (h : At W w (Both (RfT k f) R)) (hR : Stable R) (c : Nat) : At W (w.setCell ⟨k, 3, none⟩ (.int .i64 c)) (Both (RfT k { f with dead := c }) R) := by
  obtain ⟨hv, mv, h⟩ := h.rf
  have h2 : At W _ (Both (CellT k (rfCells { f with dead := c } hv mv) tRf) (Both (RowG tSx 1 hv f.held.length (strs f.held)) (Both (RowT mv (mz f.made)) R))) := h.rfSet hR 3 (.int .i64 c)
  exact At.toRf (f := { f with dead := c }) (hv := hv) (mv := mv) (h2.perm (by unfold RfI; ac_rfl))
set_option maxRecDepth 100000 in
set_option maxHeartbeats 1600000 in
theorem gone_at (h : At W w (Both (RfT k f) (Both (RefT rb S) R))) (hR : Stable R) (hG : GoodS S) (hm : ∀ n ∈ f.made, n ≤ S.made) :
    Calls Tryz.prog 104 #[.pointer (some ⟨rb, 0, none⟩), .pointer (some ⟨k, 0, none⟩)] w fun e w' => e = .returned (.tuple #[]) ∧ At W w' (Both (RfT k { f with made := [] }) (Both (RefT rb (goneP S f.made)) R)) := by
  obtain ⟨hv, mv, h⟩ := h.rf
  obtain ⟨ao, cp, hmv, hcp1, hcp2⟩ := own_shape h.rfMade
  subst hmv
  have hlen : (mz f.made).length = f.made.length := by simp [mz]
  rw [hlen] at h hcp1
  have hml : f.made.length ≤ 9223372036854775807 := by unfold maxLen at hcp2; omega
  have hms : S.made ≤ 16777216 := hG.sizes.2.2.2.1
  have HM := Lib.hid hm
  have HR := Lib.hid hR
  have HG := Lib.hid hG
  have H := Lib.hid h
  clear h hR hG hm hcp1 hlen
  go_enter Tryz.func104, Tryz.ntmps104
  (repeat' (first | go_values | go_skip | go_guarded | go_step | go_upon | go_back | dsimp only))
  go_loopw [4] (fun vi wr => ∃ (i : Nat) (S1 : St), vi = .int .i64 i ∧ i ≤ f.made.length ∧ GoodS S1 ∧ S1.made = S.made ∧ goneP S1 (f.made.drop i) = goneP S f.made ∧ At W wr (Both (RfI k f hv (.slice ao f.made.length cp)) (Both (RefT rb S1) R))) (fun vi _ => f.made.length - (intOf vi).toNat)
  case atStart => exact ⟨0, S, rfl, Nat.zero_le _, HG.out, rfl, rfl, H.out⟩
  case round =>
    obtain ⟨i, S1, rfl, hi, hG1, hm1, hg1, h1⟩ := hrel
    obtain ⟨_, _, c2, _, fz, hlt⟩ := h1.rfF
    have H1 := Lib.hid h1
    have HG1 := Lib.hid hG1
    have HM1 := Lib.hid hm1
    have HGO := Lib.hid hg1
    clear H
    by_cases hlt2 : i < f.made.length
    · obtain ⟨n, hn⟩ : ∃ n, f.made[i]? = some n := ⟨_, List.getElem?_eq_getElem hlt2⟩
      have hnl := HM.out n (List.mem_of_getElem? hn)
      have hrd := RdRow.of_own h1.rfMade
      obtain ⟨gb, off, cap', hsl, hcell⟩ := hrd.intA (k := i) (z := (n : Int)) (by simp [mz, hn])
      have hdr : f.made.drop i = n :: f.made.drop (i + 1) := by
        obtain ⟨h1, h2⟩ := List.getElem?_eq_some_iff.1 hn
        rw [List.drop_eq_getElem_cons h1, h2]
      rw [hdr] at hg1
      have HGO2 := Lib.hid hg1
      have hnz : inI64 (n : Int) := by unfold inI64; omega
      have hrm := rRemove_at (h1.perm (show _ = Both (RefT rb S1) (Both (RfI k f hv (.slice ao f.made.length cp)) R) by ac_rfl)) ((RfI.stable _ _ _ _).both HR.out) HG1.out hnz
      have HRM := Lib.hid hrm
      have HGR := Lib.hid (HG1.out.remove (n : Int))
      have HMR := Lib.hid ((made_remove S1 (n : Int)).trans HM1.out)
      have hi0 : (0 : Int) ≤ i := by omega
      have hi1 : (i : Int) < f.made.length := by omega
      simp only [Value.slice.injEq] at hsl
      obtain ⟨hao, hl1, hcc⟩ := hsl
      subst hao
      subst hcc
      have hwr : IntKind.i64.wrap ((i : Int) + 1) = ((i + 1 : Nat) : Int) := by rw [IntKind.wrap_i64] <;> omega
      generalize (removeP S1 (n : Int)).2 = cc at *
      clear h1 hG1 hm1 hg1 hrd hrm hnz hdr hn hnl hl1
      (repeat' (first | go_values | go_skip | go_guarded | go_step | go_upon | go_back | dsimp only))
      refine HRM.out.mono ?_
      rintro e w2 ⟨rfl, h2⟩
      have H2 := Lib.hid h2
      clear h2 HRM
      (repeat' (first | go_values | go_skip | go_guarded | go_step | go_upon | go_back | dsimp only))
      go_roundw
      case rel => exact ⟨i + 1, (removeP S1 (n : Int)).1, rfl, hlt2, HGR.out, HMR.out, HGO2.out, H2.out.perm (by ac_rfl)⟩
      case measure => simp [intOf]; omega
    · have hi0 : ¬ (i : Int) < f.made.length := by omega
      have hie : f.made.drop i = [] := List.drop_eq_nil_of_le (by omega)
      rw [hie] at hg1
      have hg2 : S1 = goneP S f.made := hg1
      have h2 : At W _ (Both (CellT k (rfCells { f with made := [] } hv (.slice none 0 0)) tRf) (Both (RowG tSx 1 hv f.held.length (strs f.held)) (Both (RowT (.slice ao f.made.length cp) (mz f.made)) (Both (RefT rb S1) R)))) := h1.rfSet ((RefT.stable _ _).both HR.out) 2 (.slice none 0 0)
      have h3 := h2.pull3.drop
      rw [hg2] at h3
      have HEND := Lib.hid ((h3.noRow ((CellT.stable _ _ _).both ((RowG.stable _ _ _ _ _).both ((RefT.stable _ _).both HR.out)))).perm (show _ = Both (RfI k { f with made := [] } hv (.slice none 0 0)) (Both (RefT rb (goneP S f.made)) R) by unfold RfI; simp only [mz, List.map_nil]; ac_rfl))
      clear h1 h2 h3 hg1 hg2 hG1 hm1 hie
      (repeat' (first | go_values | go_skip | go_guarded | go_step | go_upon | go_back | dsimp only))
      go_end0
      exact ⟨rfl, At.toRf (f := { f with made := [] }) HEND.out⟩
end
theorem putL_short : ∀ (n : Nat) (S : St) (x : WrD), 1 ≤ x.block → x.buf.length < n → (putL n S x).2.2 = 0 → (putL n S x).2.1.buf.length < x.block := by
  intro n
  induction n with
  | zero => intro S x _ h; exact absurd h (Nat.not_lt_zero _)
  | succ n ih =>
    intro S x hb hl
    unfold putL
    by_cases hge : x.block ≤ x.buf.length
    · rw [if_pos hge]
      by_cases hz : (flushP S x x.block).2.2 = 0
      · rw [if_pos hz]
        intro h
        have hok := flushP_ok hz
        have hbk : (flushP S x x.block).2.1.block = x.block := by rw [hok]
        have := ih (flushP S x x.block).1 (flushP S x x.block).2.1 (by rw [hbk]; exact hb) (by rw [hok]; simp only [List.length_drop]; omega) h
        rw [hbk] at this
        exact this
      · rw [if_neg hz]
        intro h
        exact absurd h hz
    · rw [if_neg hge]
      intro _
      show x.buf.length < _
      omega
theorem putP_short {S : St} {x : WrD} {L : List (List UInt8)} (hd : x.dead = 0) (hL : fits L = true) (hb : 1 ≤ x.block) (hz : (putP S x L).2.2 = 0) : (putP S x L).2.1.buf.length < x.block := by
  unfold putP at hz ⊢
  rw [if_neg (by simpa using hd), if_neg (by simp [hL])] at hz ⊢
  exact putL_short _ _ { x with buf := x.buf ++ frameL L } hb (Nat.lt_succ_self _) hz
theorem dropP_sim {S : St} {x y : WrD} (h : WSim x y) : (dropP S y).1 = (dropP S x).1 := by
  unfold dropP
  rw [h.dead, h.run]
  split <;> rfl
section
variable {W w : World} {R : Thing} {rb : Nat} {S : St} {L : List (List UInt8)} {v : Value}
set_option maxRecDepth 100000 in
set_option maxHeartbeats 3200000 in
theorem rWritten_at (h : At W w (Both (RefT rb S) R)) (hR : Stable R) (hG : GoodS S) (hrd : ∀ w', At W w' R → RdRow w' v L.length 1 (strs L)) (hL : fits L = true) (hlen : (frameL L).length ≤ 1099511627776) :
    Calls Tryz.prog 70 #[.pointer (some ⟨rb, 0, none⟩), v] w fun e w' => e = .returned (.tuple #[.int .i64 (writtenP S L).2.1, .int .i64 (writtenP S L).2.2]) ∧ At W w' (Both (RefT rb (writtenP S L).1) R) := by
  obtain ⟨res, hres⟩ : ∃ res, res = writtenP S L := ⟨_, rfl⟩
  rw [← hres]
  unfold writtenP at hres
  have HR := Lib.hid hR
  have HRD := Lib.hid hrd
  by_cases hc : (createP S).2.2 = 0
  · rw [if_neg (by simpa using hc)] at hres
    obtain ⟨htop, _⟩ := create_top hG hc
    have hgs := htop.good
    have hrz : inI64 (((createP S).2.1 : Nat) : Int) := by
      have h1 := hgs.sizes.2.2.2.1
      have h2 := htop.num
      have h3 := htop.made
      unfold inI64; omega
    have ho := rOpen_ok h hR hG (n := 512) (by omega) hc
    have hpu := fun (k : Nat) (w' : World) (h' : At W w' (Both (RwT k ⟨(createP S).2.1, 512, [], 0⟩) (Both (RefT rb (createP S).1) R))) =>
      rPut_at (ss := L) h' hR hgs (by show 1 ≤ 512; omega) (by show 512 ≤ 4096; omega) hrz (HRD.out _ h'.drop.drop) (fun _ => by show 0 + _ ≤ _; omega)
    obtain ⟨P, hP⟩ : ∃ P, P = putP (createP S).1 ⟨(createP S).2.1, 512, [], 0⟩ L := ⟨_, rfl⟩
    obtain ⟨t', p1, p2, p3, p4, p5, p6, p7⟩ := putP_top (x := ⟨(createP S).2.1, 512, [], 0⟩) (L := L) htop rfl rfl hL
    have hsh := putP_short (S := (createP S).1) (x := ⟨(createP S).2.1, 512, [], 0⟩) (L := L) rfl hL (by show 1 ≤ 512; omega)
    simp only [← hP] at hpu p1 p2 p3 p4 p5 p6 p7 hres hsh
    have HO := Lib.hid ho
    have HPU := Lib.hid hpu
    have HPG := Lib.hid p1.good
    have hrz2 : inI64 ((P.2.1.run : Nat) : Int) := by rw [p2]; exact hrz
    have HRZ := Lib.hid hrz2
    by_cases hz : P.2.2 = 0
    · rw [if_neg (by simpa using hz)] at hres
      rw [hz] at HPU
      have hbl := hsh hz
      obtain ⟨q1, _⟩ := p4 hz
      have HCL := Lib.hid (fun (k : Nat) (w' : World) (h' : At W w' (Both (RwT k P.2.1) (Both (RefT rb P.1) R))) => rClose_at h' HR.out HPG.out HRZ.out (fun _ => by have : P.2.1.buf.length < 512 := hbl; omega))
      have hct := closeP_top p1 p2 q1
      have hcgd := closeP_good p1.good P.2.1
      obtain ⟨Q, hQ⟩ : ∃ Q, Q = closeP P.1 P.2.1 := ⟨_, rfl⟩
      rw [← hQ] at HCL hct hcgd hres
      have hrq : inI64 ((Q.2.1.run : Nat) : Int) ∨ Q.2.2.2 = 0 := by
        rcases hct with ⟨k1, _⟩ | ⟨_, _, k3, _⟩
        · exact .inr k1
        · refine .inl ?_; rw [k3]; exact hrz
      have HQ1 := Lib.hid q1
      have HCG := Lib.hid hcgd
      have hnz : ((P.2.2 : Int) != 0) = false := by simp [hz]
      by_cases hz2 : Q.2.2.2 = 0
      · rw [if_neg (by simpa using hz2)] at hres
        rw [hz2] at HCL
        have HRES := Lib.hid hres
        clear h hR hG hrd hlen ho hpu hP htop hgs hc p1 p2 p3 p4 p5 p6 p7 hsh hres hz hz2 hct hcgd hQ q1 hrq hrz hrz2 hbl hnz
        go_enter Tryz.func70, Tryz.ntmps70
        (repeat' (first | go_values | go_skip | go_guarded | go_step | go_upon | go_back | dsimp only))
        refine HO.out.mono ?_
        rintro e w1 ⟨k, rfl, h1⟩
        have H1 := Lib.hid h1
        clear h1 HO
        (repeat' (first | go_values | go_skip | go_guarded | go_step | go_upon | go_back | dsimp only))
        refine (HPU.out k w1 H1.out).mono ?_
        rintro e w2 ⟨rfl, y, hy, h2⟩
        obtain rfl := hy.eq HQ1.out
        have H2 := Lib.hid h2
        clear h2 HPU H1 hy
        (repeat' (first | go_values | go_skip | go_guarded | go_step | go_upon | go_back | dsimp only))
        refine (HCL.out k w2 H2.out).mono ?_
        rintro e w3 ⟨rfl, y3, _, h3⟩
        have H3 := Lib.hid h3.drop
        clear h3 HCL H2
        (repeat' (first | go_values | go_skip | go_guarded | go_step | go_upon | go_back | dsimp only))
        go_ret2
        rw [HRES.out]
        exact ⟨rfl, H3.out⟩
      · rw [if_pos hz2] at hres
        have hrq2 : inI64 ((Q.2.1.run : Nat) : Int) := hrq.resolve_right hz2
        have HDR := Lib.hid (fun (k : Nat) (y : WrD) (hy : WSim Q.2.1 y) (w' : World) (h' : At W w' (Both (RwT k y) (Both (RefT rb Q.1) R))) => rDrop_at h' HR.out HCG.out (by rw [hy.run]; exact hrq2))
        have HRES := Lib.hid hres
        have hq : ((Q.2.2.2 : Int) != 0) = true := by simp; omega
        clear h hR hG hrd hlen ho hpu hP htop hgs hc p1 p2 p3 p4 p5 p6 p7 hsh hres hz hz2 hct hcgd hQ q1 hrq hrq2 hrz hrz2 hbl hnz
        go_enter Tryz.func70, Tryz.ntmps70
        (repeat' (first | go_values | go_skip | go_guarded | go_step | go_upon | go_back | dsimp only))
        refine HO.out.mono ?_
        rintro e w1 ⟨k, rfl, h1⟩
        have H1 := Lib.hid h1
        clear h1 HO
        (repeat' (first | go_values | go_skip | go_guarded | go_step | go_upon | go_back | dsimp only))
        refine (HPU.out k w1 H1.out).mono ?_
        rintro e w2 ⟨rfl, y, hy, h2⟩
        obtain rfl := hy.eq HQ1.out
        have H2 := Lib.hid h2
        clear h2 HPU H1 hy
        (repeat' (first | go_values | go_skip | go_guarded | go_step | go_upon | go_back | dsimp only))
        refine (HCL.out k w2 H2.out).mono ?_
        rintro e w3 ⟨rfl, y3, hy3, h3⟩
        have HD3 := Lib.hid (HDR.out k y3 hy3 w3 h3)
        have HY3 := Lib.hid hy3
        clear h3 HCL H2 HDR hy3
        (repeat' (first | go_values | go_skip | go_guarded | go_step | go_upon | go_back | dsimp only))
        refine HD3.out.mono ?_
        rintro e w4 ⟨rfl, h4⟩
        have H4 := Lib.hid h4.drop
        clear h4 HD3
        (repeat' (first | go_values | go_skip | go_guarded | go_step | go_upon | go_back | dsimp only))
        go_ret2
        rw [HRES.out]
        refine ⟨rfl, ?_⟩
        have h5 := H4.out
        rw [dropP_sim HY3.out] at h5
        exact h5
    · rw [if_pos hz] at hres
      have HDR := Lib.hid (fun (k : Nat) (y : WrD) (hy : WSim P.2.1 y) (w' : World) (h' : At W w' (Both (RwT k y) (Both (RefT rb P.1) R))) => rDrop_at h' HR.out HPG.out (by rw [hy.run]; exact HRZ.out))
      have HRES := Lib.hid hres
      have hq : ((P.2.2 : Int) != 0) = true := by simp; omega
      clear h hR hG hrd hlen ho hpu hP htop hgs hc p1 p2 p3 p4 p5 p6 p7 hsh hres hz hrz hrz2
      go_enter Tryz.func70, Tryz.ntmps70
      (repeat' (first | go_values | go_skip | go_guarded | go_step | go_upon | go_back | dsimp only))
      refine HO.out.mono ?_
      rintro e w1 ⟨k, rfl, h1⟩
      have H1 := Lib.hid h1
      clear h1 HO
      (repeat' (first | go_values | go_skip | go_guarded | go_step | go_upon | go_back | dsimp only))
      refine (HPU.out k w1 H1.out).mono ?_
      rintro e w2 ⟨rfl, y, hy, h2⟩
      have HD3 := Lib.hid (HDR.out k y hy w2 h2)
      have HY3 := Lib.hid hy
      clear h2 HPU H1 hy HDR
      (repeat' (first | go_values | go_skip | go_guarded | go_step | go_upon | go_back | dsimp only))
      refine HD3.out.mono ?_
      rintro e w4 ⟨rfl, h4⟩
      have H4 := Lib.hid h4.drop
      clear h4 HD3
      (repeat' (first | go_values | go_skip | go_guarded | go_step | go_upon | go_back | dsimp only))
      go_ret2
      rw [HRES.out]
      refine ⟨rfl, ?_⟩
      have h5 := H4.out
      rw [dropP_sim HY3.out] at h5
      exact h5
  · rw [if_pos hc] at hres
    have HO := Lib.hid (rOpen_fail h hR hG (n := 512) (by omega) hc)
    have HRES := Lib.hid hres
    have hq : (((createP S).2.2 : Int) != 0) = true := by simp; omega
    generalize (createP S).2.2 = c at *
    generalize (createP S).1 = S1 at *
    clear h hR hG hrd hlen hc hres
    go_enter Tryz.func70, Tryz.ntmps70
    (repeat' (first | go_values | go_skip | go_guarded | go_step | go_upon | go_back | dsimp only))
    refine HO.out.mono ?_
    rintro e w1 ⟨rfl, h1⟩
    have H1 := Lib.hid h1
    clear h1 HO
    (repeat' (first | go_values | go_skip | go_guarded | go_step | go_upon | go_back | dsimp only))
    go_ret2
    rw [HRES.out]
    exact ⟨rfl, H1.out⟩
end
section
variable {W w : World} {R : Thing} {k rb : Nat} {S : St} {f : FmD}
set_option maxRecDepth 100000 in
set_option maxHeartbeats 1600000 in
theorem rFNew_at (h : At W w R) (hR : Stable R) {n : Nat} (hn : 1 ≤ n ∧ n ≤ 65536) :
    Calls Tryz.prog 48 #[.int .i64 n] w fun e w' => ∃ k, e = .returned (.tuple #[.pointer (some ⟨k, 0, none⟩), .int .i64 0]) ∧ At W w' (Both (RfT k (newF n)) R) := by
  have h1 : ¬ (n : Int) < 1 := by omega
  have h2 : ¬ 65536 < (n : Int) := by omega
  have h3 := h.newCell hR (rfCells (newF n) (.slice none 0 0) (.slice none 0 0)) tRf
  have h4 := (h3.noRow ((CellT.stable _ _ _).both hR)).noRowG ((RowT.stable _ _).both ((CellT.stable _ _ _).both hR)) tSx 1
  have H5 := Lib.hid (At.toRf (f := newF n) (hv := .slice none 0 0) (mv := .slice none 0 0) (h4.perm (show _ = Both (RfI w.heap.size (newF n) (.slice none 0 0) (.slice none 0 0)) R by unfold RfI; show Both (RowG tSx 1 (.slice none 0 0) 0 []) (Both (RowT (.slice none 0 0) []) _) = Both (Both _ (Both (RowG tSx 1 (.slice none 0 0) 0 []) (RowT (.slice none 0 0) []))) R; ac_rfl)))
  clear h h3 h4 hn
  go_enter Tryz.func48, Tryz.ntmps48
  (repeat' (first | go_values | go_skip | go_guarded | go_step | go_upon | go_back | dsimp only))
  go_ret2
  exact ⟨_, rfl, H5.out⟩
set_option maxRecDepth 100000 in
set_option maxHeartbeats 3200000 in
theorem rwrite_at (h : At W w (Both (RfT k f) (Both (RefT rb S) R))) (hR : Stable R) (hG : GoodS S) (hfit : fits f.held = true) (hlen : f.held.length ≤ 65536) (hm : ∀ n ∈ f.made, n ≤ S.made) (hfew : f.made.length ≤ S.made) :
    Calls Tryz.prog 68 #[.pointer (some ⟨rb, 0, none⟩), .pointer (some ⟨k, 0, none⟩)] w fun e w' => e = .returned (.int .i64 (fwriteP S f).2.2) ∧ At W w' (Both (RfT k (fwriteP S f).2.1) (Both (RefT rb (fwriteP S f).1) R)) := by
  obtain ⟨res, hres⟩ : ∃ res, res = fwriteP S f := ⟨_, rfl⟩
  rw [← hres]
  unfold fwriteP at hres
  obtain ⟨hv, mv, h⟩ := h.rf
  have hst := (RfI.stable k f hv mv).both ((RefT.stable rb S).both hR)
  have hof := Of_at f.held.length w f.held hv (Nat.le_refl _) (by omega) (RdRow.of_own h.rfHeld)
  have hfo := fits_ofL hfit
  have hfl : (frameL (ofL f.held)).length ≤ 1099511627776 := by
    have h1 := frame_wsum hfo
    have h2 := wsum_fit hfo
    have h3 := ofL_len f.held
    omega
  have hms := hG.sizes.2.2.2.1
  have hwt := written_top hG hfo
  have hwr := fun (vo : Value) (w' : World) (h' : At W w' (Both (RefT rb S) (Both (RowG tSt 1 vo (ofL f.held).length (strs (ofL f.held))) (Both (RfI k f hv mv) R)))) =>
    rWritten_at h' ((RowG.stable _ _ _ _ _).both ((RfI.stable _ _ _ _).both hR)) hG (fun w' h' => RdRow.of_own h'.rowG) hfo hfl
  obtain ⟨c0, _, _, _, _, hlt⟩ := h.rfF
  have H := Lib.hid h
  have HST := Lib.hid hst
  have HOF := Lib.hid hof
  have HR := Lib.hid hR
  generalize writtenP S (ofL f.held) = P at *
  by_cases hz : P.2.2 = 0
  · rw [if_pos hz] at hres
    rw [hz] at hwr
    have HWR := Lib.hid hwr
    have HRES := Lib.hid hres
    have hml : (mz f.made).length ≤ 16777216 := by simp only [mz, List.length_map]; omega
    have HML := Lib.hid hml
    clear h hR hG hfit hlen hm hfew hres hst hof hfo hfl hms hwt hwr hz hml
    go_enter Tryz.func68, Tryz.ntmps68
    (repeat' (first | go_values | go_skip | go_guarded | go_step | go_upon | go_back | dsimp only))
    refine HOF.out.mono ?_
    rintro e w1 ⟨vo, rfl, h1⟩
    have h2 := (H.out.glue HST.out h1).perm (show _ = Both (RefT rb S) (Both (RowG tSt 1 vo (ofL f.held).length (strs (ofL f.held))) (Both (RfI k f hv mv) R)) by ac_rfl)
    have H2 := Lib.hid h2
    clear h1 h2 HOF H HST c0 hlt
    (repeat' (first | go_values | go_skip | go_guarded | go_step | go_upon | go_back | dsimp only))
    refine (HWR.out vo w1 H2.out).mono ?_
    rintro e w2 ⟨rfl, h3⟩
    have h4 := (h3.perm (show _ = Both (RowG tSt 1 vo (ofL f.held).length (strs (ofL f.held))) (Both (RfI k f hv mv) (Both (RefT rb P.1) R)) by ac_rfl)).drop
    obtain ⟨_, _, c2, _, fz, hlt⟩ := h4.rfF
    have h5 := h4.perm (show _ = Both (RowG tInt 1 mv (mz f.made).length (intsV (mz f.made))) (Both (CellT k (rfCells f hv mv) tRf) (Both (RowG tSx 1 hv f.held.length (strs f.held)) (Both (RefT rb P.1) R))) by unfold RfI; show Both (Both _ (Both _ (RowG tInt 1 mv (mz f.made).length (intsV (mz f.made))))) _ = _; ac_rfl)
    have HS5 := Lib.hid (show Stable (Both (CellT k (rfCells f hv mv) tRf) (Both (RowG tSx 1 hv f.held.length (strs f.held)) (Both (RefT rb P.1) R))) from (CellT.stable _ _ _).both ((RowG.stable _ _ _ _ _).both ((RefT.stable _ _).both HR.out)))
    have H5 := Lib.hid h5
    have hml := HML.out
    clear h3 h4 h5 HWR H2
    (repeat' (first | (go_big_may; ((at_builtin; go_must (refine wpList_append_to rfl _ _ 23 tInt rfl Tryz.underlying23 info_int rfl (by decide) rfl (H5.out) (HS5.out) rfl (by first | rfl | simp) rfl ((by intro u hu; simp at hu; subst hu; rfl)) (by unfold maxLen; omega) (by omega) ?_); intro a6 p6 w6 h6 _); have H6 := Lib.hid h6; obtain ⟨e2, e2f, e2l⟩ := h6.drop.cellF (o := 2) rfl; obtain ⟨e0, e0f, _⟩ := h6.drop.cellF (o := 0) rfl; clear h6 c2 fz hlt)) | go_values | go_skip | go_guarded | go_step | go_upon | go_back | dsimp only))
    have h7 := (H6.out.perm (show _ = Both (CellT k (rfCells f hv mv) tRf) (Both (RowG tInt 1 (.slice a6 ((mz f.made).length + 1) p6) ((mz f.made).length + 1) (intsV (mz f.made) ++ (#[Value.int .i64 P.2.1] : Array Value).toList)) (Both (RowG tSx 1 hv f.held.length (strs f.held)) (Both (RefT rb P.1) R))) by ac_rfl)).setCell ((RowG.stable _ _ _ _ _).both ((RowG.stable _ _ _ _ _).both ((RefT.stable _ _).both HR.out))) 2 (.slice a6 ((mz f.made).length + 1) p6)
    have h8 := h7.setCell ((RowG.stable _ _ _ _ _).both ((RowG.stable _ _ _ _ _).both ((RefT.stable _ _).both HR.out))) 0 (.slice none 0 0)
    have e1 : mz (f.made ++ [P.2.1]) = mz f.made ++ [(P.2.1 : Int)] := by simp [mz]
    have e2 : RowG tInt 1 (.slice a6 ((mz f.made).length + 1) p6) ((mz f.made).length + 1) (intsV (mz f.made) ++ (#[Value.int .i64 P.2.1] : Array Value).toList) = RowT (.slice a6 ((mz f.made).length + 1) p6) (mz (f.made ++ [P.2.1])) := by
      funext w fp
      unfold RowT RowG
      rw [e1]
      simp only [List.length_append, List.length_cons, List.length_nil, intsV, List.map_append, List.map_cons, List.map_nil, Nat.zero_add]
    rw [e2] at h8
    have h9 : At W _ (Both (RowG tSx 1 hv f.held.length (strs f.held)) (Both (CellT k (rfCells { f with made := f.made ++ [P.2.1], held := [] } (.slice none 0 0) (.slice a6 ((mz f.made).length + 1) p6)) tRf) (Both (RowT (.slice a6 ((mz f.made).length + 1) p6) (mz (f.made ++ [P.2.1]))) (Both (RefT rb P.1) R)))) := h8.pull3
    have h10 := h9.drop.noRowG ((CellT.stable _ _ _).both ((RowT.stable _ _).both ((RefT.stable _ _).both HR.out))) tSx 1
    have HEND := Lib.hid (At.toRf (f := { f with made := f.made ++ [P.2.1], held := [] }) (hv := .slice none 0 0) (mv := .slice a6 ((mz f.made).length + 1) p6) (h10.perm (show _ = Both (RfI k { f with made := f.made ++ [P.2.1], held := [] } (.slice none 0 0) (.slice a6 ((mz f.made).length + 1) p6)) (Both (RefT rb P.1) R) by unfold RfI; show Both (RowG tSx 1 (.slice none 0 0) 0 []) _ = Both (Both _ (Both (RowG tSx 1 (.slice none 0 0) 0 []) _)) _; ac_rfl)))
    clear h7 h8 h9 h10 e1 e2 H6 H5 HS5 hml
    (repeat' (first | go_values | go_skip | go_guarded | go_step | go_upon | go_back | dsimp only))
    go_ret
    rw [HRES.out]
    exact ⟨rfl, HEND.out⟩
  · rw [if_neg hz] at hres
    have hz9 : ((P.2.2 : Int) != 0) = true := by simp; omega
    have hgn := fun (w' : World) (h' : At W w' (Both (RfT k f) (Both (RefT rb P.1) R))) => gone_at h' hR hwt.1 (fun n hn => Nat.le_trans (hm n hn) hwt.2.1)
    have HGN := Lib.hid hgn
    have HWR := Lib.hid hwr
    have HRES := Lib.hid hres
    clear h hR hG hfit hlen hm hfew hres hst hof hfo hfl hms hwt hwr hz hgn
    go_enter Tryz.func68, Tryz.ntmps68
    (repeat' (first | go_values | go_skip | go_guarded | go_step | go_upon | go_back | dsimp only))
    refine HOF.out.mono ?_
    rintro e w1 ⟨vo, rfl, h1⟩
    have h2 := (H.out.glue HST.out h1).perm (show _ = Both (RefT rb S) (Both (RowG tSt 1 vo (ofL f.held).length (strs (ofL f.held))) (Both (RfI k f hv mv) R)) by ac_rfl)
    have H2 := Lib.hid h2
    clear h1 h2 HOF H HST c0 hlt
    (repeat' (first | go_values | go_skip | go_guarded | go_step | go_upon | go_back | dsimp only))
    refine (HWR.out vo w1 H2.out).mono ?_
    rintro e w2 ⟨rfl, h3⟩
    have h4 := (h3.perm (show _ = Both (RowG tSt 1 vo (ofL f.held).length (strs (ofL f.held))) (Both (RfI k f hv mv) (Both (RefT rb P.1) R)) by ac_rfl)).drop
    have HG2 := Lib.hid (HGN.out w2 (At.toRf h4))
    clear h3 h4 HWR H2 HGN
    (repeat' (first | go_values | go_skip | go_guarded | go_step | go_upon | go_back | dsimp only))
    refine HG2.out.mono ?_
    rintro e w3 ⟨rfl, h5⟩
    obtain ⟨hv3, mv3, h6⟩ := h5.rf
    obtain ⟨_, _, _, d3, fz, hlt⟩ := h6.rfF
    have HEND := Lib.hid (h5.rfDead ((RefT.stable _ _).both HR.out) P.2.2)
    clear h5 h6 HG2
    (repeat' (first | go_values | go_skip | go_guarded | go_step | go_upon | go_back | dsimp only))
    go_ret
    rw [HRES.out]
    exact ⟨rfl, HEND.out⟩
end
section
variable {W w : World} {R : Thing} {k rb : Nat} {S : St} {f : FmD} {ws : List (List UInt8)} {v : Value}
set_option maxRecDepth 100000 in
set_option maxHeartbeats 6400000 in
theorem rAdd_at (h : At W w (Both (RfT k f) (Both (RefT rb S) R))) (hR : Stable R) (hG : GoodS S) (hS : Sealed S) (hO : FOk S f) (hv : ∃ ao cp, v = .slice ao ws.length cp ∧ ws.length ≤ 1099511627776) (hx : ∀ x ∈ ws, x.length ≤ 1099511627776) (hrd : ∀ w', At W w' R → RdRow w' v ws.length 1 (strs ws)) :
    Calls Tryz.prog 49 #[.pointer (some ⟨rb, 0, none⟩), .pointer (some ⟨k, 0, none⟩), v] w fun e w' => e = .returned (.int .i64 (addP S f ws).2.2) ∧ At W w' (Both (RfT k (addP S f ws).2.1) (Both (RefT rb (addP S f ws).1) R)) := by
  obtain ⟨av, cv, rfl, hlen⟩ := hv
  have H := Lib.hid h
  have HR := Lib.hid hR
  have HRD := Lib.hid hrd
  have HX := Lib.hid hx
  obtain ⟨hv0, mv0, hh0⟩ := h.rf
  obtain ⟨_, _, _, c3, _, hlk⟩ := hh0.rfF
  obtain ⟨res, hres⟩ : ∃ res, res = addP S f ws := ⟨_, rfl⟩
  rw [← hres]
  unfold addP at hres
  by_cases hd : f.dead = 0
  · rw [if_neg (by simpa using hd)] at hres
    have hdz : ((f.dead : Int) != 0) = false := by simp [hd]
    have HG := Lib.hid hG
    have HSE := Lib.hid hS
    have HO := Lib.hid hO
    have HD := Lib.hid hd
    by_cases hfit : fits ws = false
    · rw [if_pos hfit] at hres
      have HRES := Lib.hid hres
      have HFI := Lib.hid hfit
      clear h hh0 hR hG hS hO hrd hx hres hfit hd
      go_enter Tryz.func49, Tryz.ntmps49
      (repeat' (first | go_values | go_skip | go_guarded | go_step | go_upon | go_back | dsimp only))
      go_loopw [7] (fun vi wr => ∃ (i : Nat), vi = .int .i64 i ∧ i ≤ ws.length ∧ (∀ (j : Nat) x, j < i → ws[j]? = some x → x.length ≤ 255) ∧ At W wr (Both (RfT k f) (Both (RefT rb S) R))) (fun vi _ => ws.length - (intOf vi).toNat)
      case atStart => exact ⟨0, rfl, Nat.zero_le _, fun j x hj => absurd hj (Nat.not_lt_zero _), H.out⟩
      case round =>
        obtain ⟨i, rfl, hi, hsm, h1⟩ := hrel
        have H1 := Lib.hid h1
        have HSM := Lib.hid hsm
        by_cases hlt : i < ws.length
        · obtain ⟨x, hxx⟩ : ∃ x, ws[i]? = some x := ⟨_, List.getElem?_eq_getElem hlt⟩
          obtain ⟨gb, off, cap', hsl, hcell⟩ := (HRD.out _ h1.drop.drop).str hxx
          simp only [Value.slice.injEq] at hsl
          obtain ⟨hao, _, hcv⟩ := hsl
          subst hao
          subst hcv
          have hxl := HX.out x (List.mem_of_getElem? hxx)
          have hi0 : (0 : Int) ≤ i := by omega
          have hi1 : (i : Int) < ws.length := by omega
          have hwr : IntKind.i64.wrap ((i : Int) + 1) = ((i + 1 : Nat) : Int) := by rw [IntKind.wrap_i64] <;> omega
          by_cases hbig : 255 < x.length
          · have hb1 : (255 : Int) < x.length := by omega
            clear h1 hsm hxx
            (repeat' (first | go_values | go_skip | go_guarded | go_step | go_upon | go_back | dsimp only))
            go_ret
            rw [HRES.out]
            exact ⟨rfl, H1.out⟩
          · have hb1 : ¬ (255 : Int) < x.length := by omega
            have HXX := Lib.hid hxx
            have HBG := Lib.hid hbig
            clear h1 hsm hxx hbig
            (repeat' (first | go_values | go_skip | go_guarded | go_step | go_upon | go_back | dsimp only))
            go_roundw
            case rel => exact ⟨i + 1, rfl, hlt, fun j y hj hy => by
              rcases Nat.lt_or_ge j i with h2 | h2
              · exact HSM.out j y h2 hy
              · have : j = i := by omega
                subst this
                rw [HXX.out] at hy
                cases hy
                have := HBG.out
                omega, H1.out⟩
            case measure => simp [intOf]; omega
        · exfalso
          obtain ⟨j, x, hj, hbx⟩ := fits_no HFI.out
          have h2 := (List.getElem?_eq_some_iff.1 hj).1
          have := hsm j x (by omega) hj
          omega
    · have hft : fits ws = true := by simpa using hfit
      rw [if_neg hfit] at hres
      have HRES := Lib.hid hres
      have HFI := Lib.hid hft
      clear h hh0 hR hG hS hO hrd hx hres hfit hft hd
      go_enter Tryz.func49, Tryz.ntmps49
      (repeat' (first | go_values | go_skip | go_guarded | go_step | go_upon | go_back | dsimp only))
      go_loopw [7] (fun vi wr => ∃ (i : Nat), vi = .int .i64 i ∧ i ≤ ws.length ∧ At W wr (Both (RfT k f) (Both (RefT rb S) R))) (fun vi _ => ws.length - (intOf vi).toNat)
      case atStart => exact ⟨0, rfl, Nat.zero_le _, H.out⟩
      case round =>
        obtain ⟨i, rfl, hi, h1⟩ := hrel
        have H1 := Lib.hid h1
        by_cases hlt : i < ws.length
        · obtain ⟨x, hxx⟩ : ∃ x, ws[i]? = some x := ⟨_, List.getElem?_eq_getElem hlt⟩
          obtain ⟨gb, off, cap', hsl, hcell⟩ := (HRD.out _ h1.drop.drop).str hxx
          simp only [Value.slice.injEq] at hsl
          obtain ⟨hao, _, hcv⟩ := hsl
          subst hao
          subst hcv
          have hxl := fits_at HFI.out hxx
          have hi0 : (0 : Int) ≤ i := by omega
          have hi1 : (i : Int) < ws.length := by omega
          have hwr : IntKind.i64.wrap ((i : Int) + 1) = ((i + 1 : Nat) : Int) := by rw [IntKind.wrap_i64] <;> omega
          have hb1 : ¬ (255 : Int) < x.length := by omega
          clear h1 hxx hxl
          (repeat' (first | go_values | go_skip | go_guarded | go_step | go_upon | go_back | dsimp only))
          go_roundw
          case rel => exact ⟨i + 1, rfl, hlt, H1.out⟩
          case measure => simp [intOf]; omega
        · have hi1 : ¬ (i : Int) < ws.length := by omega
          clear h1
          (repeat' (first | go_values | go_skip | go_guarded | go_step | go_upon | go_back | dsimp only))
          go_loopw [8] (fun vi wr => ∃ (i : Nat) (S1 : St) (f1 : FmD), vi = .int .i64 i ∧ i ≤ ws.length ∧ GoodS S1 ∧ Sealed S1 ∧ FOk S1 f1 ∧ f1.dead = 0 ∧ res = addL S1 f1 (ws.drop i) ∧ At W wr (Both (RfT k f1) (Both (RefT rb S1) R))) (fun vi _ => ws.length - (intOf vi).toNat)
          case atStart => exact ⟨0, S, f, rfl, Nat.zero_le _, HG.out, HSE.out, HO.out, HD.out, HRES.out, H1.out⟩
          case round =>
            obtain ⟨i, S1, f1, rfl, hi, hg1, hs1, ho1, hd1, hr1, h1⟩ := hrel
            clear HRES H1 H HG HSE HO HD
            have HG1 := Lib.hid hg1
            have HS1 := Lib.hid hs1
            have HO1 := Lib.hid ho1
            have HD1 := Lib.hid hd1
            by_cases hlt : i < ws.length
            · obtain ⟨x, hxx⟩ : ∃ x, ws[i]? = some x := ⟨_, List.getElem?_eq_getElem hlt⟩
              obtain ⟨gb, off, cap', hsl, hcell⟩ := (HRD.out _ h1.drop.drop).str hxx
              simp only [Value.slice.injEq] at hsl
              obtain ⟨hao, _, hcv⟩ := hsl
              subst hao
              subst hcv
              have hdr : ws.drop i = x :: ws.drop (i + 1) := by
                obtain ⟨h1, h2⟩ := List.getElem?_eq_some_iff.1 hxx
                rw [List.drop_eq_getElem_cons h1, h2]
              rw [hdr, addL_cons] at hr1
              have hxl := fits_at HFI.out hxx
              have hfx : fits (f1.held ++ [x]) = true := fits_append.2 ⟨ho1.fit, by simp [fits, hxl]⟩
              have HFX := Lib.hid hfx
              have hless := ho1.less hd1
              have hmost := ho1.most
              have hi0 : (0 : Int) ≤ i := by omega
              have hi1 : (i : Int) < ws.length := by omega
              have hwr : IntKind.i64.wrap ((i : Int) + 1) = ((i + 1 : Nat) : Int) := by rw [IntKind.wrap_i64] <;> omega
              obtain ⟨hv, mv, h1⟩ := h1.rf
              have h2 := h1.perm (show _ = Both (CellT k (rfCells f1 hv mv) tRf) (Both (RowG tSx 1 hv f1.held.length (strs f1.held)) (Both (RowT mv (mz f1.made)) (Both (RefT rb S1) R))) by unfold RfI; ac_rfl)
              have hSY : Stable (Both (CellT k (rfCells f1 hv mv) tRf) (Both (RowG tSx 1 hv f1.held.length (strs f1.held)) (Both (RowT mv (mz f1.made)) (Both (RefT rb S1) R)))) := (CellT.stable _ _ _).both ((RowG.stable _ _ _ _ _).both ((RowT.stable _ _).both ((RefT.stable _ _).both HR.out)))
              have hSX : Stable (Both (CellT k (rfCells f1 hv mv) tRf) (Both (RowT mv (mz f1.made)) (Both (RefT rb S1) R))) := (CellT.stable _ _ _).both ((RowT.stable _ _).both ((RefT.stable _ _).both HR.out))
              have c0 := cell_at h2.cell.1 0
              have lk := lt_of_heap h2.cell.1
              simp only [List.getElem?_toArray, List.getElem?_cons_zero, List.getElem?_cons_succ] at c0
              have H15 := Lib.hid h2
              have hS9 : wr.drew.cell? ⟨k, 0, none⟩ = some hv ∧ wr.drew.cell? ⟨gb, off + i, none⟩ = some (.string ⟨x.toArray⟩) := ⟨c0, hcell⟩
              clear h1 h2 hxx hdr hxl hfx hg1 hs1 ho1 hd1
              (repeat' (first | go_values | go_skip | go_guarded | go_step | go_upon | go_back | dsimp only))
              refine wp_only ?_
              rename_i K13 hK13
              have HK13 := Lib.hid hK13
              clear hK13
              refine wpL.start (fun l wx => (l.getD 13 true = false → wx.cell? ⟨k, 0, none⟩ = some hv) ∧ (l.getD 9 true = false → wx.cell? ⟨gb, off + i, none⟩ = some (.string ⟨x.toArray⟩))) (by kernel_rfl) ⟨fun _ => hS9.1, fun _ => hS9.2⟩ (fun hHeld => ?_)
              refine wpL.take (i := 0) (v := ?_) rfl (by kernel_rfl) (by kernel_rfl) (by kernel_rfl) (fun _ _ _ h => h) (fun l w => by (try dsimp only); rw [getD_set_ne true (show 0 ≠ 13 by decide), getD_set_ne true (show 0 ≠ 9 by decide)]) (Or.inl ⟨by rfl, ?_⟩) hHeld (fun hH2 => ?_)
              rotate_left
              next => (intro w hSw; go_simp; (try with_reducible rfl))
              clear hHeld
              have hHeld := hH2
              clear hH2
              (try simp only [List.getElem_toArray, List.getElem_cons_zero, List.getElem_cons_succ, Act.put, List.setIfInBounds_toArray, List.set_cons_zero, List.set_cons_succ])
              refine wpL.take (i := 1) (v := ?_) rfl (by kernel_rfl) (by kernel_rfl) (by kernel_rfl) (fun _ _ _ h => h) (fun l w => by (try dsimp only); rw [getD_set_ne true (show 1 ≠ 13 by decide), getD_set_ne true (show 1 ≠ 9 by decide)]) (Or.inl ⟨by rfl, ?_⟩) hHeld (fun hH2 => ?_)
              rotate_left
              next => (intro w hSw; go_simp; (try with_reducible rfl))
              clear hHeld
              have hHeld := hH2
              clear hH2
              (try simp only [List.getElem_toArray, List.getElem_cons_zero, List.getElem_cons_succ, Act.put, List.setIfInBounds_toArray, List.set_cons_zero, List.set_cons_succ])
              refine wpL.take (i := 2) (v := ?_) rfl (by kernel_rfl) (by kernel_rfl) (by kernel_rfl) (fun _ _ _ h => h) (fun l w => by (try dsimp only); rw [getD_set_ne true (show 2 ≠ 13 by decide), getD_set_ne true (show 2 ≠ 9 by decide)]) (Or.inl ⟨by rfl, ?_⟩) hHeld (fun hH2 => ?_)
              rotate_left
              next => (intro w hSw; go_simp; (try with_reducible rfl))
              clear hHeld
              have hHeld := hH2
              clear hH2
              (try simp only [List.getElem_toArray, List.getElem_cons_zero, List.getElem_cons_succ, Act.put, List.setIfInBounds_toArray, List.set_cons_zero, List.set_cons_succ])
              refine wpL.take (i := 3) (v := ?_) rfl (by kernel_rfl) (by kernel_rfl) (by kernel_rfl) (fun _ _ _ h => h) (fun l w => by (try dsimp only); rw [getD_set_ne true (show 3 ≠ 13 by decide), getD_set_ne true (show 3 ≠ 9 by decide)]) (Or.inl ⟨by rfl, ?_⟩) hHeld (fun hH2 => ?_)
              rotate_left
              next => (intro w hSw; go_simp; (try with_reducible rfl))
              clear hHeld
              have hHeld := hH2
              clear hH2
              (try simp only [List.getElem_toArray, List.getElem_cons_zero, List.getElem_cons_succ, Act.put, List.setIfInBounds_toArray, List.set_cons_zero, List.set_cons_succ])
              refine wpL.takeG (i := 4) (g := 13) (v := ?_) (T := fun wx => wx.cell? ⟨k, 0, none⟩ = some (hv)) rfl rfl (by kernel_rfl) (by kernel_rfl) (by kernel_rfl) (by kernel_rfl) (by kernel_rfl) (fun _ _ _ h => h) (fun l w hl hS => hS.1 hl) (fun l w => by (try dsimp only); rw [getD_set_ne true (show 4 ≠ 13 by decide), getD_set_ne true (show 4 ≠ 9 by decide)]) (Or.inl ⟨by rfl, ?_⟩) hHeld (fun hH2 => ?_)
              rotate_left
              next => (intro w hSw; (try dsimp only at hSw); go_simp; (try with_reducible rfl))
              clear hHeld
              have hHeld := hH2
              clear hH2
              (try simp only [List.getElem_toArray, List.getElem_cons_zero, List.getElem_cons_succ, Act.put, List.setIfInBounds_toArray, List.set_cons_zero, List.set_cons_succ])
              refine wpL.take (i := 5) (v := ?_) rfl (by kernel_rfl) (by kernel_rfl) (by kernel_rfl) (fun _ _ _ h => h) (fun l w => by (try dsimp only); rw [getD_set_ne true (show 5 ≠ 13 by decide), getD_set_ne true (show 5 ≠ 9 by decide)]) (Or.inl ⟨by rfl, ?_⟩) hHeld (fun hH2 => ?_)
              rotate_left
              next => (intro w hSw; go_simp; (try with_reducible rfl))
              clear hHeld
              have hHeld := hH2
              clear hH2
              (try simp only [List.getElem_toArray, List.getElem_cons_zero, List.getElem_cons_succ, Act.put, List.setIfInBounds_toArray, List.set_cons_zero, List.set_cons_succ])
              refine wpL.take (i := 6) (v := ?_) rfl (by kernel_rfl) (by kernel_rfl) (by kernel_rfl) (fun _ _ _ h => h) (fun l w => by (try dsimp only); rw [getD_set_ne true (show 6 ≠ 13 by decide), getD_set_ne true (show 6 ≠ 9 by decide)]) (Or.inl ⟨by rfl, ?_⟩) hHeld (fun hH2 => ?_)
              rotate_left
              next => (intro w hSw; go_simp; (try with_reducible rfl))
              clear hHeld
              have hHeld := hH2
              clear hH2
              (try simp only [List.getElem_toArray, List.getElem_cons_zero, List.getElem_cons_succ, Act.put, List.setIfInBounds_toArray, List.set_cons_zero, List.set_cons_succ])
              refine wpL.take (i := 7) (v := ?_) rfl (by kernel_rfl) (by kernel_rfl) (by kernel_rfl) (fun _ _ _ h => h) (fun l w => by (try dsimp only); rw [getD_set_ne true (show 7 ≠ 13 by decide), getD_set_ne true (show 7 ≠ 9 by decide)]) (Or.inl ⟨by rfl, ?_⟩) hHeld (fun hH2 => ?_)
              rotate_left
              next => (intro w hSw; go_simp; (try with_reducible rfl))
              clear hHeld
              have hHeld := hH2
              clear hH2
              (try simp only [List.getElem_toArray, List.getElem_cons_zero, List.getElem_cons_succ, Act.put, List.setIfInBounds_toArray, List.set_cons_zero, List.set_cons_succ])
              refine wpL.takeG (i := 8) (g := 9) (v := ?_) (T := fun wx => wx.cell? ⟨gb, off + i, none⟩ = some (.string ⟨x.toArray⟩)) rfl rfl (by kernel_rfl) (by kernel_rfl) (by kernel_rfl) (by kernel_rfl) (by kernel_rfl) (fun _ _ _ h => h) (fun l w hl hS => hS.2 hl) (fun l w => by (try dsimp only); rw [getD_set_ne true (show 8 ≠ 13 by decide), getD_set_ne true (show 8 ≠ 9 by decide)]) (Or.inl ⟨by rfl, ?_⟩) hHeld (fun hH2 => ?_)
              rotate_left
              next => (intro w hSw; (try dsimp only at hSw); go_simp; (try with_reducible rfl))
              clear hHeld
              have hHeld := hH2
              clear hH2
              (try simp only [List.getElem_toArray, List.getElem_cons_zero, List.getElem_cons_succ, Act.put, List.setIfInBounds_toArray, List.set_cons_zero, List.set_cons_succ])
              refine wpL.ready (rs := [9]) (by kernel_rfl) (by simp) ?_
              refine AllL.cons rfl (fun K hK => ?_) AllL.nil
              go_simp
              refine hK.out _ _ ?_ (fun hH2 => ?_)
              next =>
                (try dsimp only)
                refine ⟨fun hl => ?_, fun hl => ?_⟩
                · first | (exact lNo hl (by decide +kernel)) | exact hS9.1 | exact cell_oldA hS9.1 | exact t0
                · first | (exact lNo hl (by decide +kernel)) | exact hS9.2 | exact cell_oldA hS9.2
              clear hK K hHeld
              have hHeld := hH2
              clear hH2
              (try simp only [List.getElem_toArray, List.getElem_cons_zero, List.getElem_cons_succ, Act.put, List.setIfInBounds_toArray, List.set_cons_zero, List.set_cons_succ])
              refine wpL.ready (rs := [10]) (by kernel_rfl) (by simp) ?_
              refine AllL.cons rfl (fun K hK => ?_) AllL.nil
              refine step_append_ex rfl _ _ 22 rfl hv _ rfl rfl (append_cell_run (R := Both (CellT k (rfCells f1 hv mv) tRf) (Both (RowT mv (mz f1.made)) (Both (RefT rb S1) R))) (xs := strs f1.held) (u := .string ⟨x.toArray⟩) 22 22 tSx Tryz.underlying22 info_Sx rfl (((H15.out.drew hSY).alloc hSY _).perm (by ac_rfl)) hSX (by exact cell_new _ _ _) rfl (by unfold maxLen; omega) (by omega)) ?_
              rintro ao1 cp1 w10 ⟨h10, hu10⟩
              have hstr : strs f1.held ++ [Value.string ⟨x.toArray⟩] = strs (f1.held ++ [x]) := by simp [strs]
              rw [hstr] at h10
              have h11 := h10.perm (show _ = Both (CellT k (rfCells f1 hv mv) tRf) (Both (RowG tSx 1 (.slice ao1 (f1.held.length + 1) cp1) (f1.held.length + 1) (strs (f1.held ++ [x]))) (Both (RowT mv (mz f1.made)) (Both (RefT rb S1) R))) by ac_rfl)
              have hSZ : Stable (Both (RowG tSx 1 (.slice ao1 (f1.held.length + 1) cp1) (f1.held.length + 1) (strs (f1.held ++ [x]))) (Both (RowT mv (mz f1.made)) (Both (RefT rb S1) R))) := (RowG.stable _ _ _ _ _).both ((RowT.stable _ _).both ((RefT.stable _ _).both HR.out))
              have t0 := cell_at h11.cell.1 0
              have tz := thaw_at h11.cell.1
              have tl := lt_of_heap h11.cell.1
              have h12 : At W _ (Both (CellT k (rfCells { f1 with held := f1.held ++ [x] } (.slice ao1 (f1.held.length + 1) cp1) mv) tRf) (Both (RowG tSx 1 (.slice ao1 (f1.held.length + 1) cp1) (f1.held.length + 1) (strs (f1.held ++ [x]))) (Both (RowT mv (mz f1.made)) (Both (RefT rb S1) R)))) := h11.setCell hSZ 0 (.slice ao1 (f1.held.length + 1) cp1)
              have hll : f1.held.length + 1 = (f1.held ++ [x]).length := by simp
              have h13 : At W _ (Both (RfI k { f1 with held := f1.held ++ [x] } (.slice ao1 (f1.held.length + 1) cp1) mv) (Both (RefT rb S1) R)) := h12.perm (by unfold RfI; rw [← hll]; ac_rfl)
              have H13 := Lib.hid h13
              simp only [List.getElem?_toArray, List.getElem?_cons_zero, List.getElem?_cons_succ] at t0
              clear h10 h11 h12 h13 hSZ hu10 H15 hSX hSY hS9 hstr hll c0 lk
              refine hK.out _ _ ?_ (fun hH2 => ?_)
              next =>
                (try dsimp only)
                refine ⟨fun hl => ?_, fun hl => ?_⟩
                · first | (exact lNo hl (by decide +kernel)) | exact hS9.1 | exact cell_oldA hS9.1 | exact t0
                · first | (exact lNo hl (by decide +kernel)) | exact hS9.2 | exact cell_oldA hS9.2
              clear hK K hHeld
              have hHeld := hH2
              clear hH2
              (try simp only [List.getElem_toArray, List.getElem_cons_zero, List.getElem_cons_succ, Act.put, List.setIfInBounds_toArray, List.set_cons_zero, List.set_cons_succ])
              refine wpL.ready (rs := [11]) (by kernel_rfl) (by simp) ?_
              refine AllL.cons rfl (fun K hK => ?_) AllL.nil
              go_simp
              refine hK.out _ _ ?_ (fun hH2 => ?_)
              next =>
                (try dsimp only)
                refine ⟨fun hl => ?_, fun hl => ?_⟩
                · first | (exact lNo hl (by decide +kernel)) | exact hS9.1 | exact cell_oldA hS9.1 | exact t0
                · first | (exact lNo hl (by decide +kernel)) | exact hS9.2 | exact cell_oldA hS9.2
              clear hK K hHeld
              have hHeld := hH2
              clear hH2
              (try simp only [List.getElem_toArray, List.getElem_cons_zero, List.getElem_cons_succ, Act.put, List.setIfInBounds_toArray, List.set_cons_zero, List.set_cons_succ])
              refine wpL.ready (rs := [12]) (by kernel_rfl) (by simp) ?_
              refine AllL.cons rfl (fun K hK => ?_) AllL.nil
              go_simp
              refine hK.out _ _ ?_ (fun hH2 => ?_)
              next =>
                (try dsimp only)
                refine ⟨fun hl => ?_, fun hl => ?_⟩
                · first | (exact lNo hl (by decide +kernel)) | exact hS9.1 | exact cell_oldA hS9.1 | exact t0
                · first | (exact lNo hl (by decide +kernel)) | exact hS9.2 | exact cell_oldA hS9.2
              clear hK K hHeld
              have hHeld := hH2
              clear hH2
              (try simp only [List.getElem_toArray, List.getElem_cons_zero, List.getElem_cons_succ, Act.put, List.setIfInBounds_toArray, List.set_cons_zero, List.set_cons_succ])
              refine wpL.ready (rs := [13]) (by kernel_rfl) (by simp) ?_
              refine AllL.cons rfl (fun K hK => ?_) AllL.nil
              go_simp
              refine hK.out _ _ ?_ (fun hH2 => ?_)
              next =>
                (try dsimp only)
                refine ⟨fun hl => ?_, fun hl => ?_⟩
                · first | (exact lNo hl (by decide +kernel)) | exact hS9.1 | exact cell_oldA hS9.1 | exact t0
                · first | (exact lNo hl (by decide +kernel)) | exact hS9.2 | exact cell_oldA hS9.2
              clear hK K hHeld
              have hHeld := hH2
              clear hH2
              (try simp only [List.getElem_toArray, List.getElem_cons_zero, List.getElem_cons_succ, Act.put, List.setIfInBounds_toArray, List.set_cons_zero, List.set_cons_succ])
              refine wpL.done (by kernel_rfl) ?_ _
              refine HK13.out _ _ ?_
              generalize World.setCell _ (⟨k, 0, none⟩ : Addr) _ = w4 at *
              clear hHeld t0 tz tl
              obtain ⟨g1, g2, _, _, _, gl⟩ := H13.out.rfF
              have H5 := Lib.hid (At.toRf (f := { f1 with held := f1.held ++ [x] }) H13.out)
              clear H13
              generalize hn1 : f1.held.length + 1 = n1 at *
              dsimp only at g2
              by_cases hm : f1.most ≤ n1
              · have hqq : (f1.most : Int) ≤ (n1 : Int) := by omega
                rw [if_pos hm] at hr1
                have hwc := fun (w' : World) (hb : Below w4.heap.size w4 w') => rwrite_at (H5.out.mono ((RfT.stable _ _).both ((RefT.stable _ _).both HR.out)) hb) HR.out HG1.out HFX.out (by show (f1.held ++ [x]).length ≤ _; simp; omega) HO1.out.made HO1.out.few
                obtain ⟨k1, k2, k3, k4, k5, k6⟩ := fwrite_keep (f := { f1 with held := f1.held ++ [x] }) HG1.out HS1.out HO1.out.most HFX.out HD1.out HO1.out.made HO1.out.few
                generalize fwriteP S1 { f1 with held := f1.held ++ [x] } = P at *
                by_cases hz : P.2.2 = 0
                · rw [if_pos hz] at hr1
                  rw [hz] at hwc
                  have HWC := Lib.hid hwc
                  have HK := Lib.hid k1
                  have HK2 := Lib.hid (k2.trans hz)
                  have HRR := Lib.hid hr1
                  clear hwc k1 k2 k3 k4 k5 k6 hr1 hn1 hz hm
                  (repeat' (first | go_values | go_skip | go_guarded | go_step | go_upon | go_back | dsimp only))
                  (refine region_still_tail 9 (by kernel_rfl) (by kernel_rfl) ?_; simp only [List.take_succ_cons, List.take_zero, List.drop_succ_cons, List.drop_zero]; (iterate 9 (first | ((with_reducible refine still_plain ?_ rfl ?_ ?_); rotate_left; (next => (go_simp; (try with_reducible rfl))); simp only [Act.put, List.setIfInBounds_toArray, List.set_cons_zero, List.set_cons_succ]) | ((with_reducible refine still_skip ?_ ?_); (next => (go_simp; done)); simp only [Act.put, List.setIfInBounds_toArray, List.set_cons_zero, List.set_cons_succ]) | ((with_reducible refine still_val ?_ ?_ ?_ ?_); rotate_left; (next => (go_simp; done)); (next => (go_simp; (try with_reducible rfl))); simp only [Act.put, List.setIfInBounds_toArray, List.set_cons_zero, List.set_cons_succ]))); (with_reducible refine wpStill_nil ?_))
                  (repeat' (first | go_values | go_skip | go_guarded | go_step | go_upon | go_back | dsimp only))
                  refine (HWC.out _ (Below.refl _ _).drew).mono ?_
                  rintro e w6 ⟨rfl, h6⟩
                  have H6 := Lib.hid h6
                  clear h6 HWC
                  (repeat' (first | go_values | go_skip | go_guarded | go_step | go_upon | go_back | dsimp only))
                  go_roundw
                  case rel => exact ⟨i + 1, P.1, P.2.1, rfl, hlt, HK.out.good, HK.out.seal_, HK.out.ok, HK2.out, HRR.out, H6.out⟩
                  case measure => simp [intOf]; omega
                · rw [if_neg hz] at hr1
                  have hz9 : ((P.2.2 : Int) != 0) = true := by simp; omega
                  have HWC := Lib.hid hwc
                  have HRR := Lib.hid hr1
                  clear hwc k1 k2 k3 k4 k5 k6 hr1 hn1 hz hm
                  (repeat' (first | go_values | go_skip | go_guarded | go_step | go_upon | go_back | dsimp only))
                  (refine region_still_tail 9 (by kernel_rfl) (by kernel_rfl) ?_; simp only [List.take_succ_cons, List.take_zero, List.drop_succ_cons, List.drop_zero]; (iterate 9 (first | ((with_reducible refine still_plain ?_ rfl ?_ ?_); rotate_left; (next => (go_simp; (try with_reducible rfl))); simp only [Act.put, List.setIfInBounds_toArray, List.set_cons_zero, List.set_cons_succ]) | ((with_reducible refine still_skip ?_ ?_); (next => (go_simp; done)); simp only [Act.put, List.setIfInBounds_toArray, List.set_cons_zero, List.set_cons_succ]) | ((with_reducible refine still_val ?_ ?_ ?_ ?_); rotate_left; (next => (go_simp; done)); (next => (go_simp; (try with_reducible rfl))); simp only [Act.put, List.setIfInBounds_toArray, List.set_cons_zero, List.set_cons_succ]))); (with_reducible refine wpStill_nil ?_))
                  (repeat' (first | go_values | go_skip | go_guarded | go_step | go_upon | go_back | dsimp only))
                  refine (HWC.out _ (Below.refl _ _).drew).mono ?_
                  rintro e w6 ⟨rfl, h6⟩
                  have H6 := Lib.hid h6
                  clear h6 HWC
                  (repeat' (first | go_values | go_skip | go_guarded | go_step | go_upon | go_back | dsimp only))
                  go_ret
                  rw [HRR.out]
                  exact ⟨rfl, H6.out⟩
              · have hqq : ¬ (f1.most : Int) ≤ (n1 : Int) := by omega
                rw [if_neg hm] at hr1
                have HRR := Lib.hid hr1
                have HM := Lib.hid hm
                have HN1 := Lib.hid hn1
                clear hr1 hn1 hm
                (repeat' (first | go_values | go_skip | go_guarded | go_step | go_upon | go_back | dsimp only))
                (refine region_still_tail 9 (by kernel_rfl) (by kernel_rfl) ?_; simp only [List.take_succ_cons, List.take_zero, List.drop_succ_cons, List.drop_zero]; (iterate 9 (first | ((with_reducible refine still_plain ?_ rfl ?_ ?_); rotate_left; (next => (go_simp; (try with_reducible rfl))); simp only [Act.put, List.setIfInBounds_toArray, List.set_cons_zero, List.set_cons_succ]) | ((with_reducible refine still_skip ?_ ?_); (next => (go_simp; done)); simp only [Act.put, List.setIfInBounds_toArray, List.set_cons_zero, List.set_cons_succ]) | ((with_reducible refine still_val ?_ ?_ ?_ ?_); rotate_left; (next => (go_simp; done)); (next => (go_simp; (try with_reducible rfl))); simp only [Act.put, List.setIfInBounds_toArray, List.set_cons_zero, List.set_cons_succ]))); (with_reducible refine wpStill_nil ?_))
                (repeat' (first | go_values | go_skip | go_guarded | go_step | go_upon | go_back | dsimp only))
                go_roundw
                case rel => exact ⟨i + 1, S1, { f1 with held := f1.held ++ [x] }, rfl, hlt, HG1.out, HS1.out, ⟨HO1.out.most, fun _ => by show (f1.held ++ [x]).length < f1.most; have := HM.out; have := HN1.out; simp; omega, HFX.out, HO1.out.code, HO1.out.made, HO1.out.few⟩, HD1.out, HRR.out, H5.out.mono ((RfT.stable _ _).both ((RefT.stable _ _).both HR.out)) (Below.refl _ _).drew⟩
                case measure => simp [intOf]; omega
            · have hi1 : ¬ (i : Int) < ws.length := by omega
              have hdn : ws.drop i = [] := List.drop_eq_nil_of_le (by omega)
              rw [hdn, addL_nil] at hr1
              have HRR := Lib.hid hr1
              have H1 := Lib.hid h1
              clear h1 hr1 hdn hg1 hs1 ho1 hd1
              (repeat' (first | go_values | go_skip | go_guarded | go_step | go_upon | go_back | dsimp only))
              go_ret
              rw [HRR.out]
              exact ⟨rfl, H1.out⟩
  · rw [if_pos hd] at hres
    have hdz : ((f.dead : Int) != 0) = true := by simp; omega
    have HRES := Lib.hid hres
    clear h hh0 hR hG hS hO hrd hx hres hd
    go_enter Tryz.func49, Tryz.ntmps49
    (repeat' (first | go_values | go_skip | go_guarded | go_step | go_upon | go_back | dsimp only))
    go_ret
    rw [HRES.out]
    exact ⟨rfl, H.out⟩
end
def okB (c : Nat) : Prop := c = 0 ∨ c = 7 ∨ c = 8 ∨ c = 9 ∨ c = 10 ∨ c = 13
theorem okB_zero : okB 0 := .inl rfl
section
variable {S0 S : St} {r : Nat} {t : List UInt8}
theorem TopOpen.appendC (h : TopOpen S0 S r t) (s : List UInt8) : (appendP S r s).2 = 0 ∨ (appendP S r s).2 = 7 ∨ (appendP S r s).2 = 9 := by
  unfold appendP withRun
  rw [h.find]
  dsimp only
  split
  · exact .inr (.inr rfl)
  · split
    · rename_i h; cases h
    · split
      · exact .inr (.inl rfl)
      · exact .inl rfl
theorem TopOpen.sealC (h : TopOpen S0 S r t) : (sealP S r).2 = 0 ∨ (sealP S r).2 = 9 := by
  unfold sealP withRun
  rw [h.find]
  dsimp only
  split
  · exact .inr rfl
  · split
    · rename_i h; cases h
    · exact .inl rfl
theorem flushP_codeB {x : WrD} (h : TopOpen S0 S r t) (hx : x.run = r) (n : Nat) : okB (flushP S x n).2.2 := by
  unfold flushP
  rw [hx]
  rcases h.appendC (x.buf.take n) with e | e | e
  · rw [if_pos e]; exact okB_zero
  · rw [if_neg (by rw [e]; decide)]; rw [e]; exact .inr (.inl rfl)
  · rw [if_neg (by rw [e]; decide)]; rw [e]; exact .inr (.inr (.inr (.inl rfl)))
theorem putL_codeB : ∀ (n : Nat) {S : St} {t : List UInt8} {x : WrD}, TopOpen S0 S r t → x.run = r → okB (putL n S x).2.2
  | 0, S, t, x, h, hx => okB_zero
  | n + 1, S, t, x, h, hx => by
    unfold putL
    by_cases hge : x.block ≤ x.buf.length
    · rw [if_pos hge]
      rcases flushP_top h hx x.block with ⟨h1, h2, h3⟩ | ⟨h1, h2, h3⟩
      · rw [if_pos h1]
        exact putL_codeB n h2 (by rw [h3]; exact hx)
      · rw [if_neg h1]
        exact flushP_codeB h hx _
    · rw [if_neg hge]
      exact okB_zero
theorem written_codeB (hG : GoodS S) {L : List (List UInt8)} (hL : fits L = true) : okB (writtenP S L).2.2 := by
  unfold writtenP
  by_cases hc : (createP S).2.2 = 0
  · rw [if_neg (by simpa using hc)]
    obtain ⟨h1, _⟩ := create_top hG hc
    obtain ⟨t', g1, g2, g3, g4, g5, g6, g7⟩ := putP_top (x := ⟨(createP S).2.1, 512, [], 0⟩) (L := L) h1 rfl rfl hL
    dsimp only
    have hpc : okB (putP (createP S).1 ⟨(createP S).2.1, 512, [], 0⟩ L).2.2 := by
      unfold putP
      rw [if_neg (by simp), if_neg (by simp [hL])]
      exact putL_codeB _ h1 rfl
    by_cases hp : (putP (createP S).1 ⟨(createP S).2.1, 512, [], 0⟩ L).2.2 = 0
    · rw [if_neg (by simpa using hp)]
      obtain ⟨g8, _⟩ := g4 hp
      have hcc : okB (closeP (putP (createP S).1 ⟨(createP S).2.1, 512, [], 0⟩ L).1 (putP (createP S).1 ⟨(createP S).2.1, 512, [], 0⟩ L).2.1).2.2.2 := by
        generalize (putP (createP S).1 ⟨(createP S).2.1, 512, [], 0⟩ L).1 = S1 at *
        generalize (putP (createP S).1 ⟨(createP S).2.1, 512, [], 0⟩ L).2.1 = x at *
        unfold closeP
        rw [if_neg (by simpa using g8)]
        have hrc : okB (restP S1 x).2.2 := by
          unfold restP
          split
          · exact okB_zero
          · exact flushP_codeB g1 g2 _
        rcases restP_top g1 g2 g8 with ⟨k1, k2, k3⟩ | ⟨k1, _⟩
        · rw [if_neg (by simpa using k1), k3]
          rcases k2.sealC with e | e
          · rw [if_neg (by simpa using e)]; exact okB_zero
          · rw [if_pos (by rw [e]; decide)]; rw [e]; exact .inr (.inr (.inr (.inl rfl)))
        · rw [if_pos k1]
          exact hrc
      split
      · exact hcc
      · exact okB_zero
    · rw [if_pos hp]
      exact hpc
  · rw [if_pos hc]
    show okB (createP S).2.2
    unfold createP
    split
    · exact .inr (.inr (.inr (.inl rfl)))
    · split
      · exact .inr (.inr (.inl rfl))
      · exact okB_zero
end
section
variable {S : St} {f : FmD}
theorem fwrite_codeB (hG : GoodS S) (hf : fits f.held = true) (hd : f.dead = 0) : okB (fwriteP S f).2.2 ∧ okB (fwriteP S f).2.1.dead := by
  have h := written_codeB hG (fits_ofL hf)
  unfold fwriteP
  split
  · exact ⟨okB_zero, by show okB f.dead; rw [hd]; exact okB_zero⟩
  · exact ⟨h, h⟩
theorem addL_codeB : ∀ (ws : List (List UInt8)) {S : St} {f : FmD}, GoodS S → Sealed S → FOk S f → f.dead = 0 → fits ws = true → okB (addL S f ws).2.2 ∧ okB (addL S f ws).2.1.dead
  | [], S, f, _, _, _, hd, _ => ⟨okB_zero, by show okB f.dead; rw [hd]; exact okB_zero⟩
  | x :: ws, S, f, hG, hs, hF, hd, hw => by
    obtain ⟨hw1, hw2⟩ := fits_cons.1 hw
    have hx : fits (f.held ++ [x]) = true := fits_append.2 ⟨hF.fit, by simp [fits, hw1]⟩
    have hl := hF.less hd
    rw [addL_cons]
    by_cases hm : f.most ≤ f.held.length + 1
    · rw [if_pos hm]
      obtain ⟨h1, h2, h3, h4, h5, h6⟩ := fwrite_keep (f := { f with held := f.held ++ [x] }) hG hs hF.most hx hd hF.made hF.few
      by_cases hc : (fwriteP S { f with held := f.held ++ [x] }).2.2 = 0
      · rw [if_pos hc]
        exact addL_codeB ws h1.good h1.seal_ h1.ok (h2.trans hc) hw2
      · rw [if_neg hc]
        exact fwrite_codeB (f := { f with held := f.held ++ [x] }) hG hx hd
    · rw [if_neg hm]
      exact addL_codeB ws (f := { f with held := f.held ++ [x] }) hG hs ⟨hF.most, fun _ => by show (f.held ++ [x]).length < f.most; simp; omega, hx, hF.code, hF.made, hF.few⟩ hd hw2
theorem addP_codeB (hG : GoodS S) (hs : Sealed S) (hF : FOk S f) (hb : okB f.dead) (ws : List (List UInt8)) : okB (addP S f ws).2.2 ∧ okB (addP S f ws).2.1.dead := by
  unfold addP
  by_cases hd : f.dead = 0
  · rw [if_neg (by simpa using hd)]
    by_cases hw : fits ws = false
    · rw [if_pos hw]
      exact ⟨.inr (.inr (.inr (.inr (.inl rfl)))), hb⟩
    · rw [if_neg hw]
      exact addL_codeB ws hG hs hF hd (by simpa using hw)
  · rw [if_pos hd]
    exact ⟨hb, hb⟩
theorem finishP_codeB (hG : GoodS S) (hF : FOk S f) (hb : okB f.dead) : okB (finishP S f).2.2.2 ∧ okB (finishP S f).2.1.dead := by
  have h13 : okB 13 := .inr (.inr (.inr (.inr (.inr rfl))))
  unfold finishP
  by_cases hd : f.dead = 0
  · rw [if_neg (by simpa using hd)]
    by_cases hh : f.held = []
    · rw [if_pos hh]
      exact ⟨okB_zero, h13⟩
    · rw [if_neg hh]
      have h := fwrite_codeB hG hF.fit hd
      split
      · exact ⟨okB_zero, h13⟩
      · exact h
  · rw [if_pos hd]
    exact ⟨hb, hb⟩
end
theorem risB_sub : ∀ (l : List (List UInt8)) (o : Option (List UInt8)), ∀ r ∈ risB o l, r ∈ l
  | [], _, r, h => by simp [risB] at h
  | x :: l, o, r, h => by
    rw [risB] at h
    split at h
    · rcases List.mem_cons.1 h with rfl | h
      · exact List.mem_cons_self
      · exact List.mem_cons_of_mem _ (risB_sub l _ r h)
    · cases h
theorem headsL_fitsN : ∀ (n : Nat) (T : List UInt8), T.length ≤ n → fits (headsL T).1 = true
  | 0, T, h => by
    have : T = [] := List.eq_nil_of_length_eq_zero (by omega)
    subst this
    rw [headsL_nil]; rfl
  | n + 1, T, h => by
    by_cases h0 : T = []
    · subst h0; rw [headsL_nil]; rfl
    · by_cases h1 : (nextAt T 0).2.2 = 0
      · rw [headsL_ok h0 h1]
        have h2 := nextAt_ok h1
        have hl : 0 < T.length := List.length_pos_iff.2 h0
        exact fits_cons.2 ⟨by omega, headsL_fitsN n _ (by rw [List.length_drop]; omega)⟩
      · rw [headsL_err h0 h1]; rfl
theorem standsP_fits (S : St) (z : Int) : fits (standsP S z) = true := fits_mem.2 fun r hr => fits_mem.1 (headsL_fitsN _ _ (Nat.le_refl _)) r (risB_sub _ _ r hr)
theorem allP_fits (S : St) (l : List Int) : fits (allP S l) = true := fits_ofL (fits_mem.2 fun r hr => by
  obtain ⟨L, hL, hr⟩ := List.mem_flatten.1 hr
  obtain ⟨z, _, rfl⟩ := List.mem_map.1 hL
  exact fits_mem.1 (standsP_fits S z) r hr)
theorem risB_all : ∀ (L : List (List UInt8)) (o : Option (List UInt8)), (∀ y, o = some y → ∀ z ∈ L, LtW y z) → RisesL L → risB o L = L
  | [], _, _, _ => rfl
  | x :: L, o, ho, h => by
    have hx : upQ o x = true := by
      cases o with
      | none => rfl
      | some y => exact ho y rfl x List.mem_cons_self
    rw [risB_yes hx, risB_all L (some x) (fun y hy z hz => by cases hy; exact (List.pairwise_cons.1 h).1 z hz) (List.pairwise_cons.1 h).2]
theorem standsP_of {S : St} (hG : GoodS S) {n : Nat} {L : List (List UInt8)} (hm : (n, (⟨frameL L, true⟩ : RunD)) ∈ S.runs) (hf : fits L = true) (hr : RisesL L) : standsP S n = L := by
  have h1 : readT S n 0 (sizeN S n : Nat) = frameL L := by
    have hfd := find_of_mem hG hm
    unfold readT sizeN
    rw [hfd]
    dsimp only
    rw [if_neg (by decide), if_neg (by omega)]
    simp
  unfold standsP
  rw [h1, headsL_frame hf]
  exact risB_all L none (fun y h => by cases h) hr
theorem goneZ_good : ∀ (l : List Int) {S : St}, GoodS S → GoodS (goneZ S l) ∧ (goneZ S l).made = S.made ∧ (goneZ S l).runs = S.runs.filter (fun q => decide ((q.1 : Int) ∉ l)) ∧ (goneZ S l).cap = S.cap ∧ (goneZ S l).peak = S.peak ∧ (goneZ S l).left = S.left
  | [], S, h => ⟨h, rfl, (List.filter_eq_self.2 (by simp)).symm, rfl, rfl, rfl⟩
  | z :: l, S, h => by
    obtain ⟨h1, h2, h3, h4, h5, h6⟩ := goneZ_good l (h.remove z)
    have hr : (removeP S z).1.runs = S.runs.filter (fun q => (q.1 : Int) != z) ∧ (removeP S z).1.cap = S.cap ∧ (removeP S z).1.peak = S.peak ∧ (removeP S z).1.left = S.left := by
      unfold removeP
      cases hf : S.find z with
      | none =>
        dsimp only
        refine ⟨(List.filter_eq_self.2 fun q hq => ?_).symm, rfl, rfl, rfl⟩
        have := List.find?_eq_none.1 hf q hq
        simpa using this
      | some p =>
        have hp := find_mem hf
        refine ⟨?_, rfl, rfl, rfl⟩
        show S.runs.filter (fun q => q.1 != p.1) = _
        congr 1
        funext q
        have := hp.2
        by_cases e : q.1 = p.1
        · have e2 : (q.1 : Int) = z := by omega
          rw [e2, e]
          simp
        · have e2 : ¬ (q.1 : Int) = z := by omega
          rw [bne_iff_ne.2 e, bne_iff_ne.2 e2]
    refine ⟨h1, h2.trans (made_remove S z), ?_, h4.trans hr.2.1, h5.trans hr.2.2.1, h6.trans hr.2.2.2⟩
    show (goneZ (removeP S z).1 l).runs = _
    rw [h3, hr.1, List.filter_filter]
    congr 1
    funext q
    by_cases e : (q.1 : Int) = z <;> simp [e]
abbrev runM (q : Nat × List (List UInt8)) : Nat × RunD := (q.1, ⟨frameL q.2, true⟩)
abbrev numZ (M : List (Nat × List (List UInt8))) : List Int := M.map fun q => (q.1 : Int)
structure MgI (B : List (Nat × RunD)) (S : St) (M : List (Nat × List (List UInt8))) : Prop where
  good : GoodS S
  runs : S.runs = B ++ M.map runM
  fit : ∀ q ∈ M, fits q.2 = true ∧ RisesL q.2
section
variable {B : List (Nat × RunD)} {S : St} {M : List (Nat × List (List UInt8))}
theorem MgI.stands (h : MgI B S M) {q : Nat × List (List UInt8)} (hq : q ∈ M) : standsP S q.1 = q.2 :=
  standsP_of h.good (by rw [h.runs]; exact List.mem_append_right _ (List.mem_map_of_mem (f := runM) hq)) (h.fit q hq).1 (h.fit q hq).2
theorem MgI.all (h : MgI B S M) {T : List (Nat × List (List UInt8))} (hT : ∀ q ∈ T, q ∈ M) : allP S (numZ T) = ofL (T.map (·.2)).flatten := by
  unfold allP numZ
  rw [List.map_map]
  congr 2
  exact List.map_congr_left fun q hq => h.stands (hT q hq)
theorem ofL_join (a b : List (List (List UInt8))) : ofL (b ++ [ofL a.flatten]).flatten = ofL (a ++ b).flatten :=
  RisesL.ext (ofL_rises _) (ofL_rises _) fun x => by
    rw [ofL_mem, ofL_mem]
    simp only [List.flatten_append, List.mem_append, List.flatten_cons, List.flatten_nil, List.append_nil, ofL_mem]
    exact or_comm
theorem filter_off {l : List (Nat × RunD)} {zs : List Int} (h : ∀ q ∈ l, (q.1 : Int) ∉ zs) : l.filter (fun q => decide ((q.1 : Int) ∉ zs)) = l := List.filter_eq_self.2 fun q hq => decide_eq_true (h q hq)
theorem filter_in {l : List (Nat × RunD)} {zs : List Int} (h : ∀ q ∈ l, (q.1 : Int) ∈ zs) : l.filter (fun q => decide ((q.1 : Int) ∉ zs)) = [] := List.filter_eq_nil_iff.2 fun q hq => by simp [h q hq]
theorem MgI.rise (h : MgI B S M) : (B ++ M.map runM).Pairwise fun p q => p.1 < q.1 := by rw [← h.runs]; exact h.good.rising
theorem MgI.top (h : MgI B S M) : ∀ q ∈ B ++ M.map runM, q.1 ≤ S.made := fun q hq => (h.good.inside q (by rw [h.runs]; exact hq)).2
theorem MgI.yes (h : MgI B S M) (k : Nat) (h0 : (writtenP S (allP S (numZ (M.take k)))).2.2 = 0) :
    (writtenP S (allP S (numZ (M.take k)))).2.1 = S.made + 1 ∧ MgI B (goneZ (writtenP S (allP S (numZ (M.take k)))).1 (numZ (M.take k))) (M.drop k ++ [(S.made + 1, ofL ((M.take k).map (·.2)).flatten)]) ∧ (goneZ (writtenP S (allP S (numZ (M.take k)))).1 (numZ (M.take k))).made = S.made + 1 := by
  obtain ⟨g1, _, ⟨_, g2, g3, g4⟩ | ⟨g2, _⟩⟩ := written_top (L := allP S (numZ (M.take k))) h.good (allP_fits _ _)
  · obtain ⟨k1, k2, k3, _⟩ := goneZ_good (numZ (M.take k)) g1
    have hr := h.rise
    rw [List.pairwise_append] at hr
    refine ⟨g2, ⟨k1, ?_, fun q hq => ?_⟩, k2.trans g3⟩
    · rw [k3, g4, h.runs, h.all (fun q hq => List.mem_of_mem_take hq)]
      have hM : M.map runM = (M.take k).map runM ++ (M.drop k).map runM := by rw [← List.map_append, List.take_append_drop]
      have hd := hr.2.1
      rw [hM, List.pairwise_append] at hd
      have e1 : B.filter (fun q => decide ((q.1 : Int) ∉ numZ (M.take k))) = B := filter_off fun q hq hm => by
        obtain ⟨p, hp, he⟩ := List.mem_map.1 hm
        have := hr.2.2 q hq (runM p) (List.mem_map_of_mem (List.mem_of_mem_take hp))
        simp at this
        omega
      have e2 : ((M.take k).map runM).filter (fun q => decide ((q.1 : Int) ∉ numZ (M.take k))) = [] := filter_in fun q hq => by
        obtain ⟨p, hp, rfl⟩ := List.mem_map.1 hq
        exact List.mem_map_of_mem (f := fun q : Nat × List (List UInt8) => (q.1 : Int)) hp
      have e3 : ((M.drop k).map runM).filter (fun q => decide ((q.1 : Int) ∉ numZ (M.take k))) = (M.drop k).map runM := filter_off fun q hq hm => by
        obtain ⟨p, hp, he⟩ := List.mem_map.1 hm
        have := hd.2.2 (runM p) (List.mem_map_of_mem hp) q hq
        simp at this
        omega
      have e4 : [((S.made + 1, ⟨frameL (ofL ((M.take k).map (·.2)).flatten), true⟩) : Nat × RunD)].filter (fun q => decide ((q.1 : Int) ∉ numZ (M.take k))) = [(S.made + 1, ⟨frameL (ofL ((M.take k).map (·.2)).flatten), true⟩)] := filter_off fun q hq hm => by
        obtain ⟨p, hp, he⟩ := List.mem_map.1 hm
        have := h.top (runM p) (List.mem_append_right _ (List.mem_map_of_mem (List.mem_of_mem_take hp)))
        simp at hq
        subst hq
        simp at this he
        omega
      rw [hM, List.filter_append, List.filter_append, List.filter_append, e1, e2, e3, e4]
      simp
    · rcases List.mem_append.1 hq with hq | hq
      · exact h.fit q (List.mem_of_mem_drop hq)
      · obtain rfl := List.mem_singleton.1 hq
        have := allP_fits S (numZ (M.take k))
        rw [h.all (fun q hq => List.mem_of_mem_take hq)] at this
        exact ⟨this, ofL_rises _⟩
  · exact absurd h0 g2
theorem MgI.no (h : MgI B S M) (k : Nat) (h0 : (writtenP S (allP S (numZ (M.take k)))).2.2 ≠ 0) :
    (goneZ (writtenP S (allP S (numZ (M.take k)))).1 (numZ M)).runs = B ∧ GoodS (goneZ (writtenP S (allP S (numZ (M.take k)))).1 (numZ M)) := by
  obtain ⟨g1, _, ⟨g2, _⟩ | ⟨_, _, g4, _⟩⟩ := written_top (L := allP S (numZ (M.take k))) h.good (allP_fits _ _)
  · exact absurd g2 h0
  · obtain ⟨k1, k2, k3, _⟩ := goneZ_good (numZ M) g1
    have hr := h.rise
    rw [List.pairwise_append] at hr
    refine ⟨?_, k1⟩
    rw [k3, g4, h.runs, List.filter_append, filter_off (l := B) fun q hq hm => by
        obtain ⟨p, hp, he⟩ := List.mem_map.1 hm
        have := hr.2.2 q hq (runM p) (List.mem_map_of_mem hp)
        simp at this
        omega,
      filter_in (l := M.map runM) fun q hq => by
        obtain ⟨p, hp, rfl⟩ := List.mem_map.1 hq
        exact List.mem_map_of_mem (f := fun q : Nat × List (List UInt8) => (q.1 : Int)) hp, List.append_nil]
end
structure LostOf (S : St) (b : Nat) (ws : List (List UInt8)) : Prop where
  good : GoodS (addP S (newF b) ws).1
  seal_ : Sealed (addP S (newF b) ws).1
  fok : FOk (addP S (newF b) ws).1 (addP S (newF b) ws).2.1
  cA : okB (addP S (newF b) ws).2.2
  fin : FKeep (addP S (newF b) ws).1 (finishP (addP S (newF b) ws).1 (addP S (newF b) ws).2.1).1 (addP S (newF b) ws).2.1 (finishP (addP S (newF b) ws).1 (addP S (newF b) ws).2.1).2.1
  cF : okB (finishP (addP S (newF b) ws).1 (addP S (newF b) ws).2.1).2.2.2
  yes : (finishP (addP S (newF b) ws).1 (addP S (newF b) ws).2.1).2.2.2 = 0 → (finishP (addP S (newF b) ws).1 (addP S (newF b) ws).2.1).2.1.dead = 13 ∧ (finishP (addP S (newF b) ws).1 (addP S (newF b) ws).2.1).1.runs.length = (finishP (addP S (newF b) ws).1 (addP S (newF b) ws).2.1).2.2.1.length
  no : (finishP (addP S (newF b) ws).1 (addP S (newF b) ws).2.1).2.2.2 ≠ 0 → (finishP (addP S (newF b) ws).1 (addP S (newF b) ws).2.1).2.1.dead = (finishP (addP S (newF b) ws).1 (addP S (newF b) ws).2.1).2.2.2 ∧
    (finishP (addP S (newF b) ws).1 (addP S (newF b) ws).2.1).1.runs = [] ∧ (finishP (addP S (newF b) ws).1 (addP S (newF b) ws).2.1).2.2.1 = [] ∧ (finishP (addP S (newF b) ws).1 (addP S (newF b) ws).2.1).1.made ≤ ws.length + 1
theorem ofL_same {L : List (List UInt8)} (h : RisesL L) : ofL L = L := RisesL.ext (ofL_rises L) h fun x => ofL_mem L x
section
variable {B : List (Nat × RunD)}
theorem numZ_take (M : List (Nat × List (List UInt8))) (k : Nat) : (numZ M).take k = numZ (M.take k) := by unfold numZ; rw [List.map_take]
theorem numZ_drop (M : List (Nat × List (List UInt8))) (k : Nat) : (numZ M).drop k = numZ (M.drop k) := by unfold numZ; rw [List.map_drop]
def MgEnd (B : List (Nat × RunD)) (U : List (List UInt8)) (r : St × Int × Nat) : Prop :=
  (r.2.2 = 0 ∧ ∃ m : Nat, r.2.1 = (m : Int) ∧ MgI B r.1 [(m, U)]) ∨ (r.2.2 ≠ 0 ∧ r.2.1 = 0 ∧ r.1.runs = B ∧ GoodS r.1)
theorem loop_end (fan : Nat) (hf : 2 ≤ fan) : ∀ (n : Nat) {S : St} {M : List (Nat × List (List UInt8))}, MgI B S M → 1 ≤ M.length → M.length ≤ n → MgEnd B (ofL (M.map (·.2)).flatten) (loopM fan n S (numZ M))
  | 0, S, M, _, h1, h2 => absurd h1 (by omega)
  | n + 1, S, M, h, h1, h2 => by
    unfold loopM
    by_cases hl : (numZ M).length ≤ 1
    · rw [if_pos hl]
      have hl2 : M.length = 1 := by
        have : (numZ M).length = M.length := by simp [numZ]
        omega
      obtain ⟨q, rfl⟩ := List.length_eq_one_iff.1 hl2
      refine .inl ⟨rfl, q.1, rfl, ?_⟩
      have : ofL ([q].map (·.2)).flatten = q.2 := by
        simp only [List.map_cons, List.map_nil, List.flatten_cons, List.flatten_nil, List.append_nil]
        exact ofL_same (h.fit q (List.mem_singleton_self _)).2
      rw [this]
      exact h
    · rw [if_neg hl, numZ_take, numZ_drop]
      have hl2 : 1 < M.length := by
        have : (numZ M).length = M.length := by simp [numZ]
        omega
      by_cases hz : (writtenP S (allP S (numZ (M.take fan)))).2.2 ≠ 0
      · rw [if_pos hz]
        obtain ⟨g1, g2⟩ := h.no fan hz
        exact .inr ⟨hz, rfl, g1, g2⟩
      · rw [if_neg hz]
        obtain ⟨g1, g2, _⟩ := h.yes fan (by simpa using hz)
        rw [g1]
        have hd : (M.drop fan ++ [(S.made + 1, ofL ((M.take fan).map (·.2)).flatten)]).length = M.length - fan + 1 := by simp
        have ih := loop_end fan hf n g2 (by omega) (by omega)
        have e : ofL ((M.drop fan ++ [(S.made + 1, ofL ((M.take fan).map (·.2)).flatten)]).map (·.2)).flatten = ofL (M.map (·.2)).flatten := by
          have e1 := ofL_join ((M.take fan).map (·.2)) ((M.drop fan).map (·.2))
          rw [← List.map_append, List.take_append_drop] at e1
          rw [← e1, List.map_append]
          rfl
        rw [e] at ih
        have e2 : numZ (M.drop fan) ++ [((S.made + 1 : Nat) : Int)] = numZ (M.drop fan ++ [(S.made + 1, ofL ((M.take fan).map (·.2)).flatten)]) := by simp [numZ]
        rw [e2]
        exact ih
end
structure FormB (B : List (Nat × RunD)) (m0 : Nat) (S : St) (f : FmD) (Ls : List (List (List UInt8))) : Prop where
  good : GoodS S
  runs : S.runs = B ++ runsL (m0 + 1) Ls
  made : S.made = m0 + Ls.length
  list : f.made = List.range' (m0 + 1) Ls.length
  each : ∀ L ∈ Ls, L.length = f.most
section
variable {B : List (Nat × RunD)} {m0 : Nat}
section
variable {S : St} {f : FmD} {Ls : List (List (List UInt8))}
theorem FormB.write (h : FormB B m0 S f Ls) (hf : fits f.held = true) :
    ((fwriteP S f).2.2 = 0 ∧ (fwriteP S f).1.runs = B ++ runsL (m0 + 1) (Ls ++ [f.held]) ∧ (fwriteP S f).1.made = m0 + Ls.length + 1 ∧ GoodS (fwriteP S f).1 ∧ (fwriteP S f).2.1 = ⟨[], f.most, List.range' (m0 + 1) (Ls.length + 1), f.dead⟩) ∨
    ((fwriteP S f).2.2 ≠ 0 ∧ (fwriteP S f).1.runs = B ∧ GoodS (fwriteP S f).1 ∧ (fwriteP S f).1.made ≤ m0 + Ls.length + 1 ∧ (fwriteP S f).2.1 = ⟨f.held, f.most, [], (fwriteP S f).2.2⟩) := by
  obtain ⟨h1, h2, h3⟩ := written_top h.good (fits_ofL hf)
  have hmm : (writtenP S (ofL f.held)).1.made ≤ S.made + 1 := written_made S _
  have hmd := h.made
  unfold fwriteP
  rcases h3 with ⟨k1, k2, k3, k4⟩ | ⟨k1, k2, k3, k4, k5⟩
  · rw [if_pos k1]
    refine .inl ⟨rfl, ?_, by rw [← hmd]; exact k3, h1, ?_⟩
    · rw [runsL_append, ← List.append_assoc, ← h.runs, show m0 + 1 + Ls.length = S.made + 1 by omega]
      exact k4
    · rw [h.list, k2, hmd, List.range'_concat]
      simp [show m0 + Ls.length + 1 = m0 + 1 + Ls.length by omega]
  · rw [if_neg k1]
    obtain ⟨g1, g2, g3⟩ := gone_good f.made h1
    have hr := h.good.rising
    rw [h.runs, List.pairwise_append] at hr
    refine .inr ⟨k1, ?_, g1, by rw [g2, ← hmd]; exact hmm, rfl⟩
    rw [g3, k3, h.runs, List.filter_append, show B.filter (fun q => decide (q.1 ∉ f.made)) = B from List.filter_eq_self.2 ?_, List.filter_eq_nil_iff.2, List.append_nil]
    · intro q hq
      have : q.1 ∈ (runsL (m0 + 1) Ls).map (·.1) := List.mem_map_of_mem hq
      rw [runsL_num, ← h.list] at this
      simpa using this
    · intro q hq
      refine decide_eq_true fun hm => ?_
      rw [h.list, ← runsL_num] at hm
      obtain ⟨p, hp, he⟩ := List.mem_map.1 hm
      have := hr.2.2 q hq p hp
      omega
end
theorem addL_formB : ∀ (ws : List (List UInt8)) {S : St} {f : FmD} {Ls : List (List (List UInt8))}, FormB B m0 S f Ls → 1 ≤ f.most → f.held.length < f.most → fits f.held = true → f.dead = 0 → fits ws = true →
    ((addL S f ws).2.2 = 0 ∧ ∃ Ms, FormB B m0 (addL S f ws).1 (addL S f ws).2.1 (Ls ++ Ms) ∧ (addL S f ws).2.1.dead = 0 ∧ (addL S f ws).2.1.most = f.most ∧ (addL S f ws).2.1.held.length < f.most ∧ Ms.flatten ++ (addL S f ws).2.1.held = f.held ++ ws ∧ fits (addL S f ws).2.1.held = true ∧ Ms.length ≤ ws.length) ∨
    ((addL S f ws).2.2 ≠ 0 ∧ (addL S f ws).1.runs = B ∧ GoodS (addL S f ws).1 ∧ (addL S f ws).1.made ≤ m0 + Ls.length + ws.length ∧ (addL S f ws).2.1.made = [] ∧ (addL S f ws).2.1.dead = (addL S f ws).2.2)
  | [], S, f, Ls, hF, hm, hl, hf, hd, hw => .inl ⟨rfl, [], by simpa [addL] using hF, hd, rfl, hl, by simp [addL], hf, Nat.le_refl _⟩
  | x :: ws, S, f, Ls, hF, hm, hl, hf, hd, hw => by
    obtain ⟨hw1, hw2⟩ := fits_cons.1 hw
    have hx : fits (f.held ++ [x]) = true := fits_append.2 ⟨hf, by simp [fits, hw1]⟩
    have hF1 : FormB B m0 S { f with held := f.held ++ [x] } Ls := ⟨hF.good, hF.runs, hF.made, hF.list, hF.each⟩
    unfold addL
    by_cases hmm : f.most ≤ f.held.length + 1
    · rw [if_pos hmm]
      rcases hF1.write hx with ⟨h1, h2, h3, h4, h5⟩ | ⟨h1, h2, h3, h4, h5⟩
      · rw [if_pos h1]
        have hF2 : FormB B m0 (fwriteP S { f with held := f.held ++ [x] }).1 (fwriteP S { f with held := f.held ++ [x] }).2.1 (Ls ++ [f.held ++ [x]]) := by
          refine ⟨h4, h2, by rw [h3]; simp; omega, by rw [h5]; simp, fun L hL => ?_⟩
          rw [h5]
          rcases List.mem_append.1 hL with h | h
          · exact hF.each L h
          · simp at h; subst h
            show (f.held ++ [x]).length = f.most
            simp; omega
        have hh : (fwriteP S { f with held := f.held ++ [x] }).2.1.held = [] := by rw [h5]
        have hmo : (fwriteP S { f with held := f.held ++ [x] }).2.1.most = f.most := by rw [h5]
        rcases addL_formB ws hF2 (by rw [hmo]; exact hm) (by rw [hh, hmo]; exact hm) (by rw [hh]; rfl) (by rw [h5]; exact hd) hw2 with ⟨g1, Ms, g2, g3, g4, g5, g6, g7, g8⟩ | ⟨g1, g2, g3, g4, g5, g6⟩
        · refine .inl ⟨g1, (f.held ++ [x]) :: Ms, by rw [List.append_assoc] at g2; exact g2, g3, g4.trans hmo, Nat.lt_of_lt_of_eq g5 hmo, ?_, g7, by simp; omega⟩
          rw [hh, List.nil_append] at g6
          rw [List.flatten_cons, List.append_assoc, g6]
          simp
        · exact .inr ⟨g1, g2, g3, by simp at g4 ⊢; omega, g5, g6⟩
      · rw [if_neg h1]
        exact .inr ⟨h1, h2, h3, by simp; omega, by rw [h5], by rw [h5]⟩
    · rw [if_neg hmm]
      have hF2 : FormB B m0 S { f with held := f.held ++ [x] } Ls := hF1
      rcases addL_formB ws hF2 hm (by show (f.held ++ [x]).length < f.most; simp; omega) hx hd hw2 with ⟨g1, Ms, g2, g3, g4, g5, g6, g7, g8⟩ | ⟨g1, g2, g3, g4, g5, g6⟩
      · exact .inl ⟨g1, Ms, g2, g3, g4, g5, by rw [g6]; simp, g7, by simp; omega⟩
      · exact .inr ⟨g1, g2, g3, by simp; omega, g5, g6⟩
section
variable {S : St} {f : FmD} {Ls : List (List (List UInt8))}
theorem finish_formB (hF : FormB B m0 S f Ls) (hf : fits f.held = true) (hd : f.dead = 0) :
    ((finishP S f).2.2.2 = 0 ∧ (finishP S f).1.runs = B ++ runsL (m0 + 1) (Ls ++ if f.held = [] then [] else [f.held]) ∧ GoodS (finishP S f).1 ∧ (finishP S f).2.1.dead = 13 ∧ (finishP S f).2.2.1 = List.range' (m0 + 1) (Ls ++ if f.held = [] then [] else [f.held]).length ∧ (finishP S f).2.1.made = (finishP S f).2.2.1) ∨
    ((finishP S f).2.2.2 ≠ 0 ∧ (finishP S f).1.runs = B ∧ GoodS (finishP S f).1 ∧ (finishP S f).1.made ≤ m0 + Ls.length + 1 ∧ (finishP S f).2.2.1 = [] ∧ (finishP S f).2.1.dead = (finishP S f).2.2.2) := by
  unfold finishP
  rw [if_neg (by simpa using hd)]
  by_cases hh : f.held = []
  · rw [if_pos hh, if_pos hh, List.append_nil]
    exact .inl ⟨rfl, hF.runs, hF.good, rfl, hF.list, rfl⟩
  · rw [if_neg hh, if_neg hh]
    rcases hF.write hf with ⟨h1, h2, h3, h4, h5⟩ | ⟨h1, h2, h3, h4, h5⟩
    · rw [if_pos h1, h5]
      exact .inl ⟨rfl, h2, h4, rfl, by simp, rfl⟩
    · rw [if_neg h1, h5]
      exact .inr ⟨h1, h2, h3, h4, rfl, rfl⟩
end
end
def pairsL : Nat → List (List (List UInt8)) → List (Nat × List (List UInt8))
  | _, [] => []
  | k, L :: Ls => (k, ofL L) :: pairsL (k + 1) Ls
theorem pairs_runs : ∀ (Ls : List (List (List UInt8))) (k : Nat), runsL k Ls = (pairsL k Ls).map runM
  | [], _ => rfl
  | L :: Ls, k => by
    show _ :: runsL (k + 1) Ls = _ :: (pairsL (k + 1) Ls).map runM
    rw [pairs_runs Ls (k + 1)]
theorem pairs_num : ∀ (Ls : List (List (List UInt8))) (k : Nat), numZ (pairsL k Ls) = (List.range' k Ls.length).map fun (n : Nat) => (n : Int)
  | [], _ => rfl
  | L :: Ls, k => by
    show (k : Int) :: numZ (pairsL (k + 1) Ls) = _
    rw [pairs_num Ls (k + 1)]
    rfl
theorem pairs_len : ∀ (Ls : List (List (List UInt8))) (k : Nat), (pairsL k Ls).length = Ls.length
  | [], _ => rfl
  | L :: Ls, k => by
    show (pairsL (k + 1) Ls).length + 1 = _
    rw [pairs_len Ls (k + 1)]
    rfl
theorem pairs_snd : ∀ (Ls : List (List (List UInt8))) (k : Nat), (pairsL k Ls).map (·.2) = Ls.map ofL
  | [], _ => rfl
  | L :: Ls, k => by
    show ofL L :: (pairsL (k + 1) Ls).map (·.2) = _
    rw [pairs_snd Ls (k + 1)]
    rfl
theorem ofL_ofs (Ls : List (List (List UInt8))) : ofL (Ls.map ofL).flatten = ofL Ls.flatten :=
  RisesL.ext (ofL_rises _) (ofL_rises _) fun x => by
    rw [ofL_mem, ofL_mem, List.mem_flatten, List.mem_flatten]
    constructor
    · rintro ⟨L, hL, hx⟩
      obtain ⟨M, hM, rfl⟩ := List.mem_map.1 hL
      exact ⟨M, hM, (ofL_mem _ _).1 hx⟩
    · rintro ⟨L, hL, hx⟩
      exact ⟨ofL L, List.mem_map_of_mem hL, (ofL_mem _ _).2 hx⟩
theorem look_zero {S : St} : ∀ (l seen : List Int), (∀ z ∈ l, readC S z 0 0 = 0) → (seen ++ l).Nodup → lookP S seen l = 0
  | [], _, _, _ => rfl
  | z :: l, seen, h1, h2 => by
    unfold lookP
    rw [if_neg (by simpa using h1 z List.mem_cons_self)]
    have hn : z ∉ seen := fun hz => by
      have := List.nodup_append.1 h2
      exact this.2.2 z hz z List.mem_cons_self rfl
    rw [if_neg hn]
    exact look_zero l (seen ++ [z]) (fun y hy => h1 y (List.mem_cons_of_mem _ hy)) (by rw [List.append_assoc]; exact h2)
theorem MgI.look {B : List (Nat × RunD)} {S : St} {M : List (Nat × List (List UInt8))} (h : MgI B S M) : lookP S [] (numZ M) = 0 := by
  refine look_zero _ _ (fun z hz => ?_) ?_
  · obtain ⟨q, hq, rfl⟩ := List.mem_map.1 hz
    have hm : runM q ∈ S.runs := by rw [h.runs]; exact List.mem_append_right _ (List.mem_map_of_mem hq)
    have hf := find_of_mem h.good hm
    unfold readC
    rw [show ((q.1 : Nat) : Int) = ((runM q).1 : Int) from rfl, hf]
    dsimp only
    rw [if_neg (by decide), if_neg (by omega)]
  · have hr := h.rise
    rw [List.pairwise_append] at hr
    have h2 := hr.2.1
    rw [List.pairwise_map] at h2
    rw [List.nil_append]
    unfold numZ
    rw [List.Nodup, List.pairwise_map]
    exact h2.imp fun hab => by
      show _ ≠ _
      simp at hab
      omega
theorem sort_end {S : St} (hG : GoodS S) {b fan : Int} (hb : 1 ≤ b ∧ b ≤ 65536) (hf : 2 ≤ fan ∧ fan ≤ 64) (ws : List (List UInt8)) : MgEnd S.runs (ofL ws) (sortP S b fan ws) := by
  unfold sortP
  rw [if_neg (by omega)]
  have hbn : 1 ≤ b.toNat := by omega
  by_cases hw : fits ws = true
  · have hF : FormB S.runs S.made S ⟨[], b.toNat, [], 0⟩ [] := ⟨hG, by simp [runsL], rfl, rfl, fun _ h => by cases h⟩
    have e : addP S ⟨[], b.toNat, [], 0⟩ ws = addL S ⟨[], b.toNat, [], 0⟩ ws := by
      unfold addP
      rw [if_neg (by simp), if_neg (by simp [hw])]
    rw [e]
    rcases addL_formB ws hF hbn hbn rfl rfl hw with ⟨g1, Ms, g2, g3, g4, g5, g6, g7, g8⟩ | ⟨g1, g2, g3, _⟩
    · rw [if_neg (by simpa using g1)]
      dsimp only
      rcases finish_formB g2 g7 g3 with ⟨q1, q2, q3, q4, q5, q6⟩ | ⟨q1, q2, q3, _⟩
      · rw [if_neg (by simpa using q1)]
        obtain ⟨Ls, hLs⟩ : ∃ Ls, Ls = [] ++ Ms ++ if (addL S ⟨[], b.toNat, [], 0⟩ ws).2.1.held = [] then [] else [(addL S ⟨[], b.toNat, [], 0⟩ ws).2.1.held] := ⟨_, rfl⟩
        rw [← hLs] at q2 q5
        have hfl : Ls.flatten = ws := by
          rw [hLs, List.nil_append, List.flatten_append]
          have g7 : Ms.flatten ++ (addL S ⟨[], b.toNat, [], 0⟩ ws).2.1.held = ws := g6
          refine Eq.trans ?_ g7
          congr 1
          split
          · rename_i h; rw [h]; rfl
          · simp
        generalize finishP (addL S ⟨[], b.toNat, [], 0⟩ ws).1 (addL S ⟨[], b.toNat, [], 0⟩ ws).2.1 = R at *
        have hfits : ∀ L ∈ Ls, fits L = true := fun L hL => fits_mem.2 fun r hr => fits_mem.1 hw r (by rw [← hfl]; exact List.mem_flatten.2 ⟨L, hL, hr⟩)
        have hI : MgI S.runs R.1 (pairsL (S.made + 1) Ls) := ⟨q3, by rw [q2, pairs_runs], fun q hq => by
          have : q.2 ∈ Ls.map ofL := by rw [← pairs_snd Ls (S.made + 1)]; exact List.mem_map_of_mem hq
          obtain ⟨L, hL, he⟩ := List.mem_map.1 this
          rw [← he]
          exact ⟨fits_ofL (hfits L hL), ofL_rises L⟩⟩
        unfold mergeP
        rw [if_neg (by omega), q5, ← pairs_num, if_neg (by rw [hI.look]; simp)]
        by_cases hn : Ls = []
        · subst hn
          have hws : ws = [] := by rw [← hfl]; rfl
          subst hws
          rw [if_pos (show numZ (pairsL (S.made + 1) []) = [] from rfl)]
          obtain ⟨w1, _, ⟨w2, w3, w4, w5⟩ | ⟨w2, w3, w4, _⟩⟩ := written_top (L := []) q3 rfl
          · refine .inl ⟨w2, R.1.made + 1, by dsimp only; rw [w3], w1, ?_, fun q hq => ?_⟩
            · dsimp only
              rw [w5, q2]
              simp [runsL, ofL]
            · obtain rfl := List.mem_singleton.1 hq
              exact ⟨fits_ofL rfl, ofL_rises _⟩
          · refine .inr ⟨w2, by dsimp only; rw [w3]; rfl, ?_, w1⟩
            dsimp only
            rw [w4, q2]
            simp [runsL]
        · have hlen : 0 < Ls.length := List.length_pos_iff.2 hn
          rw [if_neg (by
            intro h0
            have := congrArg List.length h0
            simp [numZ, pairs_len] at this
            exact hn this)]
          have h9 := loop_end fan.toNat (by omega) (numZ (pairsL (S.made + 1) Ls)).length hI (by rw [pairs_len]; exact hlen) (by simp [numZ])
          rw [pairs_snd, ofL_ofs, hfl] at h9
          exact h9
      · rw [if_pos q1]
        exact .inr ⟨q1, rfl, q2, q3⟩
    · rw [if_pos g1]
      exact .inr ⟨g1, rfl, g2, g3⟩
  · have e : addP S ⟨[], b.toNat, [], 0⟩ ws = (S, ⟨[], b.toNat, [], 0⟩, 10) := by
      unfold addP
      rw [if_neg (by simp), if_pos (by simpa using hw)]
    rw [e, if_pos (by simp)]
    exact .inr ⟨by simp, rfl, rfl, hG⟩
section
variable {w : World} {ef : Nat → Nat × Nat}
set_option maxRecDepth 100000 in
set_option maxHeartbeats 800000 in
theorem FNew_no (hF : Fails w ef fails13) {b : Nat} {z : Int} (hz : inI64 z) (hn : z < 1 ∨ 65536 < z) :
    Calls Tryz.prog 31 #[.pointer (some ⟨b, 0, none⟩), .int .i64 z] w fun e w' => e = .returned (.tuple #[.pointer none, errV ef 2]) ∧ Below w.heap.size w w' := by
  have c1 := hF.cell (2, 1) (by decide)
  rw [errV_pos ef (show (2 : Nat) ≠ 0 by decide)]
  clear hF
  by_cases h1 : z < 1
  · clear hn hz
    go_enter Tryz.func31, Tryz.ntmps31
    (repeat' (first | go_values | go_skip | go_guarded | go_step | go_upon | go_back | dsimp only))
    go_quiet (fail)
    (repeat' (first | go_values | go_skip | go_guarded | go_step | go_upon | go_back | dsimp only))
    go_ret2
    exact ⟨rfl, below_dW _ _⟩
  · have h2 : 65536 < z := by omega
    clear hn hz
    go_enter Tryz.func31, Tryz.ntmps31
    (repeat' (first | go_values | go_skip | go_guarded | go_step | go_upon | go_back | dsimp only))
    go_quiet (fail)
    (repeat' (first | go_values | go_skip | go_guarded | go_step | go_upon | go_back | dsimp only))
    go_ret2
    exact ⟨rfl, below_dW _ _⟩
set_option maxRecDepth 100000 in
set_option maxHeartbeats 800000 in
theorem rFNew_no {z : Int} (hn : z < 1 ∨ 65536 < z) :
    Calls Tryz.prog 48 #[.int .i64 z] w fun e w' => e = .returned (.tuple #[.pointer none, .int .i64 2]) ∧ w = w' := by
  by_cases h1 : z < 1
  · clear hn
    go_enter Tryz.func48, Tryz.ntmps48
    (repeat' (first | go_values | go_skip | go_guarded | go_step | go_upon | go_back | dsimp only))
    go_ret2
    exact ⟨rfl, rfl⟩
  · have h2 : 65536 < z := by omega
    clear hn
    go_enter Tryz.func48, Tryz.ntmps48
    (repeat' (first | go_values | go_skip | go_guarded | go_step | go_upon | go_back | dsimp only))
    go_ret2
    exact ⟨rfl, rfl⟩
end
section
variable {W w : World} {R : Thing} {k rb : Nat} {S : St} {f : FmD}
set_option maxRecDepth 100000 in
set_option maxHeartbeats 3200000 in
theorem rFinish_row (h : At W w (Both (RfT k f) (Both (RefT rb S) R))) (hR : Stable R) (hG : GoodS S) (hS : Sealed S) (hO : FOk S f) :
    Calls Tryz.prog 50 #[.pointer (some ⟨rb, 0, none⟩), .pointer (some ⟨k, 0, none⟩)] w fun e w' => ∃ (v : Value) (Ψ : Thing), e = .returned (.tuple #[v, .int .i64 (finishP S f).2.2.2]) ∧ Stable Ψ ∧ (∀ (X : Thing) (w'' : World), At W w'' (Both Ψ X) → RdRow w'' v (mz (finishP S f).2.2.1).length 1 (intsV (mz (finishP S f).2.2.1))) ∧ At W w' (Both Ψ (Both (RefT rb (finishP S f).1) R)) := by
  obtain ⟨res, hres⟩ : ∃ res, res = finishP S f := ⟨_, rfl⟩
  rw [← hres]
  unfold finishP at hres
  obtain ⟨hv, mv, h1⟩ := h.rf
  obtain ⟨bo, cp, hbv, hcp1, hcp2⟩ := own_shape h1.rfHeld
  subst hbv
  unfold maxLen at hcp2
  have hmx : f.held.length ≤ 9223372036854775807 := by omega
  obtain ⟨c0, _, c2, c3, fz, hlt⟩ := h1.rfF
  have HR := Lib.hid hR
  by_cases hd : f.dead = 0
  · rw [if_neg (by simpa using hd)] at hres
    have hdz : ((f.dead : Int) != 0) = false := by simp [hd]
    by_cases hh : f.held = []
    · rw [if_pos hh] at hres
      have hl0 : ¬ (0 : Int) < f.held.length := by rw [hh]; simp
      have h2 : At W _ (Both (CellT k (rfCells { f with dead := 13 } (.slice bo f.held.length cp) mv) tRf) (Both (RowG tSx 1 (.slice bo f.held.length cp) f.held.length (strs f.held)) (Both (RowT mv (mz f.made)) (Both (RefT rb S) R)))) := h1.rfSet ((RefT.stable _ _).both hR) 3 (.int .i64 13)
      have h3 := h2.perm (show _ = Both (RfI k { f with dead := 13 } (.slice bo f.held.length cp) mv) (Both (RefT rb S) R) by unfold RfI; ac_rfl)
      have hrd := RdRow.of_own h3.rfMade
      have H3 := Lib.hid h3
      have HRD := Lib.hid hrd
      have HRES := Lib.hid hres
      clear h h1 h2 h3 hrd hR hG hS hO hres hd hh hcp1 hcp2
      go_enter Tryz.func50, Tryz.ntmps50
      (repeat' (first | go_values | go_skip | go_guarded | go_step | go_upon | go_back | dsimp only))
      go_ret2
      rw [HRES.out]
      exact ⟨_, RfI k { f with dead := 13 } (.slice bo f.held.length cp) mv, rfl, RfI.stable _ _ _ _, fun X w'' h => RdRow.of_own h.rfMade, H3.out⟩
    · rw [if_neg hh] at hres
      have hl0 : (0 : Int) < f.held.length := by have := List.length_pos_iff.2 hh; omega
      have hless := hO.less hd
      have hmost := hO.most
      have HWC := Lib.hid (rwrite_at h hR hG hO.fit (by omega) hO.made hO.few)
      generalize fwriteP S f = P at *
      by_cases hz : P.2.2 = 0
      · rw [if_pos hz] at hres
        rw [hz] at HWC
        have HRES := Lib.hid hres
        clear h h1 hR hG hS hO hres hd hh hcp1 hcp2 hless hmost hz
        go_enter Tryz.func50, Tryz.ntmps50
        (repeat' (first | go_values | go_skip | go_guarded | go_step | go_upon | go_back | dsimp only))
        refine HWC.out.mono ?_
        rintro e w2 ⟨rfl, h4⟩
        obtain ⟨hv4, mv4, h5⟩ := h4.rf
        clear c0 c2 c3 fz hlt
        obtain ⟨_, _, c2, c3, fz, hlt⟩ := h5.rfF
        have h6 : At W _ (Both (CellT k (rfCells { P.2.1 with dead := 13 } hv4 mv4) tRf) (Both (RowG tSx 1 hv4 P.2.1.held.length (strs P.2.1.held)) (Both (RowT mv4 (mz P.2.1.made)) (Both (RefT rb P.1) R)))) := h5.rfSet ((RefT.stable _ _).both HR.out) 3 (.int .i64 13)
        have h7 := h6.perm (show _ = Both (RfI k { P.2.1 with dead := 13 } hv4 mv4) (Both (RefT rb P.1) R) by unfold RfI; ac_rfl)
        have hrd := RdRow.of_own h7.rfMade
        have H7 := Lib.hid h7
        have HRD := Lib.hid hrd
        clear h4 h5 h6 h7 hrd HWC
        (repeat' (first | go_values | go_skip | go_guarded | go_step | go_upon | go_back | dsimp only))
        go_ret2
        rw [HRES.out]
        exact ⟨_, RfI k { P.2.1 with dead := 13 } hv4 mv4, rfl, RfI.stable _ _ _ _, fun X w'' h => RdRow.of_own h.rfMade, H7.out⟩
      · rw [if_neg hz] at hres
        have hz9 : ((P.2.2 : Int) != 0) = true := by simp; omega
        have HRES := Lib.hid hres
        clear h h1 hR hG hS hO hres hd hh hcp1 hcp2 hless hmost hz
        go_enter Tryz.func50, Tryz.ntmps50
        (repeat' (first | go_values | go_skip | go_guarded | go_step | go_upon | go_back | dsimp only))
        refine HWC.out.mono ?_
        rintro e w2 ⟨rfl, h4⟩
        have H4 := Lib.hid h4
        clear h4 HWC
        (repeat' (first | go_values | go_skip | go_guarded | go_step | go_upon | go_back | dsimp only))
        go_ret2
        rw [HRES.out]
        exact ⟨_, RfT k P.2.1, rfl, RfT.stable _ _, fun _ _ _ => RdRow.of_own (World.ownsRow_nil _ 0 tInt 1), H4.out⟩
  · rw [if_pos hd] at hres
    have hdz : ((f.dead : Int) != 0) = true := by simp; omega
    have H := Lib.hid h
    have HST := Lib.hid ((RfT.stable k f).both ((RefT.stable rb S).both hR))
    have HRES := Lib.hid hres
    clear h h1 hR hG hS hO hres hd hcp1 hcp2
    go_enter Tryz.func50, Tryz.ntmps50
    (repeat' (first | go_values | go_skip | go_guarded | go_step | go_upon | go_back | dsimp only))
    (refine region_still_tail 5 (by kernel_rfl) (by kernel_rfl) ?_; simp only [List.take_succ_cons, List.take_zero, List.drop_succ_cons, List.drop_zero]; (iterate 5 (first | ((with_reducible refine still_plain ?_ rfl ?_ ?_); rotate_left; (next => (go_simp; (try with_reducible rfl))); simp only [Act.put, List.setIfInBounds_toArray, List.set_cons_zero, List.set_cons_succ]) | ((with_reducible refine still_skip ?_ ?_); (next => (go_simp; done)); simp only [Act.put, List.setIfInBounds_toArray, List.set_cons_zero, List.set_cons_succ]) | ((with_reducible refine still_val ?_ ?_ ?_ ?_); rotate_left; (next => (go_simp; done)); (next => (go_simp; (try with_reducible rfl))); simp only [Act.put, List.setIfInBounds_toArray, List.set_cons_zero, List.set_cons_succ]))); (with_reducible refine wpStill_nil ?_))
    (repeat' (first | go_values | go_skip | go_guarded | go_step | go_upon | go_back | dsimp only))
    go_ret2
    rw [HRES.out]
    exact ⟨_, RfT k f, rfl, RfT.stable _ _, fun _ _ _ => RdRow.of_own (World.ownsRow_nil _ 0 tInt 1), H.out.mono HST.out (Below.refl _ _).drew⟩
end
theorem run_string_all {P : Program} {w : World} (src dst e : TypeId) (hs : P.underlying src = some (.slice e)) (he : P.underlying e = some (.int .u8)) (hd : P.underlying dst = some .string)
    {ao : Option Addr} {cap : Nat} {l : List UInt8} (h : RdRow w (.slice ao l.length cap) l.length 1 (bvs l)) : Sem.run P (convert src dst (Value.slice ao l.length cap)) w = .ok (.string ⟨l.toArray⟩) w := by
  have := run_string_part (P := P) (w := w) src dst e hs he hd h (k := 0) (m := l.length) (by omega)
  simp only [List.drop_zero, List.take_length, Nat.sub_zero] at this
  rw [← this]
  congr 3
  split
  · rfl
  · cases ao with
    | none => rfl
    | some a => simp [Addr.add]
section
variable {W w : World} {R : Thing} {sb rb : Nat} {S : St}
set_option maxRecDepth 100000 in
set_option maxHeartbeats 12800000 in
theorem alike10_calls (h : At W w (Both (StoreT sb S) (Both (RefT rb S) R))) (hR : Stable R) (hG : GoodS S) :
    Calls Tryz.prog 27 #[.pointer (some ⟨sb, 0, none⟩), .pointer (some ⟨rb, 0, none⟩)] w fun e w' => e = .returned (.bool true) ∧ At W w' (Both (StoreT sb S) (Both (RefT rb S) R)) := by
  have h1 := h.perm (show _ = Both (RefT rb S) (Both (StoreT sb S) R) by ac_rfl)
  obtain ⟨rv, rs, hr, h2⟩ := h1.ref
  have hst2 : Stable (Both (CellT rb (refCells S rv) tRef) (Both (RowG tRRun 3 rv rs.length (rs.flatMap cellsR)) (Both (TextsT rs) R))) := (CellT.stable _ _ _).both ((RowG.stable _ _ _ _ _).both ((TextsT.stable _).both hR))
  have h3 := h2.perm (show _ = Both (StoreT sb S) (Both (CellT rb (refCells S rv) tRef) (Both (RowG tRRun 3 rv rs.length (rs.flatMap cellsR)) (Both (TextsT rs) R))) by ac_rfl)
  have hlv := Live_at h3 hst2
  have hkl : S.keys.length = rs.length := by unfold St.keys; rw [hr]; simp
  have hk : ∀ i, i < rs.length → S.keys[i]? = some ((rs.getD i default).num : Int) := fun i hi => by
    unfold St.keys
    rw [hr]
    simp [runOf, hi, List.getD_eq_getElem?_getD]
  have hmem : ∀ i, i < rs.length → runOf (rs.getD i default) ∈ S.runs := fun i hi => by
    rw [hr, List.getD_eq_getElem?_getD, List.getElem?_eq_getElem hi]
    exact List.mem_map_of_mem (List.getElem_mem hi)
  have HK := Lib.hid hk
  have HM := Lib.hid hmem
  have HKL := Lib.hid hkl
  have HR := Lib.hid hr
  have HLV := Lib.hid hlv
  have HG := Lib.hid hG
  have HST := Lib.hid ((RowT.stable (.slice none 0 0) []).both ((StoreT.stable sb S).both hst2))
  have HST2 := Lib.hid ((StoreT.stable sb S).both hst2)
  have hrl : rs.length ≤ 16777216 := (h2.refR hr).len hG
  clear h h1 h2 h3 hr hlv hk hmem hkl hst2 hG hR
  go_enter Tryz.func27, Tryz.ntmps27
  (repeat' (first | go_values | go_skip | go_guarded | go_step | go_upon | go_back | dsimp only))
  refine HLV.out.mono ?_
  rintro e w3 ⟨vl, rfl, h4⟩
  obtain ⟨al, cl, hvl, _, _⟩ := own_shape h4.row
  rw [HKL.out] at hvl
  subst hvl
  have h5 := h4.perm (show _ = Both (CellT rb (refCells S rv) tRef) (Both (RowG tRRun 3 rv rs.length (rs.flatMap cellsR)) (Both (TextsT rs) (Both (StoreT sb S) (Both (RowT (.slice al rs.length cl) S.keys) R)))) by ac_rfl)
  have hrr := h5.refR HR.out
  obtain ⟨ar, cr, hrv, _, _⟩ := hrr.shape
  subst hrv
  obtain ⟨_, d1, d2, _, d4⟩ := hrr.c
  have lr := lt_of_heap hrr.cells
  have hdn : ∀ n, At W (w3.drewN n) (Both (RowT (.slice al rs.length cl) S.keys) (Both (StoreT sb S) (Both (CellT rb (refCells S (.slice ar rs.length cr)) tRef) (Both (RowG tRRun 3 (.slice ar rs.length cr) rs.length (rs.flatMap cellsR)) (Both (TextsT rs) R))))) := fun n => h4.drewN ((RowT.stable _ _).both HST2.out) n
  have hus := fun n => (Used_at (hdn n).drop).mono fun e w' (q : e = _ ∧ _) => (⟨q.1, q.2.symm⟩ : e = Ending.returned (.int .i64 S.used) ∧ w' = w3.drewN n)
  have hpk := fun n => (Peak_at (hdn n).drop).mono fun e w' (q : e = _ ∧ _) => (⟨q.1, q.2.symm⟩ : e = Ending.returned (.int .i64 S.peak) ∧ w' = w3.drewN n)
  have hmd := fun n => (Made_at (hdn n).drop).mono fun e w' (q : e = _ ∧ _) => (⟨q.1, q.2.symm⟩ : e = Ending.returned (.int .i64 S.made) ∧ w' = w3.drewN n)
  have hru := fun n => (rUsed_calls (show RefR (w3.drewN n) rb S (.slice ar rs.length cr) rs from hrr.below (below_dW w3 n)) HG.out).mono fun e w' (q : e = _ ∧ _) => (⟨q.1, q.2.symm⟩ : e = Ending.returned (.int .i64 S.used) ∧ w' = w3.drewN n)
  have HUS := Lib.hid hus
  have HPK := Lib.hid hpk
  have HMD := Lib.hid hmd
  have HRU := Lib.hid hru
  have HDN := Lib.hid hdn
  clear h4 h5 hrr hdn hus hpk hmd hru HLV
  (repeat' (first | go_values | go_skip | go_guarded | go_step | go_upon | go_back | dsimp only))
  go_quiet ((first
    | (go_at_call 21; exact Calls.quiet_of_same (HUS.out _))
    | (go_at_call 30; exact Calls.quiet_of_same (HPK.out _))
    | (go_at_call 18; exact Calls.quiet_of_same (HMD.out _))
    | (go_at_call 54; exact Calls.quiet_of_same (HRU.out _))))
  clear d1 d2 HUS HPK HMD HRU
  (repeat' (first | go_values | go_skip | go_guarded | go_step | go_upon | go_back | dsimp only))
  go_loopw [45] (fun vi wr => ∃ (i : Nat), vi = .int .i64 i ∧ i ≤ rs.length ∧ At W wr (Both (RowT (.slice al rs.length cl) S.keys) (Both (StoreT sb S) (Both (CellT rb (refCells S (.slice ar rs.length cr)) tRef) (Both (RowG tRRun 3 (.slice ar rs.length cr) rs.length (rs.flatMap cellsR)) (Both (TextsT rs) R)))))) (fun vi _ => rs.length - (intOf vi).toNat)
  case atStart => exact ⟨0, rfl, Nat.zero_le _, HDN.out _⟩
  case round =>
    obtain ⟨i, rfl, hi, h6⟩ := hrel
    clear d4 lr
    by_cases hlt : i < rs.length
    · have hrr := ((h6.perm (show _ = Both (CellT rb (refCells S (.slice ar rs.length cr)) tRef) (Both (RowG tRRun 3 (.slice ar rs.length cr) rs.length (rs.flatMap cellsR)) (Both (TextsT rs) (Both (RowT (.slice al rs.length cl) S.keys) (Both (StoreT sb S) R)))) by ac_rfl))).refR HR.out
      obtain ⟨_, _, _, _, d4⟩ := hrr.c
      have lr := lt_of_heap hrr.cells
      have hdn2 : ∀ n, At W (wr.drewN n) (Both (RowT (.slice al rs.length cl) S.keys) (Both (StoreT sb S) (Both (CellT rb (refCells S (.slice ar rs.length cr)) tRef) (Both (RowG tRRun 3 (.slice ar rs.length cr) rs.length (rs.flatMap cellsR)) (Both (TextsT rs) R))))) := fun n => h6.drewN ((RowT.stable _ _).both HST2.out) n
      obtain ⟨gk, offk, capk, hslk, hck⟩ := (RdRow.of_own h6.row).intA (HK.out i hlt)
      rw [HKL.out] at hslk
      simp only [Value.slice.injEq] at hslk
      obtain ⟨rfl, _, rfl⟩ := hslk
      obtain ⟨gr, capr, hslr, r0, r1, r2, _⟩ := hrr.item hlt
      simp only [Value.slice.injEq] at hslr
      obtain ⟨rfl, _, rfl⟩ := hslr
      have hmm := HM.out i hlt
      have hrm : rs.getD i default ∈ rs := by rw [List.getD_eq_getElem?_getD, List.getElem?_eq_getElem hlt]; exact List.getElem_mem hlt
      have hrow := hrr.texts _ hrm
      have HDN2 := Lib.hid hdn2
      have hi0 : (0 : Int) ≤ i := by omega
      have hi1 : (i : Int) < rs.length := by omega
      have hwr : IntKind.i64.wrap ((i : Int) + 1) = ((i + 1 : Nat) : Int) := by rw [IntKind.wrap_i64] <;> omega
      by_cases hse : (rs.getD i default).sealed = true
      · rw [hse] at r2
        have htx := fun n => (text_same (hdn2 n).drop HG.out hmm hse).mono fun e w' (q : e = _ ∧ _) => (⟨q.1, q.2.symm⟩ : e = Ending.returned (.string ⟨(rs.getD i default).text.toArray⟩) ∧ w' = wr.drewN n)
        rw [show (runOf (rs.getD i default)).1 = (rs.getD i default).num from rfl] at htx
        obtain ⟨at_, ct, hvt, _, _⟩ := own_shape hrow
        rw [hvt] at r1 hrow
        have hcv : ∀ n, Sem.run Tryz.prog (convert 85 9 (Value.slice at_ (rs.getD i default).text.length ct)) (wr.drewN n) = .ok (.string ⟨(rs.getD i default).text.toArray⟩) (wr.drewN n) := fun n => run_string_all _ _ 5 Tryz.underlying85 Tryz.underlying5 Tryz.underlying9 ((RdRow.of_own hrow).below (below_dW wr n))
        have HTX := Lib.hid htx
        generalize rs.getD i default = rr at *
        clear hrr hmm hrm hrow hse hdn2 htx hvt h6
        (repeat' (first | go_values | go_skip | go_guarded | go_step | go_upon | go_back | dsimp only))
        go_quiet ((go_at_call 14; exact Calls.quiet_of_same (HTX.out _)))
        (repeat' (first | go_values | go_skip | go_guarded | go_step | go_upon | go_back | dsimp only))
        go_roundw
        case rel => exact ⟨i + 1, rfl, hlt, HDN2.out _⟩
        case measure => simp [intOf]; omega
      · rw [Bool.not_eq_true _ |>.mp hse] at r2
        generalize rs.getD i default = rr at *
        clear hrr hmm hrm hrow hse hdn2 h6 r1
        (repeat' (first | go_values | go_skip | go_guarded | go_step | go_upon | go_back | dsimp only))
        go_quiet (fail)
        (repeat' (first | go_values | go_skip | go_guarded | go_step | go_upon | go_back | dsimp only))
        go_roundw
        case rel => exact ⟨i + 1, rfl, hlt, HDN2.out _⟩
        case measure => simp [intOf]; omega
    · have hi0 : ¬ (i : Int) < rs.length := by omega
      have HEND := Lib.hid h6
      clear h6
      (repeat' (first | go_values | go_skip | go_guarded | go_step | go_upon | go_back | dsimp only))
      go_ret
      exact ⟨rfl, (At.toRef HR.out (HEND.out.drop.perm (show _ = Both (CellT rb (refCells S (.slice ar rs.length cr)) tRef) (Both (RowG tRRun 3 (.slice ar rs.length cr) rs.length (rs.flatMap cellsR)) (Both (TextsT rs) (Both (StoreT sb S) R))) by ac_rfl))).perm (by ac_rfl)⟩
end
end Go.Proofs.YtadokkffmekndaaGreatDoor
