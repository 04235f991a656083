/- hornbooklaw10.step walked. · MergePlays walked. -/
import Derived.Test.YtadokkffmekndaaGreatDoorBuMgPlLaw50
import Derived.Test.YtadokkffmekndaaGreatDoorBuMgPlLaw51
import Derived.Test.YtadokkffmekndaaGreatDoorBuMgPlLaw52
import Derived.Test.YtadokkffmekndaaGreatDoorBuMgPlLaw15
import Derived.Test.YtadokkffmekndaaGreatDoorBuMgPlLaw41
import Derived.Test.YtadokkffmekndaaGreatDoorBuMgPlLaw12
import Derived.Test.YtadokkffmekndaaGreatDoorBuMgPlLaw45
import Derived.Deep.QuietTactic
import Derived.BigQuiet
set_option linter.unusedSimpArgs false
set_option linter.unusedVariables false
namespace Go.Proofs.YtadokkffmekndaaGreatDoor
open Go.RowKit
theorem loop_good (fan : Nat) : ∀ (n : Nat) {S : St} {l : List Int}, GoodS S → LokP S l → GoodS (loopM fan n S l).1
  | 0, S, l, hG, _ => hG
  | n + 1, S, l, hG, hl => by
    unfold loopM
    split
    · exact hG
    · split
      · exact (LokP.bad hG _ l).2
      · rename_i h1 h2
        obtain ⟨g1, g2, _⟩ := hl.round hG fan (by simpa using h2)
        exact loop_good fan n g1 g2
theorem merge_good {S : St} (hG : GoodS S) (fan : Int) (l : List Int) : GoodS (mergeP S fan l).1 := by
  unfold mergeP
  split
  · exact hG
  · split
    · exact hG
    · rename_i h1 h2
      split
      · have h := (LokP.bad hG [] []).1
        rw [show allP S [] = [] by simp [allP, ofL]] at h
        exact h
      · exact loop_good _ _ hG (look_lok (by simpa using h2))
theorem ints_oneCellM (l : List Int) : ∀ u ∈ intsV l, u.oneCell' = true := by
  intro u hu
  unfold intsV at hu
  obtain ⟨z, _, rfl⟩ := List.mem_map.1 hu
  rfl
section
variable {W w : World} {R : Thing} {sb rb : Nat} {S : St} {ef : Nat → Nat × Nat} {o1 o2 o3 : Int} {al av : Option Addr} {cl cv : Nat} {zs : List Int} {ss : List (List UInt8)}
def OpF (W : World) (o2 o3 : Int) (al av : Option Addr) (cl cv : Nat) (zs : List Int) (ss : List (List UInt8)) : Prop :=
  inI64 o2 ∧ inI64 o3 ∧ RdRow W (.slice al zs.length cl) zs.length 1 (intsV zs) ∧ (∀ z ∈ zs, inI64 z) ∧ RdRow W (.slice av ss.length cv) ss.length 1 (strs ss) ∧ ss.length + sumLen ss + zs.length + 1 ≤ 1048576
set_option maxRecDepth 100000 in
set_option maxHeartbeats 12800000 in
theorem step_lays (h : At W w (Both (StoreT sb S) (Both (RefT rb S) R))) (hR : Stable R) (hF : Fails W ef fails13) (hG : GoodS S) (ho : OpF W o2 o3 al av cl cv zs ss) (hk : o1 = 1 ∨ o1 = 2) :
    Calls Tryz.prog 26 #[.pointer (some ⟨sb, 0, none⟩), .pointer (some ⟨rb, 0, none⟩), .agg #[.int .i64 o1, .int .i64 o2, .int .i64 o3, .slice al zs.length cl, .slice av ss.length cv]] w fun e w' => e = .returned (.bool true) ∧ At W w' (Both (StoreT sb (layP S o1 o2 ss)) (Both (RefT rb (layP S o1 o2 ss)) R)) := by
  rcases hk with rfl | rfl
  · skip
    have hst : Stable (Both (StoreT sb S) (Both (RefT rb S) R)) := (StoreT.stable _ _).both ((RefT.stable _ _).both hR)
    have h0 := h.newCell hst #[.int .i64 1, .int .i64 o2, .int .i64 o3, .slice al zs.length cl, .slice av ss.length cv] tOp10
    have b0 := cell_at h0.cell.1 0
    have b1 := cell_at h0.cell.1 1
    have b2 := cell_at h0.cell.1 2
    have b3 := cell_at h0.cell.1 3
    have b4 := cell_at h0.cell.1 4
    have lb := lt_of_heap h0.cell.1
    simp only [List.getElem?_toArray, List.getElem?_cons_zero, List.getElem?_cons_succ] at b0 b1 b2 b3 b4
    have H0 := Lib.hid h0
    have HST := Lib.hid hst
    have HR := Lib.hid hR
    have HF := Lib.hid hF
    have HG := Lib.hid hG
    have HK := Lib.hid ho
    clear h h0 hst hR hF hG ho
    obtain ⟨ho2, ho3, hz, hz64, hs, hln⟩ := HK.out
    have HZ := Lib.hid hz
    have HS := Lib.hid hs
    have HN2 := Lib.hid (And.intro ho2 ho3)
    have HZ64 := Lib.hid hz64
    have hlx : ∀ x ∈ ss, x.length ≤ 1048576 := (bulk_eachM (ss := ss) (by omega)).2
    have HLX := Lib.hid hlx
    have hzl : zs.length ≤ 1048576 := by omega
    have hsl : ss.length ≤ 1048576 := by omega
    clear hz hs ho2 ho3 hz64 hlx HK
    go_enter Tryz.func26, Tryz.ntmps26
    go_upto_region 4 with (fail)
    generalize w.alloc _ = w1 at *
    generalize w.heap.size = s at *
    (repeat' (first | go_values | go_skip | go_guarded | go_step | go_upon | go_back | dsimp only))
    have hla := lays_at (ws := ss) (v := .slice av ss.length cv) (lv := .slice al zs.length cl) (k := 1) (n := o2) (m := o3) (H0.out.perm (show _ = Both (StoreT sb S) (Both (RefT rb S) (Both (CellT s #[.int .i64 1, .int .i64 o2, .int .i64 o3, .slice al zs.length cl, .slice av ss.length cv] tOp10) R)) by ac_rfl)) ((CellT.stable _ _ _).both HR.out) HF.out HG.out (fun w' h' => HS.out.below h'.below) (by omega)
    refine hla.mono ?_
    rintro e w2 ⟨rfl, h2⟩
    have H2 := Lib.hid (h2.perm (show _ = Both (CellT s #[.int .i64 1, .int .i64 o2, .int .i64 o3, .slice al zs.length cl, .slice av ss.length cv] tOp10) (Both (StoreT sb (layP S 1 o2 ss)) (Both (RefT rb (layP S 1 o2 ss)) R)) by ac_rfl))
    clear h2 hla H0 b0 b1 b2 b3 b4 lb
    (repeat' (first | go_values | go_skip | go_guarded | go_step | go_upon | go_back | dsimp only))
    go_ret
    exact ⟨rfl, H2.out.drop⟩
  · skip
    have hst : Stable (Both (StoreT sb S) (Both (RefT rb S) R)) := (StoreT.stable _ _).both ((RefT.stable _ _).both hR)
    have h0 := h.newCell hst #[.int .i64 2, .int .i64 o2, .int .i64 o3, .slice al zs.length cl, .slice av ss.length cv] tOp10
    have b0 := cell_at h0.cell.1 0
    have b1 := cell_at h0.cell.1 1
    have b2 := cell_at h0.cell.1 2
    have b3 := cell_at h0.cell.1 3
    have b4 := cell_at h0.cell.1 4
    have lb := lt_of_heap h0.cell.1
    simp only [List.getElem?_toArray, List.getElem?_cons_zero, List.getElem?_cons_succ] at b0 b1 b2 b3 b4
    have H0 := Lib.hid h0
    have HST := Lib.hid hst
    have HR := Lib.hid hR
    have HF := Lib.hid hF
    have HG := Lib.hid hG
    have HK := Lib.hid ho
    clear h h0 hst hR hF hG ho
    obtain ⟨ho2, ho3, hz, hz64, hs, hln⟩ := HK.out
    have HZ := Lib.hid hz
    have HS := Lib.hid hs
    have HN2 := Lib.hid (And.intro ho2 ho3)
    have HZ64 := Lib.hid hz64
    have hlx : ∀ x ∈ ss, x.length ≤ 1048576 := (bulk_eachM (ss := ss) (by omega)).2
    have HLX := Lib.hid hlx
    have hzl : zs.length ≤ 1048576 := by omega
    have hsl : ss.length ≤ 1048576 := by omega
    clear hz hs ho2 ho3 hz64 hlx HK
    go_enter Tryz.func26, Tryz.ntmps26
    go_upto_region 4 with (fail)
    generalize w.alloc _ = w1 at *
    generalize w.heap.size = s at *
    (repeat' (first | go_values | go_skip | go_guarded | go_step | go_upon | go_back | dsimp only))
    have hla := lays_at (ws := ss) (v := .slice av ss.length cv) (lv := .slice al zs.length cl) (k := 2) (n := o2) (m := o3) (H0.out.perm (show _ = Both (StoreT sb S) (Both (RefT rb S) (Both (CellT s #[.int .i64 2, .int .i64 o2, .int .i64 o3, .slice al zs.length cl, .slice av ss.length cv] tOp10) R)) by ac_rfl)) ((CellT.stable _ _ _).both HR.out) HF.out HG.out (fun w' h' => HS.out.below h'.below) (by omega)
    refine hla.mono ?_
    rintro e w2 ⟨rfl, h2⟩
    have H2 := Lib.hid (h2.perm (show _ = Both (CellT s #[.int .i64 2, .int .i64 o2, .int .i64 o3, .slice al zs.length cl, .slice av ss.length cv] tOp10) (Both (StoreT sb (layP S 2 o2 ss)) (Both (RefT rb (layP S 2 o2 ss)) R)) by ac_rfl))
    clear h2 hla H0 b0 b1 b2 b3 b4 lb
    (repeat' (first | go_values | go_skip | go_guarded | go_step | go_upon | go_back | dsimp only))
    go_ret
    exact ⟨rfl, H2.out.drop⟩
set_option maxRecDepth 100000 in
set_option maxHeartbeats 12800000 in
theorem step_brk10 (h : At W w (Both (StoreT sb S) (Both (RefT rb S) R))) (hR : Stable R) (hF : Fails W ef fails13) (hG : GoodS S) (ho : OpF W o2 o3 al av cl cv zs ss) :
    Calls Tryz.prog 26 #[.pointer (some ⟨sb, 0, none⟩), .pointer (some ⟨rb, 0, none⟩), .agg #[.int .i64 5, .int .i64 o2, .int .i64 o3, .slice al zs.length cl, .slice av ss.length cv]] w fun e w' => e = .returned (.bool true) ∧ At W w' (Both (StoreT sb (breakS S o2)) (Both (RefT rb (breakS S o2)) R)) := by
  have hst : Stable (Both (StoreT sb S) (Both (RefT rb S) R)) := (StoreT.stable _ _).both ((RefT.stable _ _).both hR)
  have h0 := h.newCell hst #[.int .i64 5, .int .i64 o2, .int .i64 o3, .slice al zs.length cl, .slice av ss.length cv] tOp10
  have b0 := cell_at h0.cell.1 0
  have b1 := cell_at h0.cell.1 1
  have b2 := cell_at h0.cell.1 2
  have b3 := cell_at h0.cell.1 3
  have b4 := cell_at h0.cell.1 4
  have lb := lt_of_heap h0.cell.1
  simp only [List.getElem?_toArray, List.getElem?_cons_zero, List.getElem?_cons_succ] at b0 b1 b2 b3 b4
  have H0 := Lib.hid h0
  have HST := Lib.hid hst
  have HR := Lib.hid hR
  have HF := Lib.hid hF
  have HG := Lib.hid hG
  have HK := Lib.hid ho
  clear h h0 hst hR hF hG ho
  obtain ⟨ho2, ho3, hz, hz64, hs, hln⟩ := HK.out
  have HZ := Lib.hid hz
  have HS := Lib.hid hs
  have HN2 := Lib.hid (And.intro ho2 ho3)
  have HZ64 := Lib.hid hz64
  have hlx : ∀ x ∈ ss, x.length ≤ 1048576 := (bulk_eachM (ss := ss) (by omega)).2
  have HLX := Lib.hid hlx
  have hzl : zs.length ≤ 1048576 := by omega
  have hsl : ss.length ≤ 1048576 := by omega
  clear hz hs ho2 ho3 hz64 hlx HK
  go_enter Tryz.func26, Tryz.ntmps26
  go_upto_region 14 with (fail)
  generalize w.alloc _ = w1 at *
  generalize w.heap.size = s at *
  (repeat' (first | go_values | go_skip | go_guarded | go_step | go_upon | go_back | dsimp only))
  refine (Break_at (H0.out.perm (show _ = Both (StoreT sb S) (Both (CellT s #[.int .i64 5, .int .i64 o2, .int .i64 o3, .slice al zs.length cl, .slice av ss.length cv] tOp10) (Both (RefT rb S) R)) by ac_rfl)) ((CellT.stable _ _ _).both ((RefT.stable _ _).both HR.out)) HN2.out.1).mono ?_
  rintro e w2 ⟨rfl, h2⟩
  have b1 := cell_at h2.drop.cell.1 1
  have lb := lt_of_heap h2.drop.cell.1
  simp only [List.getElem?_toArray, List.getElem?_cons_zero, List.getElem?_cons_succ] at b1
  have H2 := Lib.hid (h2.perm (show _ = Both (RefT rb S) (Both (StoreT sb (breakS S o2)) (Both (CellT s #[.int .i64 5, .int .i64 o2, .int .i64 o3, .slice al zs.length cl, .slice av ss.length cv] tOp10) R)) by ac_rfl))
  clear h2 H0 b0 b2 b3 b4
  (repeat' (first | go_values | go_skip | go_guarded | go_step | go_upon | go_back | dsimp only))
  refine (rBreak_at H2.out ((StoreT.stable _ _).both ((CellT.stable _ _ _).both HR.out)) HN2.out.1).mono ?_
  rintro e w3 ⟨rfl, h3⟩
  have q0 := cell_at h3.drop.drop.cell.1 0
  have lb := lt_of_heap h3.drop.drop.cell.1
  simp only [List.getElem?_toArray, List.getElem?_cons_zero, List.getElem?_cons_succ] at q0
  have H3 := Lib.hid (h3.perm (show _ = Both (CellT s #[.int .i64 5, .int .i64 o2, .int .i64 o3, .slice al zs.length cl, .slice av ss.length cv] tOp10) (Both (StoreT sb (breakS S o2)) (Both (RefT rb (breakS S o2)) R)) by ac_rfl))
  clear h3 H2 b1
  (repeat' (first | go_values | go_skip | go_guarded | go_step | go_upon | go_back | dsimp only))
  go_ret
  exact ⟨rfl, H3.out.drop⟩
set_option maxRecDepth 100000 in
set_option maxHeartbeats 12800000 in
theorem step_none10 (h : At W w (Both (StoreT sb S) (Both (RefT rb S) R))) (hR : Stable R) (hF : Fails W ef fails13) (hG : GoodS S) (ho : OpF W o2 o3 al av cl cv zs ss) (hk : o1 < 1 ∨ 6 < o1) :
    Calls Tryz.prog 26 #[.pointer (some ⟨sb, 0, none⟩), .pointer (some ⟨rb, 0, none⟩), .agg #[.int .i64 o1, .int .i64 o2, .int .i64 o3, .slice al zs.length cl, .slice av ss.length cv]] w fun e w' => e = .returned (.bool true) ∧ At W w' (Both (StoreT sb S) (Both (RefT rb S) R)) := by
  have k1 : (o1 == 1) = false := beq_eq_false_iff_ne.2 (by omega)
  have k2 : (o1 == 2) = false := beq_eq_false_iff_ne.2 (by omega)
  have k3 : (o1 == 3) = false := beq_eq_false_iff_ne.2 (by omega)
  have k4 : (o1 == 4) = false := beq_eq_false_iff_ne.2 (by omega)
  have k5 : (o1 == 5) = false := beq_eq_false_iff_ne.2 (by omega)
  have k6 : (o1 == 6) = false := beq_eq_false_iff_ne.2 (by omega)
  clear hk
  have hst : Stable (Both (StoreT sb S) (Both (RefT rb S) R)) := (StoreT.stable _ _).both ((RefT.stable _ _).both hR)
  have h0 := h.newCell hst #[.int .i64 o1, .int .i64 o2, .int .i64 o3, .slice al zs.length cl, .slice av ss.length cv] tOp10
  have b0 := cell_at h0.cell.1 0
  have b1 := cell_at h0.cell.1 1
  have b2 := cell_at h0.cell.1 2
  have b3 := cell_at h0.cell.1 3
  have b4 := cell_at h0.cell.1 4
  have lb := lt_of_heap h0.cell.1
  simp only [List.getElem?_toArray, List.getElem?_cons_zero, List.getElem?_cons_succ] at b0 b1 b2 b3 b4
  have H0 := Lib.hid h0
  have HST := Lib.hid hst
  have HR := Lib.hid hR
  have HF := Lib.hid hF
  have HG := Lib.hid hG
  have HK := Lib.hid ho
  clear h h0 hst hR hF hG ho
  obtain ⟨ho2, ho3, hz, hz64, hs, hln⟩ := HK.out
  have HZ := Lib.hid hz
  have HS := Lib.hid hs
  have HN2 := Lib.hid (And.intro ho2 ho3)
  have HZ64 := Lib.hid hz64
  have hlx : ∀ x ∈ ss, x.length ≤ 1048576 := (bulk_eachM (ss := ss) (by omega)).2
  have HLX := Lib.hid hlx
  have hzl : zs.length ≤ 1048576 := by omega
  have hsl : ss.length ≤ 1048576 := by omega
  clear hz hs ho2 ho3 hz64 hlx HK
  go_enter Tryz.func26, Tryz.ntmps26
  go_upto_region 18 with (fail)
  generalize w.alloc _ = w1 at *
  generalize w.heap.size = s at *
  (repeat' (first | go_values | go_skip | go_guarded | go_step | go_upon | go_back | dsimp only))
  go_ret
  exact ⟨rfl, H0.out.drop⟩
set_option maxRecDepth 100000 in
set_option maxHeartbeats 12800000 in
theorem step_merge (h : At W w (Both (StoreT sb S) (Both (RefT rb S) R))) (hR : Stable R) (hF : Fails W ef fails13) (hG : GoodS S) (ho : OpF W o2 o3 al av cl cv zs ss) :
    Calls Tryz.prog 26 #[.pointer (some ⟨sb, 0, none⟩), .pointer (some ⟨rb, 0, none⟩), .agg #[.int .i64 3, .int .i64 o2, .int .i64 o3, .slice al zs.length cl, .slice av ss.length cv]] w fun e w' => e = .returned (.bool true) ∧ At W w' (Both (StoreT sb (mergeP S o2 zs).1) (Both (RefT rb (mergeP S o2 zs).1) R)) := by
  obtain ⟨M, hM⟩ : ∃ M, mergeP S o2 zs = M := ⟨_, rfl⟩
  rw [hM]
  have hst : Stable (Both (StoreT sb S) (Both (RefT rb S) R)) := (StoreT.stable _ _).both ((RefT.stable _ _).both hR)
  have h0 := h.newCell hst #[.int .i64 3, .int .i64 o2, .int .i64 o3, .slice al zs.length cl, .slice av ss.length cv] tOp10
  have b0 := cell_at h0.cell.1 0
  have b1 := cell_at h0.cell.1 1
  have b2 := cell_at h0.cell.1 2
  have b3 := cell_at h0.cell.1 3
  have b4 := cell_at h0.cell.1 4
  have lb := lt_of_heap h0.cell.1
  simp only [List.getElem?_toArray, List.getElem?_cons_zero, List.getElem?_cons_succ] at b0 b1 b2 b3 b4
  have H0 := Lib.hid h0
  have HST := Lib.hid hst
  have HR := Lib.hid hR
  have HF := Lib.hid hF
  have HG := Lib.hid hG
  have HK := Lib.hid ho
  clear h h0 hst hR hF hG ho
  obtain ⟨ho2, ho3, hz, hz64, hs, hln⟩ := HK.out
  have HZ := Lib.hid hz
  have HS := Lib.hid hs
  have HN2 := Lib.hid (And.intro ho2 ho3)
  have HZ64 := Lib.hid hz64
  have hlx : ∀ x ∈ ss, x.length ≤ 1048576 := (bulk_eachM (ss := ss) (by omega)).2
  have HLX := Lib.hid hlx
  have hzl : zs.length ≤ 1048576 := by omega
  have hsl : ss.length ≤ 1048576 := by omega
  clear hz hs ho2 ho3 hz64 hlx HK
  go_enter Tryz.func26, Tryz.ntmps26
  go_upto_region 6 with (fail)
  generalize w.alloc _ = w1 at *
  generalize w.heap.size = s at *
  have hst1 : Stable (Both (CellT s #[.int .i64 3, .int .i64 o2, .int .i64 o3, .slice al zs.length cl, .slice av ss.length cv] tOp10) (Both (StoreT sb S) (Both (RefT rb S) R))) := (CellT.stable _ _ _).both HST.out
  have h1d : At W w1.drew (Both (CellT s #[.int .i64 3, .int .i64 o2, .int .i64 o3, .slice al zs.length cl, .slice av ss.length cv] tOp10) (Both (StoreT sb S) (Both (RefT rb S) R))) := H0.out.mono hst1 (Below.refl _ _).drew
  have hz1 := HZ.out.below h1d.below
  have hme := fun (w2 : World) (ta : Option Addr) (tc : Nat) (h2 : At W w2 (Both (RowG tInt 1 (.slice ta zs.length tc) zs.length (intsV zs)) (Both (CellT s #[.int .i64 3, .int .i64 o2, .int .i64 o3, .slice al zs.length cl, .slice av ss.length cv] tOp10) (Both (StoreT sb S) (Both (RefT rb S) R))))) => Merge_at (l := zs) (fan := o2) (v := .slice ta zs.length tc) (h2.perm (show _ = Both (StoreT sb S) (Both (RowG tInt 1 (.slice ta zs.length tc) zs.length (intsV zs)) (Both (CellT s #[.int .i64 3, .int .i64 o2, .int .i64 o3, .slice al zs.length cl, .slice av ss.length cv] tOp10) (Both (RefT rb S) R))) by ac_rfl)) ((RowG.stable _ _ _ _ _).both ((CellT.stable _ _ _).both ((RefT.stable _ _).both HR.out))) HF.out HG.out HZ64.out (by omega) HN2.out.1 ⟨_, _, rfl⟩ (fun w' h' => RdRow.of_own h'.rowG)
  have hrm := fun (w' : World) (h' : At W w' (Both (RefT rb S) (Both (StoreT sb (mergeP S o2 zs).1) (Both (CellT s #[.int .i64 3, .int .i64 o2, .int .i64 o3, .slice al zs.length cl, .slice av ss.length cv] tOp10) R)))) => rMerge_at (l := zs) (fan := o2) (v := .slice al zs.length cl) h' ((StoreT.stable _ _).both ((CellT.stable _ _ _).both HR.out)) HG.out HZ64.out (by omega) HN2.out.1 ⟨_, _, rfl⟩ (fun w'' h'' => HZ.out.below h''.below)
  have hcd := fun (w' : World) (hb : Below W.heap.size W w') => code10_calls (HF.out.below hb) (merge_okM HG.out o2 zs)
  rw [hM] at hme hrm hcd
  have HME := Lib.hid hme
  have HRM := Lib.hid hrm
  have HCD := Lib.hid hcd
  have H1D := Lib.hid (And.intro h1d (And.intro hst1 hz1))
  have hS9 : w1.drew.cell? ⟨s, 1, none⟩ = some (.int .i64 o2) ∧ w1.drew.cell? ⟨s, 3, none⟩ = some (.slice al zs.length cl) := ⟨b1, b3⟩
  clear hme hrm hcd h1d hz1 hst1 H0 b0 b1 b2 b3 b4 hM
  refine wp_only ?_
  rename_i K13 hK13
  have HK13 := Lib.hid hK13
  clear hK13
  refine wpL.start (fun _ wx => wx.cell? ⟨s, 1, none⟩ = some (.int .i64 o2) ∧ wx.cell? ⟨s, 3, none⟩ = some (.slice al zs.length cl)) (by kernel_rfl) hS9 (fun hHeld => ?_)
  refine wpL.takeS (i := 0) (v := ?_) (T := fun wx => wx.cell? ⟨s, 1, none⟩ = some (.int .i64 o2) ∧ wx.cell? ⟨s, 3, none⟩ = some (.slice al zs.length cl)) rfl (by kernel_rfl) (by kernel_rfl) (by kernel_rfl) (fun _ _ _ h => h) (fun _ _ h => h) (fun _ _ => Iff.rfl) (Or.inl ⟨by rfl, ?_⟩) hHeld (fun hH2 => ?_)
  rotate_left
  next => (intro w hSw; obtain ⟨g1, g3⟩ := hSw; go_simp; (try with_reducible rfl))
  clear hHeld
  have hHeld := hH2
  clear hH2
  (try simp only [List.getElem_toArray, List.getElem_cons_zero, List.getElem_cons_succ, Act.put, List.setIfInBounds_toArray, List.set_cons_zero, List.set_cons_succ])
  refine wpL.takeS (i := 1) (v := ?_) (T := fun wx => wx.cell? ⟨s, 1, none⟩ = some (.int .i64 o2) ∧ wx.cell? ⟨s, 3, none⟩ = some (.slice al zs.length cl)) rfl (by kernel_rfl) (by kernel_rfl) (by kernel_rfl) (fun _ _ _ h => h) (fun _ _ h => h) (fun _ _ => Iff.rfl) (Or.inl ⟨by rfl, ?_⟩) hHeld (fun hH2 => ?_)
  rotate_left
  next => (intro w hSw; obtain ⟨g1, g3⟩ := hSw; go_simp; (try with_reducible rfl))
  clear hHeld
  have hHeld := hH2
  clear hH2
  (try simp only [List.getElem_toArray, List.getElem_cons_zero, List.getElem_cons_succ, Act.put, List.setIfInBounds_toArray, List.set_cons_zero, List.set_cons_succ])
  refine wpL.takeS (i := 2) (v := ?_) (T := fun wx => wx.cell? ⟨s, 1, none⟩ = some (.int .i64 o2) ∧ wx.cell? ⟨s, 3, none⟩ = some (.slice al zs.length cl)) rfl (by kernel_rfl) (by kernel_rfl) (by kernel_rfl) (fun _ _ _ h => h) (fun _ _ h => h) (fun _ _ => Iff.rfl) (Or.inl ⟨by rfl, ?_⟩) hHeld (fun hH2 => ?_)
  rotate_left
  next => (intro w hSw; obtain ⟨g1, g3⟩ := hSw; go_simp; (try with_reducible rfl))
  clear hHeld
  have hHeld := hH2
  clear hH2
  (try simp only [List.getElem_toArray, List.getElem_cons_zero, List.getElem_cons_succ, Act.put, List.setIfInBounds_toArray, List.set_cons_zero, List.set_cons_succ])
  refine wpL.takeS (i := 3) (v := ?_) (T := fun wx => wx.cell? ⟨s, 1, none⟩ = some (.int .i64 o2) ∧ wx.cell? ⟨s, 3, none⟩ = some (.slice al zs.length cl)) rfl (by kernel_rfl) (by kernel_rfl) (by kernel_rfl) (fun _ _ _ h => h) (fun _ _ h => h) (fun _ _ => Iff.rfl) (Or.inl ⟨by rfl, ?_⟩) hHeld (fun hH2 => ?_)
  rotate_left
  next => (intro w hSw; obtain ⟨g1, g3⟩ := hSw; go_simp; (try with_reducible rfl))
  clear hHeld
  have hHeld := hH2
  clear hH2
  (try simp only [List.getElem_toArray, List.getElem_cons_zero, List.getElem_cons_succ, Act.put, List.setIfInBounds_toArray, List.set_cons_zero, List.set_cons_succ])
  refine wpL.takeS (i := 4) (v := ?_) (T := fun wx => wx.cell? ⟨s, 1, none⟩ = some (.int .i64 o2) ∧ wx.cell? ⟨s, 3, none⟩ = some (.slice al zs.length cl)) rfl (by kernel_rfl) (by kernel_rfl) (by kernel_rfl) (fun _ _ _ h => h) (fun _ _ h => h) (fun _ _ => Iff.rfl) (Or.inl ⟨by rfl, ?_⟩) hHeld (fun hH2 => ?_)
  rotate_left
  next => (intro w hSw; obtain ⟨g1, g3⟩ := hSw; go_simp; (try with_reducible rfl))
  clear hHeld
  have hHeld := hH2
  clear hH2
  (try simp only [List.getElem_toArray, List.getElem_cons_zero, List.getElem_cons_succ, Act.put, List.setIfInBounds_toArray, List.set_cons_zero, List.set_cons_succ])
  refine wpL.ready (rs := [5]) (by kernel_rfl) (by simp) ?_
  refine AllL.cons rfl (fun K hK => ?_) AllL.nil
  refine step_append_ex rfl _ _ 23 rfl (.slice none 0 0) _ rfl rfl (append_rd_run 23 23 tInt Tryz.underlying23 info_intL rfl (by decide) H1D.out.1 H1D.out.2.1 H1D.out.2.2 (ints_oneCellM _) (by unfold maxLen; omega) (by omega)) ?_
  rintro ta tc w2 ⟨h2, _⟩
  have g1 := cell_at h2.drop.cell.1 1
  have g3 := cell_at h2.drop.cell.1 3
  simp only [List.getElem?_toArray, List.getElem?_cons_zero, List.getElem?_cons_succ] at g1 g3
  have H2 := Lib.hid h2
  refine hK.out _ _ ?_ (fun hH2 => ?_)
  next => exact ⟨g1, g3⟩
  clear hK K hHeld h2 g1 g3
  have hHeld := hH2
  clear hH2
  (try simp only [List.getElem_toArray, List.getElem_cons_zero, List.getElem_cons_succ, Act.put, List.setIfInBounds_toArray, List.set_cons_zero, List.set_cons_succ])
  refine wpL.ready (rs := [6]) (by kernel_rfl) (by simp) ?_
  refine AllL.cons rfl (fun K hK => ?_) AllL.nil
  go_simp
  refine (HME.out w2 ta tc H2.out).mono ?_
  rintro e w3 ⟨rfl, h3⟩
  have h4 := (h3.perm (show _ = Both (RowG tInt 1 (.slice ta zs.length tc) zs.length (intsV zs)) (Both (RefT rb S) (Both (StoreT sb M.1) (Both (CellT s #[.int .i64 3, .int .i64 o2, .int .i64 o3, .slice al zs.length cl, .slice av ss.length cv] tOp10) R))) by ac_rfl)).drop
  have b1 := cell_at h4.drop.drop.cell.1 1
  have b3 := cell_at h4.drop.drop.cell.1 3
  have lb := lt_of_heap h4.drop.drop.cell.1
  simp only [List.getElem?_toArray, List.getElem?_cons_zero, List.getElem?_cons_succ] at b1 b3
  have H4 := Lib.hid h4
  try dsimp only
  refine hK.out _ _ ?_ (fun hH2 => ?_)
  next => exact ⟨b1, b3⟩
  clear hK K hHeld h3 h4 HME H2
  have hHeld := hH2
  clear hH2
  (try simp only [List.getElem_toArray, List.getElem_cons_zero, List.getElem_cons_succ, Act.put, List.setIfInBounds_toArray, List.set_cons_zero, List.set_cons_succ])
  refine wpL.takeS (i := 7) (v := ?_) (T := fun wx => wx.cell? ⟨s, 1, none⟩ = some (.int .i64 o2) ∧ wx.cell? ⟨s, 3, none⟩ = some (.slice al zs.length cl)) rfl (by kernel_rfl) (by kernel_rfl) (by kernel_rfl) (fun _ _ _ h => h) (fun _ _ h => h) (fun _ _ => Iff.rfl) (Or.inl ⟨by rfl, ?_⟩) hHeld (fun hH2 => ?_)
  rotate_left
  next => (intro w hSw; obtain ⟨g1, g3⟩ := hSw; go_simp; (try with_reducible rfl))
  clear hHeld
  have hHeld := hH2
  clear hH2
  (try simp only [List.getElem_toArray, List.getElem_cons_zero, List.getElem_cons_succ, Act.put, List.setIfInBounds_toArray, List.set_cons_zero, List.set_cons_succ])
  refine wpL.takeS (i := 8) (v := ?_) (T := fun wx => wx.cell? ⟨s, 1, none⟩ = some (.int .i64 o2) ∧ wx.cell? ⟨s, 3, none⟩ = some (.slice al zs.length cl)) rfl (by kernel_rfl) (by kernel_rfl) (by kernel_rfl) (fun _ _ _ h => h) (fun _ _ h => h) (fun _ _ => Iff.rfl) (Or.inl ⟨by rfl, ?_⟩) hHeld (fun hH2 => ?_)
  rotate_left
  next => (intro w hSw; obtain ⟨g1, g3⟩ := hSw; go_simp; (try with_reducible rfl))
  clear hHeld
  have hHeld := hH2
  clear hH2
  (try simp only [List.getElem_toArray, List.getElem_cons_zero, List.getElem_cons_succ, Act.put, List.setIfInBounds_toArray, List.set_cons_zero, List.set_cons_succ])
  refine wpL.takeS (i := 9) (v := ?_) (T := fun wx => wx.cell? ⟨s, 1, none⟩ = some (.int .i64 o2) ∧ wx.cell? ⟨s, 3, none⟩ = some (.slice al zs.length cl)) rfl (by kernel_rfl) (by kernel_rfl) (by kernel_rfl) (fun _ _ _ h => h) (fun _ _ h => h) (fun _ _ => Iff.rfl) (Or.inl ⟨by rfl, ?_⟩) hHeld (fun hH2 => ?_)
  rotate_left
  next => (intro w hSw; obtain ⟨g1, g3⟩ := hSw; go_simp; (try with_reducible rfl))
  clear hHeld
  have hHeld := hH2
  clear hH2
  (try simp only [List.getElem_toArray, List.getElem_cons_zero, List.getElem_cons_succ, Act.put, List.setIfInBounds_toArray, List.set_cons_zero, List.set_cons_succ])
  refine wpL.takeS (i := 10) (v := ?_) (T := fun wx => wx.cell? ⟨s, 1, none⟩ = some (.int .i64 o2) ∧ wx.cell? ⟨s, 3, none⟩ = some (.slice al zs.length cl)) rfl (by kernel_rfl) (by kernel_rfl) (by kernel_rfl) (fun _ _ _ h => h) (fun _ _ h => h) (fun _ _ => Iff.rfl) (Or.inl ⟨by rfl, ?_⟩) hHeld (fun hH2 => ?_)
  rotate_left
  next => (intro w hSw; obtain ⟨g1, g3⟩ := hSw; go_simp; (try with_reducible rfl))
  clear hHeld
  have hHeld := hH2
  clear hH2
  (try simp only [List.getElem_toArray, List.getElem_cons_zero, List.getElem_cons_succ, Act.put, List.setIfInBounds_toArray, List.set_cons_zero, List.set_cons_succ])
  refine wpL.takeS (i := 11) (v := ?_) (T := fun wx => wx.cell? ⟨s, 1, none⟩ = some (.int .i64 o2) ∧ wx.cell? ⟨s, 3, none⟩ = some (.slice al zs.length cl)) rfl (by kernel_rfl) (by kernel_rfl) (by kernel_rfl) (fun _ _ _ h => h) (fun _ _ h => h) (fun _ _ => Iff.rfl) (Or.inl ⟨by rfl, ?_⟩) hHeld (fun hH2 => ?_)
  rotate_left
  next => (intro w hSw; obtain ⟨g1, g3⟩ := hSw; go_simp; (try with_reducible rfl))
  clear hHeld
  have hHeld := hH2
  clear hH2
  (try simp only [List.getElem_toArray, List.getElem_cons_zero, List.getElem_cons_succ, Act.put, List.setIfInBounds_toArray, List.set_cons_zero, List.set_cons_succ])
  refine wpL.done (by kernel_rfl) ?_ _
  refine HK13.out _ _ ?_
  (repeat' (first | go_values | go_skip | go_guarded | go_step | go_upon | go_back | dsimp only))
  refine (HRM.out w3 H4.out).mono ?_
  rintro e w5 ⟨rfl, h5⟩
  have hcd2 := HCD.out w5 h5.below
  have H5 := Lib.hid (h5.perm (show _ = Both (CellT s #[.int .i64 3, .int .i64 o2, .int .i64 o3, .slice al zs.length cl, .slice av ss.length cv] tOp10) (Both (StoreT sb M.1) (Both (RefT rb M.1) R)) by ac_rfl))
  have HCD2 := Lib.hid hcd2
  clear h5 hcd2 HRM H4 b1 b3 lb HCD hHeld
  (repeat' (first | go_values | go_skip | go_guarded | go_step | go_upon | go_back | dsimp only))
  refine HCD2.out.mono ?_
  rintro e w6 ⟨rfl, rfl⟩
  clear HCD2
  (repeat' (first | go_values | go_skip | go_guarded | go_step | go_upon | go_back | dsimp only))
  go_ret
  exact ⟨rfl, H5.out.drop⟩
set_option maxRecDepth 100000 in
set_option maxHeartbeats 25600000 in
theorem step_sort (h : At W w (Both (StoreT sb S) (Both (RefT rb S) R))) (hR : Stable R) (hF : Fails W ef fails13) (hG : GoodS S) (ho : OpF W o2 o3 al av cl cv zs ss) :
    Calls Tryz.prog 26 #[.pointer (some ⟨sb, 0, none⟩), .pointer (some ⟨rb, 0, none⟩), .agg #[.int .i64 4, .int .i64 o2, .int .i64 o3, .slice al zs.length cl, .slice av ss.length cv]] w fun e w' => e = .returned (.bool true) ∧ At W w' (Both (StoreT sb (sortP S o2 o3 ss).1) (Both (RefT rb (sortP S o2 o3 ss).1) R)) := by
  obtain ⟨M, hM⟩ : ∃ M, sortP S o2 o3 ss = M := ⟨_, rfl⟩
  rw [hM]
  have hst : Stable (Both (StoreT sb S) (Both (RefT rb S) R)) := (StoreT.stable _ _).both ((RefT.stable _ _).both hR)
  have h0 := h.newCell hst #[.int .i64 4, .int .i64 o2, .int .i64 o3, .slice al zs.length cl, .slice av ss.length cv] tOp10
  have b0 := cell_at h0.cell.1 0
  have b1 := cell_at h0.cell.1 1
  have b2 := cell_at h0.cell.1 2
  have b3 := cell_at h0.cell.1 3
  have b4 := cell_at h0.cell.1 4
  have lb := lt_of_heap h0.cell.1
  simp only [List.getElem?_toArray, List.getElem?_cons_zero, List.getElem?_cons_succ] at b0 b1 b2 b3 b4
  have H0 := Lib.hid h0
  have HST := Lib.hid hst
  have HR := Lib.hid hR
  have HF := Lib.hid hF
  have HG := Lib.hid hG
  have HK := Lib.hid ho
  clear h h0 hst hR hF hG ho
  obtain ⟨ho2, ho3, hz, hz64, hs, hln⟩ := HK.out
  have HZ := Lib.hid hz
  have HS := Lib.hid hs
  have HN2 := Lib.hid (And.intro ho2 ho3)
  have HZ64 := Lib.hid hz64
  have hlx : ∀ x ∈ ss, x.length ≤ 1048576 := (bulk_eachM (ss := ss) (by omega)).2
  have HLX := Lib.hid hlx
  have hzl : zs.length ≤ 1048576 := by omega
  have hsl : ss.length ≤ 1048576 := by omega
  clear hz hs ho2 ho3 hz64 hlx HK
  go_enter Tryz.func26, Tryz.ntmps26
  go_upto_region 10 with (fail)
  generalize w.alloc _ = w1 at *
  generalize w.heap.size = s at *
  have hst1 : Stable (Both (CellT s #[.int .i64 4, .int .i64 o2, .int .i64 o3, .slice al zs.length cl, .slice av ss.length cv] tOp10) (Both (StoreT sb S) (Both (RefT rb S) R))) := (CellT.stable _ _ _).both HST.out
  have hxl : ∀ x ∈ ss, x.length ≤ 1099511627776 := fun x hx => by have := HLX.out x hx; omega
  have htw := fun (w2 : World) (hb : Below w1.heap.size w1 w2) => (twin10_calls ss (.slice av ss.length cv) w2 ((HS.out.below H0.out.below).below hb) (by omega)).mono fun e w3 (q : ∃ v', e = .returned v' ∧ w3.ownsRow w2.heap.size tSx 1 v' ss.length (strs ss) ∧ Below w2.heap.size w2 w3) => (show ∃ (ta : Option Addr) (tc : Nat), e = .returned (.slice ta ss.length tc) ∧ At W w3 (Both (RowG tSx 1 (.slice ta ss.length tc) ss.length (strs ss)) (Both (CellT s #[.int .i64 4, .int .i64 o2, .int .i64 o3, .slice al zs.length cl, .slice av ss.length cv] tOp10) (Both (StoreT sb S) (Both (RefT rb S) R)))) by
    obtain ⟨v', rfl, hto, hbt⟩ := q
    obtain ⟨ta, tc, rfl, _, _⟩ := own_shape hto
    exact ⟨ta, tc, rfl, (H0.out.mono hst1 hb).newRowG hst1 hbt hto⟩)
  have hso := fun (w2 : World) (ta : Option Addr) (tc : Nat) (h2 : At W w2 (Both (RowG tSx 1 (.slice ta ss.length tc) ss.length (strs ss)) (Both (CellT s #[.int .i64 4, .int .i64 o2, .int .i64 o3, .slice al zs.length cl, .slice av ss.length cv] tOp10) (Both (StoreT sb S) (Both (RefT rb S) R))))) => Sort_at9 (ws := ss) (bu := o2) (fan := o3) (v := .slice ta ss.length tc) (h2.perm (show _ = Both (StoreT sb S) (Both (RowG tSx 1 (.slice ta ss.length tc) ss.length (strs ss)) (Both (CellT s #[.int .i64 4, .int .i64 o2, .int .i64 o3, .slice al zs.length cl, .slice av ss.length cv] tOp10) (Both (RefT rb S) R))) by ac_rfl)) ((RowG.stable _ _ _ _ _).both ((CellT.stable _ _ _).both ((RefT.stable _ _).both HR.out))) HF.out HG.out HN2.out.1 HN2.out.2 ⟨_, _, rfl, by omega⟩ hxl (fun w' h' => RdRow.of_own h'.rowG)
  have hrm := fun (w' : World) (h' : At W w' (Both (RefT rb S) (Both (StoreT sb (sortP S o2 o3 ss).1) (Both (CellT s #[.int .i64 4, .int .i64 o2, .int .i64 o3, .slice al zs.length cl, .slice av ss.length cv] tOp10) R)))) => rSort_at (ws := ss) (bu := o2) (fan := o3) (v := .slice av ss.length cv) h' ((StoreT.stable _ _).both ((CellT.stable _ _ _).both HR.out)) HG.out HN2.out.1 HN2.out.2 ⟨_, _, rfl, by omega⟩ hxl (fun w'' h'' => HS.out.below h''.below)
  have hcd := fun (w' : World) (hb : Below W.heap.size W w') => code10_calls (HF.out.below hb) (sort_okM HG.out o2 o3 ss)
  rw [hM] at hso hrm hcd
  have HTW := Lib.hid htw
  have HSO := Lib.hid hso
  have HRM := Lib.hid hrm
  have HCD := Lib.hid hcd
  have hcg := And.intro b1 (And.intro b2 b4)
  clear htw hso hrm hcd hst1 hxl b0 b1 b2 b3 b4 hM
  go_region_held3 (fun wx => wx.cell? ⟨s, 1, none⟩ = some (.int .i64 o2) ∧ wx.cell? ⟨s, 2, none⟩ = some (.int .i64 o3) ∧ wx.cell? ⟨s, 4, none⟩ = some (.slice av ss.length cv)) (first | assumption | go_keep) ((first
    | (go_at_call 13; (refine Calls.mono (HSO.out _ _ _ H7.out) ?_); rintro e w8 ⟨rfl, h8⟩
       have h9 := (h8.perm (show _ = Both (RowG tSx 1 (.slice ta ss.length tc) ss.length (strs ss)) (Both (CellT s #[.int .i64 4, .int .i64 o2, .int .i64 o3, .slice al zs.length cl, .slice av ss.length cv] tOp10) (Both (StoreT sb M.1) (Both (RefT rb S) R))) by ac_rfl)).drop
       have q0 := cell_at h9.cell.1 1
       have q2 := cell_at h9.cell.1 2
       have q3 := cell_at h9.cell.1 4
       have cg9 := And.intro q0 (And.intro q2 q3)
       have l8 := lt_of_heap h9.cell.1
       have H8 := Lib.hid h9
       clear h8 h9)
    | (go_at_call 11; (refine Calls.mono (HTW.out _ (by exact ⟨rfl, rfl, rfl, Nat.le_refl _, fun _ _ => rfl⟩)) ?_); rintro e w7 ⟨ta, tc, rfl, h7⟩
       have p0 := cell_at h7.drop.cell.1 1
       have p2 := cell_at h7.drop.cell.1 2
       have p3 := cell_at h7.drop.cell.1 4
       have cg7 := And.intro p0 (And.intro p2 p3)
       have l7s := lt_of_heap h7.drop.cell.1
       have H7 := Lib.hid h7
       clear h7)))
  all_goals
    have b1 := cell_at H8.out.cell.1 1
    have b2 := cell_at H8.out.cell.1 2
    have b4 := cell_at H8.out.cell.1 4
    have lb := lt_of_heap H8.out.cell.1
    simp only [List.getElem?_toArray, List.getElem?_cons_zero, List.getElem?_cons_succ] at b1 b2 b4
    (repeat' (first | go_values | go_skip | go_guarded | go_step | go_upon | go_back | dsimp only))
    refine (HRM.out _ (H8.out.perm (show _ = Both (RefT rb S) (Both (StoreT sb M.1) (Both (CellT s #[.int .i64 4, .int .i64 o2, .int .i64 o3, .slice al zs.length cl, .slice av ss.length cv] tOp10) R)) by ac_rfl))).mono ?_
    rintro e w9 ⟨rfl, h9⟩
    have HCD2 := Lib.hid (HCD.out w9 h9.below)
    have H9 := Lib.hid (h9.perm (show _ = Both (CellT s #[.int .i64 4, .int .i64 o2, .int .i64 o3, .slice al zs.length cl, .slice av ss.length cv] tOp10) (Both (StoreT sb M.1) (Both (RefT rb M.1) R)) by ac_rfl))
    clear h9 b1 b2 b4 lb
    (repeat' (first | go_values | go_skip | go_guarded | go_step | go_upon | go_back | dsimp only))
    refine HCD2.out.mono ?_
    rintro e w10 ⟨rfl, rfl⟩
    clear HCD2
    (repeat' (first | go_values | go_skip | go_guarded | go_step | go_upon | go_back | dsimp only))
    go_ret
    exact ⟨rfl, H9.out.drop⟩
set_option maxRecDepth 100000 in
set_option maxHeartbeats 25600000 in
theorem step_gone (h : At W w (Both (StoreT sb S) (Both (RefT rb S) R))) (hR : Stable R) (hF : Fails W ef fails13) (hG : GoodS S) (ho : OpF W o2 o3 al av cl cv zs ss) :
    Calls Tryz.prog 26 #[.pointer (some ⟨sb, 0, none⟩), .pointer (some ⟨rb, 0, none⟩), .agg #[.int .i64 6, .int .i64 o2, .int .i64 o3, .slice al zs.length cl, .slice av ss.length cv]] w fun e w' => e = .returned (.bool true) ∧ At W w' (Both (StoreT sb (removeP S o2).1) (Both (RefT rb (removeP S o2).1) R)) := by
  obtain ⟨M, hM⟩ : ∃ M, removeP S o2 = M := ⟨_, rfl⟩
  rw [hM]
  have HM := Lib.hid hM
  have HF7 := Lib.hid (show Fails W ef fails7 from hF.less (by decide))
  clear hM
  have hst : Stable (Both (StoreT sb S) (Both (RefT rb S) R)) := (StoreT.stable _ _).both ((RefT.stable _ _).both hR)
  have h0 := h.newCell hst #[.int .i64 6, .int .i64 o2, .int .i64 o3, .slice al zs.length cl, .slice av ss.length cv] tOp10
  have b0 := cell_at h0.cell.1 0
  have b1 := cell_at h0.cell.1 1
  have b2 := cell_at h0.cell.1 2
  have b3 := cell_at h0.cell.1 3
  have b4 := cell_at h0.cell.1 4
  have lb := lt_of_heap h0.cell.1
  simp only [List.getElem?_toArray, List.getElem?_cons_zero, List.getElem?_cons_succ] at b0 b1 b2 b3 b4
  have H0 := Lib.hid h0
  have HST := Lib.hid hst
  have HR := Lib.hid hR
  have HF := Lib.hid hF
  have HG := Lib.hid hG
  have HK := Lib.hid ho
  clear h h0 hst hR hF hG ho
  obtain ⟨ho2, ho3, hz, hz64, hs, hln⟩ := HK.out
  have HZ := Lib.hid hz
  have HS := Lib.hid hs
  have HN2 := Lib.hid (And.intro ho2 ho3)
  have HZ64 := Lib.hid hz64
  have hlx : ∀ x ∈ ss, x.length ≤ 1048576 := (bulk_eachM (ss := ss) (by omega)).2
  have HLX := Lib.hid hlx
  have hzl : zs.length ≤ 1048576 := by omega
  have hsl : ss.length ≤ 1048576 := by omega
  clear hz hs ho2 ho3 hz64 hlx HK
  obtain ⟨c, hc⟩ : ∃ c, M.2 = c := ⟨_, rfl⟩
  have HC := Lib.hid hc
  clear hc
  by_cases hz : c = 0
  · subst hz
    have heq := eql_nil
    skip
    go_enter Tryz.func26, Tryz.ntmps26
    go_upto_region 17 with (fail)
    generalize w.alloc _ = w1 at *
    generalize w.heap.size = s at *
    have hst1 : Stable (Both (CellT s #[.int .i64 6, .int .i64 o2, .int .i64 o3, .slice al zs.length cl, .slice av ss.length cv] tOp10) (Both (StoreT sb S) (Both (RefT rb S) R))) := (CellT.stable _ _ _).both HST.out
    have hrem := fun (w' : World) (hb : Below w1.heap.size w1 w') => Remove_7 ((H0.out.mono hst1 hb).perm (show _ = Both (StoreT sb S) (Both (CellT s #[.int .i64 6, .int .i64 o2, .int .i64 o3, .slice al zs.length cl, .slice av ss.length cv] tOp10) (Both (RefT rb S) R)) by ac_rfl)) ((CellT.stable _ _ _).both ((RefT.stable _ _).both HR.out)) HF7.out HN2.out.1 HG.out.le
    have hrrm := fun (w' : World) (h : At W w' (Both (RefT rb S) (Both (CellT s #[.int .i64 6, .int .i64 o2, .int .i64 o3, .slice al zs.length cl, .slice av ss.length cv] tOp10) (Both (StoreT sb (removeP S o2).1) R)))) => rRemove_at h ((CellT.stable _ _ _).both ((StoreT.stable _ _).both HR.out)) HG.out HN2.out.1
    rw [HM.out] at hrem hrrm
    rw [HC.out] at hrem hrrm; simp only [errV_zero] at hrem
    have HREM := Lib.hid hrem
    have HRRM := Lib.hid hrrm
    have hcg := b1
    clear hrem hrrm hst1 b0 b1 b2 b3 b4
    go_region_held3 (fun wx => wx.cell? ⟨s, 1, none⟩ = some (.int .i64 o2)) (first | assumption | go_keep) ((first
      | (go_at_call 53; (refine Calls.mono (HRRM.out _ H7.out) ?_); rintro e w8 ⟨rfl, h8⟩
         have h9 := h8.perm (show _ = Both (CellT s #[.int .i64 6, .int .i64 o2, .int .i64 o3, .slice al zs.length cl, .slice av ss.length cv] tOp10) (Both (StoreT sb M.1) (Both (RefT rb M.1) R)) by ac_rfl)
         have cg9 := cell_at h9.cell.1 1
         have l8 := lt_of_heap h9.cell.1
         have H8 := Lib.hid h9
         clear h8 h9)
      | (go_at_call 52; (refine Calls.mono (HREM.out _ (by exact ⟨rfl, rfl, rfl, Nat.le_refl _, fun _ _ => rfl⟩)) ?_); rintro e w7 ⟨rfl, h7⟩
         have h9 := h7.perm (show _ = Both (RefT rb S) (Both (CellT s #[.int .i64 6, .int .i64 o2, .int .i64 o3, .slice al zs.length cl, .slice av ss.length cv] tOp10) (Both (StoreT sb M.1) R)) by ac_rfl)
         have cg7 := cell_at h9.drop.cell.1 1
         have l7 := lt_of_heap h9.drop.cell.1
         have H7 := Lib.hid h9
         clear h7 h9)))
    all_goals
      (repeat' (first | go_values | go_skip | go_guarded | go_step | go_upon | go_back | dsimp only))
      go_ret
      exact ⟨rfl, H8.out.drop⟩
  · have heq := eql_errV ef hz
    have hq0 : ((c : Int) == 0) = false := beq_eq_false_iff_ne.2 (by omega)
    have hep := errV_pos ef hz
    rw [hep] at heq
    have HEP := Lib.hid hep
    clear hz hep
    skip
    go_enter Tryz.func26, Tryz.ntmps26
    go_upto_region 17 with (fail)
    generalize w.alloc _ = w1 at *
    generalize w.heap.size = s at *
    have hst1 : Stable (Both (CellT s #[.int .i64 6, .int .i64 o2, .int .i64 o3, .slice al zs.length cl, .slice av ss.length cv] tOp10) (Both (StoreT sb S) (Both (RefT rb S) R))) := (CellT.stable _ _ _).both HST.out
    have hrem := fun (w' : World) (hb : Below w1.heap.size w1 w') => Remove_7 ((H0.out.mono hst1 hb).perm (show _ = Both (StoreT sb S) (Both (CellT s #[.int .i64 6, .int .i64 o2, .int .i64 o3, .slice al zs.length cl, .slice av ss.length cv] tOp10) (Both (RefT rb S) R)) by ac_rfl)) ((CellT.stable _ _ _).both ((RefT.stable _ _).both HR.out)) HF7.out HN2.out.1 HG.out.le
    have hrrm := fun (w' : World) (h : At W w' (Both (RefT rb S) (Both (CellT s #[.int .i64 6, .int .i64 o2, .int .i64 o3, .slice al zs.length cl, .slice av ss.length cv] tOp10) (Both (StoreT sb (removeP S o2).1) R)))) => rRemove_at h ((CellT.stable _ _ _).both ((StoreT.stable _ _).both HR.out)) HG.out HN2.out.1
    rw [HM.out] at hrem hrrm
    rw [HC.out] at hrem hrrm; simp only [HEP.out] at hrem
    have HREM := Lib.hid hrem
    have HRRM := Lib.hid hrrm
    have hcg := b1
    clear hrem hrrm hst1 b0 b1 b2 b3 b4
    go_region_held3 (fun wx => wx.cell? ⟨s, 1, none⟩ = some (.int .i64 o2)) (first | assumption | go_keep) ((first
      | (go_at_call 53; (refine Calls.mono (HRRM.out _ H7.out) ?_); rintro e w8 ⟨rfl, h8⟩
         have h9 := h8.perm (show _ = Both (CellT s #[.int .i64 6, .int .i64 o2, .int .i64 o3, .slice al zs.length cl, .slice av ss.length cv] tOp10) (Both (StoreT sb M.1) (Both (RefT rb M.1) R)) by ac_rfl)
         have cg9 := cell_at h9.cell.1 1
         have l8 := lt_of_heap h9.cell.1
         have H8 := Lib.hid h9
         clear h8 h9)
      | (go_at_call 52; (refine Calls.mono (HREM.out _ (by exact ⟨rfl, rfl, rfl, Nat.le_refl _, fun _ _ => rfl⟩)) ?_); rintro e w7 ⟨rfl, h7⟩
         have h9 := h7.perm (show _ = Both (RefT rb S) (Both (CellT s #[.int .i64 6, .int .i64 o2, .int .i64 o3, .slice al zs.length cl, .slice av ss.length cv] tOp10) (Both (StoreT sb M.1) R)) by ac_rfl)
         have cg7 := cell_at h9.drop.cell.1 1
         have l7 := lt_of_heap h9.drop.cell.1
         have H7 := Lib.hid h9
         clear h7 h9)))
    all_goals
      (repeat' (first | go_values | go_skip | go_guarded | go_step | go_upon | go_back | dsimp only))
      go_ret
      exact ⟨rfl, H8.out.drop⟩
theorem stepAllM (h : At W w (Both (StoreT sb S) (Both (RefT rb S) R))) (hR : Stable R) (hF : Fails W ef fails13) (hG : GoodS S) (ho : OpF W o2 o3 al av cl cv zs ss) (h1 : inI64 o1) :
    Calls Tryz.prog 26 #[.pointer (some ⟨sb, 0, none⟩), .pointer (some ⟨rb, 0, none⟩), .agg #[.int .i64 o1, .int .i64 o2, .int .i64 o3, .slice al zs.length cl, .slice av ss.length cv]] w fun e w' => e = .returned (.bool true) ∧ ∃ S', GoodS S' ∧ At W w' (Both (StoreT sb S') (Both (RefT rb S') R)) := by
  by_cases e1 : o1 = 1 ∨ o1 = 2
  · exact (step_lays h hR hF hG ho e1).mono fun e w' q => ⟨q.1, _, layP_good hG _ _ _, q.2⟩
  by_cases e3 : o1 = 3
  · subst e3; exact (step_merge h hR hF hG ho).mono fun e w' q => ⟨q.1, _, merge_good hG _ _, q.2⟩
  by_cases e4 : o1 = 4
  · subst e4; exact (step_sort h hR hF hG ho).mono fun e w' q => ⟨q.1, _, sort_good hG _ _ _, q.2⟩
  by_cases e5 : o1 = 5
  · subst e5; exact (step_brk10 h hR hF hG ho).mono fun e w' q => ⟨q.1, _, hG.brk ho.1, q.2⟩
  by_cases e6 : o1 = 6
  · subst e6; exact (step_gone h hR hF hG ho).mono fun e w' q => ⟨q.1, _, hG.remove _, q.2⟩
  exact (step_none10 h hR hF hG ho (by omega)).mono fun e w' q => ⟨q.1, _, hG, q.2⟩
end
theorem getD_memM {ops : List Op10} {k : Nat} (h : k < ops.length) : ops.getD k default ∈ ops := by
  rw [List.getD_eq_getElem?_getD, List.getElem?_eq_getElem h]
  exact List.getElem_mem h
set_option maxRecDepth 100000 in
set_option maxHeartbeats 6400000 in
theorem mergePlays_walk (W : World) (ef : Nat → Nat × Nat) (hF : Fails W ef fails13) (c : Int) (hc : -9223372036854775808 ≤ c ∧ c ≤ 9223372036854775807) (ops : List Op10) (v : Value) (hops : OpsRowM W v ops) (hlen : ops.length ≤ 1048576) :
    Calls Tryz.prog 7 #[.int .i64 c, v] W fun e w' => e = .returned (.bool true) ∧ Below W.heap.size W w' := by
  have HF := Lib.hid hF
  have HO := Lib.hid hops
  obtain ⟨ao, cap, hv, hcap, hcm⟩ := hops.row.shape
  subst hv
  have hnot : ∀ (x : Bool) (w : World), (Op.unary .not (.bool x)).run Tryz.prog w = .ok (.bool (!x)) w := fun _ _ => rfl
  clear hF hops
  go_enter Tryz.func7, Tryz.ntmps7
  (repeat' (first | go_values | go_skip | go_guarded | go_step | go_upon | go_back | dsimp only))
  refine (New_at (At.nought (Below.refl _ _)) Stable.nought (by unfold inI64; omega)).mono ?_
  rintro e w1 ⟨rfl, h1⟩
  generalize W.heap.size + 1 = b at *
  have H1 := Lib.hid h1
  clear h1
  (repeat' (first | go_values | go_skip | go_guarded | go_step | go_upon | go_back | dsimp only))
  refine (rNew_at H1.out ((StoreT.stable _ _).both Stable.nought) (by unfold inI64; omega)).mono ?_
  rintro e w2 ⟨rfl, h2⟩
  generalize w1.heap.size = rb at *
  have H2 := Lib.hid (h2.perm (show _ = Both (StoreT b (newSt c)) (Both (RefT rb (newSt c)) Nought) by ac_rfl))
  have hst2 : Stable (Both (StoreT b (newSt c)) (Both (RefT rb (newSt c)) Nought)) := (StoreT.stable _ _).both ((RefT.stable _ _).both Stable.nought)
  have HST2 := Lib.hid hst2
  clear h2 hst2 H1
  (repeat' (first | go_values | go_skip | go_guarded | go_step | go_upon | go_back | dsimp only))
  refine (wakes10_calls (HF.out.below H2.out.below)).mono ?_
  rintro e w4 ⟨rfl, hb4⟩
  have H7 := Lib.hid (H2.out.mono HST2.out hb4)
  clear hb4 H2 HST2
  (repeat' (first | go_values | go_skip | go_guarded | go_step | go_upon | go_back | dsimp only))
  go_loopw [21] (fun i wr => ∃ (k : Nat) (S : St) (X : Thing), i = .int .i64 k ∧ k ≤ ops.length ∧ GoodS S ∧ Stable X ∧ At W wr (Both (StoreT b S) (Both (RefT rb S) X))) (fun i _ => ops.length - (intOf i).toNat)
  case atStart => exact ⟨0, _, _, rfl, by omega, GoodS.new c, Stable.nought, H7.out⟩
  case round =>
    obtain ⟨k, S, X, rfl, hk, hG, hX, hh⟩ := hrel
    have HH := Lib.hid hh
    have HG := Lib.hid hG
    have HX := Lib.hid hX
    clear H7 hG hX
    by_cases hlt : (k : Int) < ops.length
    · have hkl : k < ops.length := by omega
      obtain ⟨bo, oo, co, hsl, ⟨x0, x1, x2, x3, x4⟩, hop⟩ := (HO.out.below hh.below).op hkl
      cases hsl
      have hopW : OpOkM W (ops.getD k default) := HO.out.each _ (getD_memM hkl)
      obtain ⟨al, cl, hol, _, _⟩ := hopW.ints.shape
      obtain ⟨av, cv, hov, _, _⟩ := hopW.row.shape
      generalize ops.getD k default = o at *
      obtain ⟨ok, on, om, ol, ov, oz, op⟩ := o
      dsimp only at hol hov x0 x1 x2 x3 x4
      subst hol hov
      have hof : OpF W on om al av cl cv oz op := ⟨hopW.n, hopW.m, hopW.ints, hopW.each, hopW.row, hopW.len⟩
      have hok := hopW.k
      have HOP := Lib.hid (And.intro hof hok)
      have hk0 : (0 : Int) ≤ k := by omega
      have hst : Stable (Both (StoreT b S) (Both (RefT rb S) X)) := (StoreT.stable _ _).both ((RefT.stable _ _).both HX.out)
      have h4 := HH.out.newCell hst #[.int .i64 ok, .int .i64 on, .int .i64 om, .slice al oz.length cl, .slice av op.length cv] tOp10
      obtain ⟨w4, hw4⟩ : ∃ w4, w4 = wr.alloc (.cells #[.int .i64 ok, .int .i64 on, .int .i64 om, .slice al oz.length cl, .slice av op.length cv] tOp10) := ⟨_, rfl⟩
      rw [← hw4] at h4
      have H4 := Lib.hid h4
      have HW4 := Lib.hid hw4
      clear h4 hw4 hh hop hopW hof hok hst
      go_upto_region 7 with (fail)
      rw [show wr.alloc (Obj.cells #[.int .i64 ok, .int .i64 on, .int .i64 om, .slice al oz.length cl, .slice av op.length cv] tOp10) = w4 from HW4.out.symm]
      clear HW4 x0 x1 x2 x3 x4
      generalize wr.heap.size = s4 at *
      have y0 := cell_at H4.out.cell.1 0; have y1 := cell_at H4.out.cell.1 1; have y2 := cell_at H4.out.cell.1 2; have y3 := cell_at H4.out.cell.1 3; have y4 := cell_at H4.out.cell.1 4
      have ly := lt_of_heap H4.out.cell.1
      simp only [List.getElem?_toArray, List.getElem?_cons_zero, List.getElem?_cons_succ] at y0 y1 y2 y3 y4
      (repeat' (first | go_values | go_skip | go_guarded | go_step | go_upon | go_back | dsimp only))
      refine (stepAllM (H4.out.drop) HX.out HF.out HG.out HOP.out.1 HOP.out.2).mono ?_
      rintro e w5 ⟨rfl, S2, hg2, h5⟩
      have HG2 := Lib.hid hg2
      have H6 := Lib.hid h5
      clear h5 hg2 y0 y1 y2 y3 y4 ly H4
      (repeat' (first | go_values | go_skip | go_guarded | go_step | go_upon | go_back | dsimp only))
      refine (alike10_calls H6.out HX.out HG2.out).mono ?_
      rintro e w7 ⟨rfl, h8⟩
      have HEND := Lib.hid h8
      have hwr : IntKind.i64.wrap ((k : Int) + 1) = ((k + 1 : Nat) : Int) := by rw [IntKind.wrap_i64] <;> omega
      clear h8 H6
      (repeat' (first | go_values | go_skip | go_guarded | go_step | go_upon | go_back | dsimp only))
      go_roundw
      case rel => exact ⟨k + 1, S2, X, by simp, by omega, HG2.out, HX.out, HEND.out⟩
      case measure => simp [intOf] <;> omega
    · clear hh
      (repeat' (first | go_values | go_skip | go_guarded | go_step | go_upon | go_back | dsimp only))
      go_ret
      exact ⟨rfl, HH.out.below⟩
end Go.Proofs.YtadokkffmekndaaGreatDoor
