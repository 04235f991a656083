/- StreamsWalks walked. -/
import Derived.Test.YtbmfaffnbjmipaaStEnv
import Derived.Test.YtbmfaffnbjmipaaStRef
import Derived.Test.YtbmfaffnbjmipaaHeldIn
import Derived.Test.YtbmfaffnbjmipaaOpen
namespace Go.Proofs.Ytbmfaffnbjmipaa
open Go.RowKit
attribute [local go_sem] Oper.semAt_some

section
variable {W w : World} {A B C D E F G : Thing}
theorem At.flat6 (h : At W w (Both (Both A (Both B (Both C (Both D (Both E F))))) G)) : At W w (Both A (Both B (Both C (Both D (Both E (Both F G)))))) :=
  h.toR.impl fun _ q => Both.mono (fun _ _ q => Both.mono (fun _ _ q => Both.mono (fun _ _ q => Both.mono (fun _ _ q => Both.toR q) (Both.toR q)) (Both.toR q)) (Both.toR q)) q
theorem At.group6 (h : At W w (Both A (Both B (Both C (Both D (Both E (Both F G))))))) : At W w (Both (Both A (Both B (Both C (Both D (Both E F))))) G) :=
  (h.impl fun _ q => Both.mono (fun _ _ q => Both.toL (Both.mono (fun _ _ q => Both.toL (Both.mono (fun _ _ q => Both.toL (Both.mono (fun _ _ q => Both.toL q) q)) q)) q)) q).toL
theorem At.walkOrd (h : At W w (Both A (Both B (Both C (Both D (Both E (Both F G))))))) : At W w (Both (Both A (Both B (Both D F))) (Both C (Both E G))) := by
  have h1 : At W w (Both A (Both B (Both D (Both F (Both C (Both E G)))))) := h.impl fun _ q => Both.mono (fun _ _ q => Both.mono (fun _ _ q => Both.mono (fun _ _ q => (Both.mono (fun _ _ q => q.assoc) q).assoc) q.assoc) q) q
  exact h1.impl fun _ q => Both.toL (Both.mono (fun _ _ q => Both.toL (Both.mono (fun _ _ q => Both.toL q) q)) q)
end
set_option linter.unusedSimpArgs false in
set_option maxRecDepth 100000 in
set_option maxHeartbeats 8000000 in
theorem streamsWalks_walk (W : World) (sa : List (List UInt8)) (va : Value) (rda : RdRow W va sa.length 1 (strs sa)) (ha : sa.length + sumLen sa ≤ 1048576) (sb : List (List UInt8)) (vb : Value) (rdb : RdRow W vb sb.length 1 (strs sb)) (hb : sb.length + sumLen sb ≤ 1048576) (stop : Int) (_ : -9223372036854775808 ≤ stop ∧ stop ≤ 9223372036854775807) :
    Calls Try.prog 6 #[va, vb, .int .i64 stop] W fun e w' => e = .returned (.bool true) ∧ Below W.heap.size W w' := by
  obtain ⟨a1, cap1, rfl, _, _⟩ := rda.shape
  obtain ⟨a2, cap2, rfl, _, _⟩ := rdb.shape
  have h1 := ((At.nought (Below.refl W.heap.size W)).newCell Stable.nought #[.int .i64 stop] tNum).newCell ((CellT.stable _ _ _).both Stable.nought) #[.bool false] tBo
  rw [show (W.alloc (.cells #[.int .i64 stop] tNum)).heap.size = W.heap.size + 1 from by simp] at h1
  have hR1 := (CellT.stable (W.heap.size + 1) #[.bool false] tBo).both ((CellT.stable W.heap.size #[.int .i64 stop] tNum).both Stable.nought)
  have RDA := Lib.hid (fun wx (h : Below W.heap.size W wx) => rda.below h)
  have RDB := Lib.hid (fun wx (h : Below W.heap.size W wx) => rdb.below h)
  have HT := Lib.hid (twin8_calls sa _ _ (RDA.out _ h1.below) (by omega))
  have H1 := Lib.hid (h1.noughtL hR1)
  clear h1 rda rdb
  obtain ⟨R0, hR0⟩ : ∃ X, Both (CellT (W.heap.size + 1) #[.bool false] tBo) (Both (CellT W.heap.size #[.int .i64 stop] tNum) Nought) = X := ⟨_, rfl⟩
  rw [hR0] at hR1 H1
  have HR0 := Lib.hid hR0
  clear hR0
  (refine (callsIn_wide (n := 0)).1 (callsIn_of_wp_marks Try.func6 rfl trivial (wpIn_wide.2 ?_) rfl); simp only [Try.ntmps6, List.size_toArray, List.length_cons, List.length_nil, Nat.reduceAdd, Nat.reduceSub, Array.replicate_succ, Array.replicate_zero, List.push_toArray, List.append_toArray, List.nil_append, List.cons_append])
  (repeat' (first | (go_big_may; fail) | go_values | go_skip | go_guarded | go_step | go_upon | go_back | dsimp only))
  refine HT.out.mono ?_
  rintro e w2 ⟨v0, rfl, ho, hbl⟩
  have HO := Lib.hid (OfTwin_env H1.out Stable.nought hR1 (Envs.nil W Nought) hbl ho (by omega))
  clear HT H1 ho hbl
  (repeat' (first | (go_big_may; fail) | go_values | go_skip | go_guarded | go_step | go_upon | go_back | dsimp only))
  refine HO.out.mono ?_
  rintro e w3 ⟨Φ1, u1, hΦ1, rfl, he1, h3⟩
  have HT := Lib.hid (twin8_calls sb _ w3 (RDB.out _ h3.below) (by omega))
  have H3 := Lib.hid h3
  clear HO h3
  (repeat' (first | (go_big_may; fail) | go_values | go_skip | go_guarded | go_step | go_upon | go_back | dsimp only))
  refine HT.out.mono ?_
  rintro e w4 ⟨v1, rfl, ho, hbl⟩
  have HO := Lib.hid (OfTwin_env H3.out hΦ1 hR1 he1 hbl ho (by omega))
  clear HT H3 ho hbl
  (repeat' (first | (go_big_may; fail) | go_values | go_skip | go_guarded | go_step | go_upon | go_back | dsimp only))
  refine HO.out.mono ?_
  rintro e w5 ⟨Φ2, u2, hΦ2, rfl, he2, h5⟩
  have hla := ofL_len sa
  have hlb := ofL_len sb
  have hra := ofL_rises sa
  have hrb := ofL_rises sb
  have hROa := Of_at sa.length
  have hROb := Of_at sb.length
  have HU := Lib.hid (Union_env (vs := [u1, u2]) (Ls := [ofL sa, ofL sb]) (n := 2) he2 hΦ2 hR1 h5 rfl rfl (by simp) (by simp only [List.mem_cons, List.not_mem_nil, or_false, forall_eq_or_imp, forall_eq]; exact ⟨hra, hrb⟩) (by simp) (by simp only [List.flatten_cons, List.flatten_nil, List.length_append, List.length_nil]; omega))
  clear HO h5
  (repeat' (first | (go_big_may; fail) | go_values | go_skip | go_guarded | go_step | go_upon | go_back | dsimp only))
  refine HU.out.mono ?_
  rintro e w6 ⟨Φ, u, hΦ, rfl, he3, h6⟩
  rw [unionL_two hra hrb] at he3
  have hs := he3.get u (mergeL (ofL sa) (ofL sb)) (by simp)
  have hlU : (mergeL (ofL sa) (ofL sb)).length ≤ 2097152 := by have := mergeL_len (ofL sa) (ofL sb); omega
  have HRU := Lib.hid (fun (w : World) (va vb : Value) (h1 : RdRow w va (ofL sa).length 1 (strs (ofL sa))) (h2 : RdRow w vb (ofL sb).length 1 (strs (ofL sb))) => RUnion_calls h1 h2 (by omega))
  have hOA : ∀ w v, RdRow w v sa.length 1 (strs sa) → _ := fun w v h => Of_at sa.length w sa v (Nat.le_refl _) (by omega) h
  have hOB : ∀ w v, RdRow w v sb.length 1 (strs sb) → _ := fun w v h => Of_at sb.length w sb v (Nat.le_refl _) (by omega) h
  generalize mergeL (ofL sa) (ofL sb) = U at *
  generalize ofL sa = A at *
  generalize ofL sb = B at *
  obtain ⟨hst, h7⟩ := h6.keepStr hΦ hR1 hs.one
  have hR7 := hΦ.both ((CellT.stable w6.heap.size #[u] tStr).both hR1)
  have HO1 := Lib.hid (hOA _ _ (RDA.out _ h7.below))
  have HOB := Lib.hid hOB
  have H7 := Lib.hid h7
  have HS := Lib.hid hs
  clear HU h6 h7 he3 hs hOA hOB
  (repeat' (first | (go_big_may; fail) | go_values | go_skip | go_guarded | go_step | go_upon | go_back | dsimp only))
  clear hst
  refine HO1.out.mono ?_
  rintro e w8 ⟨vA, rfl, h8⟩
  have h9 := H7.out.glue hR7 h8
  generalize w6.heap.size = k7 at *
  have HO2 := Lib.hid (HOB.out _ _ (RDB.out _ h9.below))
  have H9 := Lib.hid h9
  clear h8 h9 H7 HO1
  (repeat' (first | (go_big_may; fail) | go_values | go_skip | go_guarded | go_step | go_upon | go_back | dsimp only))
  refine HO2.out.mono ?_
  rintro e w10 ⟨vB, rfl, h10⟩
  have h11 := H9.out.glue ((RowG.stable _ _ _ _ _).both hR7) h10
  have HU := Lib.hid (HRU.out _ _ _ (RdRow.of_own h11.drop.rowG) (RdRow.of_own h11.rowG))
  have H11 := Lib.hid h11
  clear h10 h11 H9 HO2
  (repeat' (first | (go_big_may; fail) | go_values | go_skip | go_guarded | go_step | go_upon | go_back | dsimp only))
  refine HU.out.mono ?_
  rintro e w12 ⟨vU, rfl, h12⟩
  have h13 := H11.out.glue ((RowG.stable _ _ _ _ _).both ((RowG.stable _ _ _ _ _).both hR7)) h12
  have h14 := h13.pull3.drop.swap.drop
  obtain ⟨au, cu, hsu, _, hcu⟩ := own_shape h13.rowG
  subst hsu
  unfold maxLen at hcu
  have hR14 := (RowG.stable tSt 1 (.slice au U.length cu) U.length (strs U)).both hR7
  have h15 := h14.newCell hR14 #[.slice au U.length cu] tTxs
  rw [← HR0.out] at h15
  have h16 := h15.walkOrd
  have c7 := (h16.toR.drop.toR.drop.toR.cellF (o := 0) (u := u) rfl).1
  have hs16 := ((CellT.stable w12.heap.size #[.slice au U.length cu] tTxs).both ((RowG.stable tSt 1 (.slice au U.length cu) U.length (strs U)).both ((CellT.stable k7 #[u] tStr).both (CellT.stable W.heap.size #[.int .i64 stop] tNum)))).both (hΦ.both ((CellT.stable (W.heap.size + 1) #[.bool false] tBo).both Stable.nought))
  have HA := Lib.hid (All_calls HS.out (w12.alloc (.cells #[.slice au U.length cu] tTxs)))
  have H16 := Lib.hid h16
  clear h12 h13 h14 h15 h16 HU H11 HRU HOB RDA RDB hR1 HR0 hR7 hR14
  (repeat' (first | (go_big_may; fail) | go_values | go_skip | go_guarded | go_step | go_upon | go_back | dsimp only))
  refine HA.out.mono ?_
  rintro e w17 ⟨gf, lb, rfl, heg, hq, hb17⟩
  have h17 := H16.out.mono hs16 hb17
  have hWk := Lib.hid (wakes8_calls w17)
  have eqn : ∀ wz : World, (binOp .eql 26 (.func (.func gf) #[] lb) .nilFunc).run Try.prog wz = .ok (.bool false) wz := fun wz => by kernel_rfl
  generalize w12.heap.size = k8 at *
  generalize W.heap.size + 1 = k6 at *
  have HQ := Lib.hid hq
  have H17 := Lib.hid h17
  clear hq h17 hb17 HA H16 c7
  (repeat' (first | (go_big_may; fail) | go_values | go_skip | go_guarded | go_step | go_upon | go_back | dsimp only))
  refine hWk.out.mono ?_
  rintro e w18 ⟨rfl, hb18⟩
  have H18 := Lib.hid (H17.out.mono hs16 hb18)
  clear hb18 hWk H17
  have hm0 := hs16
  have hMEM : Stable (Both (CellT k8 #[.slice au U.length cu] tTxs) (Both (RowG tSt 1 (.slice au U.length cu) U.length (strs U)) (Both (CellT k7 #[u] tStr) (CellT W.heap.size #[.int .i64 stop] tNum)))) := (CellT.stable _ _ _).both ((RowG.stable _ _ _ _ _).both ((CellT.stable _ _ _).both (CellT.stable _ _ _)))
  (repeat' (first | (go_big_may; fail) | go_values | go_skip | go_guarded | go_step | go_upon | go_back | dsimp only))
  clear eqn
  refine wp_loop (fun a wr => ∃ (k : Nat) (Ds : List Nat) (u10 u11 u12 u13 u14 u15 u16 u17 u18 u19 u20 u21 u22 u23 u24 u25 u26 u27 u28 u29 u30 u31 u32 u33 u34 u35 u36 u37 u38 u39 u40 u41 u42 u43 u44 u45 u46 u47 u48 u49 u50 u51 u52 u53 u54 u55 u56 u57 u58 u59 u60 u61 u62 u63 u64 u65 u66 u67 u68 u69 u70 u71 u72 u73 u74 u75 u76 u77 u78 u79 u80 : Value), a = { tmps := #[Value.slice a1 sa.length cap1, Value.slice a2 sb.length cap2, Value.int IntKind.i64 stop, undef, undef, Value.pointer (some ⟨W.heap.size, 0, none⟩), Value.pointer (some ⟨k6, 0, none⟩), Value.pointer (some ⟨k7, 0, none⟩), Value.pointer (some ⟨k8, 0, none⟩), Value.func (Fn.func gf) #[] lb, u10, u11, u12, u13, u14, u15, u16, u17, u18, u19, u20, u21, u22, u23, u24, u25, u26, u27, u28, u29, u30, u31, u32, u33, u34, u35, u36, u37, u38, u39, u40, u41, u42, u43, u44, u45, u46, u47, u48, u49, u50, u51, u52, u53, u54, u55, u56, u57, u58, u59, u60, u61, u62, u63, u64, u65, u66, u67, u68, u69, u70, u71, u72, u73, u74, u75, u76, u77, u78, u79, u80], defers := marks Ds } ∧ u34 = .int .i64 k ∧ k ≤ 3 ∧ At W wr (Both (Both (CellT k8 #[.slice au U.length cu] tTxs) (Both (RowG tSt 1 (.slice au U.length cu) U.length (strs U)) (Both (CellT k7 #[u] tStr) (CellT W.heap.size #[.int .i64 stop] tNum)))) (Both Φ (Both (CellT k6 #[.bool false] tBo) (MarksT Ds))))) (fun a _ => 3 - (intOf (a.tmps.getD 34 undef)).toNat) ⟨0, [], _, _, _, _, _, _, _, _, _, _, _, _, _, _, _, _, _, _, _, _, _, _, _, _, _, _, _, _, _, _, _, _, _, _, _, _, _, _, _, _, _, _, _, _, _, _, _, _, _, _, _, _, _, _, _, _, _, _, _, _, _, _, _, _, _, _, _, _, _, _, _, rfl, rfl, Nat.zero_le _, H18.out⟩ ?_
  rintro a wr ⟨k, Ds, u10, u11, u12, u13, u14, u15, u16, u17, u18, u19, u20, u21, u22, u23, u24, u25, u26, u27, u28, u29, u30, u31, u32, u33, u34, u35, u36, u37, u38, u39, u40, u41, u42, u43, u44, u45, u46, u47, u48, u49, u50, u51, u52, u53, u54, u55, u56, u57, u58, u59, u60, u61, u62, u63, u64, u65, u66, u67, u68, u69, u70, u71, u72, u73, u74, u75, u76, u77, u78, u79, u80, rfl, hu34, hk, h19⟩
  clear H18
  subst hu34
  by_cases hk3 : k < 3
  · have hk4 : (k : Int) < 3 := by omega
    have hk5 : (0 : Int) ≤ k := by omega
    have hst19 := hMEM.both (hΦ.both ((CellT.stable k6 #[.bool false] tBo).both (MarksT.stable Ds)))
    have h20 := (((h19.newCell hst19 #[.int .i64 k] tNum).newCell ((CellT.stable _ _ _).both hst19) #[.int .i64 0] tNum).impl fun _ q => Both.mono (fun _ _ q => Both.toL q) q).impl fun _ q => Both.toL q
    rw [show (wr.alloc (.cells #[.int .i64 k] tNum)).heap.size = wr.heap.size + 1 from by simp] at h20
    have H20 := Lib.hid h20
    clear h19 h20
    (repeat' (first | (go_big_may; fail) | go_values | go_skip | go_guarded | go_step | go_upon | go_back | dsimp only))
    generalize wr.heap.size + 1 = k11 at *
    generalize wr.heap.size = k10 at *
    have hI : ∀ (p : List (List UInt8)), Stable (Both (CellT k11 #[.int .i64 p.length] tNum) (Both (CellT k10 #[.int .i64 k] tNum) (Both (CellT k8 #[.slice au U.length cu] tTxs) (Both (RowG tSt 1 (.slice au U.length cu) U.length (strs U)) (Both (CellT k7 #[u] tStr) (CellT W.heap.size #[.int .i64 stop] tNum)))))) := fun p => (CellT.stable _ _ _).both ((CellT.stable _ _ _).both hMEM)
    have hRR := (CellT.stable k6 #[.bool false] tBo).both (MarksT.stable Ds)
    generalize ha0 : Act.mk _ _ = a0
    refine range_at (L := U) HQ.out (by rw [← ha0]; rfl) heg (fun _ => rfl) hΦ hRR (fun p => Both (CellT k11 #[.int .i64 p.length] tNum) (Both (CellT k10 #[.int .i64 k] tNum) (Both (CellT k8 #[.slice au U.length cu] tTxs) (Both (RowG tSt 1 (.slice au U.length cu) U.length (strs U)) (Both (CellT k7 #[u] tStr) (CellT W.heap.size #[.int .i64 stop] tNum)))))) hI (fun c p => WithT (Both (CellT k11 #[.int .i64 p.length] tNum) (Both (CellT k10 #[.int .i64 k] tNum) (Both (CellT k8 #[.slice au U.length cu] tTxs) (Both (RowG tSt 1 (.slice au U.length cu) U.length (strs U)) (Both (CellT k7 #[u] tStr) (CellT W.heap.size #[.int .i64 stop] tNum)))))) (c = Code.exit 2 ∧ k = 1 ∧ (p.length : Int) = stop)) (fun _ p => WithT.stable (hI p) _)
      (fun p x a X => a = { tmps := (foldTmps #[38] (encS x) a0.tmps).setIfInBounds 12 (.string ⟨x.toArray⟩), defers := [] } ∧ X = Both (CellT k11 #[.int .i64 p.length] tNum) (Both (CellT k10 #[.int .i64 k] tNum) (Both (CellT k8 #[.slice au U.length cu] tTxs) (Both (RowG tSt 1 (.slice au U.length cu) U.length (strs U)) (Both (CellT k7 #[u] tStr) (CellT W.heap.size #[.int .i64 stop] tNum)))))) H20.out ?assign ?body ?done ?stop
    case assign =>
      intro l pre x w2 Ψ hp hΨ h2
      (subst ha0; simp only [fold_one, encS, List.setIfInBounds_toArray, List.set_cons_zero, List.set_cons_succ])
      (repeat' (first | (gi_big_may; fail) | go_values | gi_guarded | gi_step | gi_upon | gi_back | dsimp only))
      exact ⟨_, hI _, ⟨trivial, rfl⟩, h2⟩
    case body =>
      rintro l pre x w2 R2 a2 X hp hR2 hX ⟨rfl, rfl⟩ h2
      clear H20
      have hlen := hp.length_le
      rw [List.length_append, List.length_singleton] at hlen
      have hx : U[pre.length]? = some x := by obtain ⟨t, rfl⟩ := hp; simp
      have e1 : (((pre ++ [x]).length : Nat) : Int) = (pre.length : Int) + 1 := by simp
      have h3 := h2.flat6
      obtain ⟨g, cp, he, _⟩ := own_cut h3.drop.drop.drop.rowG (by omega)
      cases he
      have g11 := h3.cellF (o := 0) (u := .int .i64 pre.length) rfl
      have c11 := g11.1
      have f11 := g11.2.1
      have c10 := (h3.drop.cellF (o := 0) (u := .int .i64 k) rfl).1
      have c8 := (h3.drop.drop.cellF (o := 0) (u := .slice (some ⟨g, 0, none⟩) U.length cu) rfl).1
      have cx := (h3.drop.drop.drop.rowCell (strs_get hx)).1
      have c7 := (h3.drop.drop.drop.drop.cellF (o := 0) (u := u) rfl).1
      have c5 := (h3.drop.drop.drop.drop.drop.cellF (o := 0) (u := .int .i64 stop) rfl).1
      have n5 := h3.cellNe
      have hRB := (hI ([] : List (List UInt8))).both (hΦ.both hR2)
      have h4 := h3.setCell ((CellT.stable k10 #[.int .i64 k] tNum).both ((CellT.stable k8 #[.slice (some ⟨g, 0, none⟩) U.length cu] tTxs).both ((RowG.stable tSt 1 (.slice (some ⟨g, 0, none⟩) U.length cu) U.length (strs U)).both ((CellT.stable k7 #[u] tStr).both ((CellT.stable W.heap.size #[.int .i64 stop] tNum).both (hΦ.both hR2)))))) 0 (.int .i64 ((pre.length : Int) + 1))
      have hge : ¬ ((pre.length : Int) ≥ U.length) := by omega
      have hi0 : (0 : Int) ≤ pre.length := by omega
      have hi1 : (pre.length : Int) < U.length := by omega
      have h5 := h4.group6
      have hG : Stable (Both (CellT k11 #[.int .i64 ((pre.length : Int) + 1)] tNum) (Both (CellT k10 #[.int .i64 k] tNum) (Both (CellT k8 #[.slice (some ⟨g, 0, none⟩) U.length cu] tTxs) (Both (RowG tSt 1 (.slice (some ⟨g, 0, none⟩) U.length cu) U.length (strs U)) (Both (CellT k7 #[u] tStr) (CellT W.heap.size #[.int .i64 stop] tNum)))))) := (CellT.stable _ _ _).both ((CellT.stable _ _ _).both ((CellT.stable _ _ _).both ((RowG.stable _ _ _ _ _).both ((CellT.stable _ _ _).both (CellT.stable _ _ _)))))
      have HK1 := Lib.hid (fun (wx : World) (h : At W wx (Both (Both (CellT k11 #[.int .i64 ((pre.length : Int) + 1)] tNum) (Both (CellT k10 #[.int .i64 k] tNum) (Both (CellT k8 #[.slice (some ⟨g, 0, none⟩) U.length cu] tTxs) (Both (RowG tSt 1 (.slice (some ⟨g, 0, none⟩) U.length cu) U.length (strs U)) (Both (CellT k7 #[u] tStr) (CellT W.heap.size #[.int .i64 stop] tNum)))))) (Both Φ R2))) => (show wx.cell? ⟨k11, 0, none⟩ = some (.int .i64 ((pre.length : Int) + 1)) ∧ wx.cell? ⟨W.heap.size, 0, none⟩ = some (.int .i64 stop) ∧ wx.cell? ⟨k7, 0, none⟩ = some u ∧ wx.cell? ⟨k8, 0, none⟩ = some (.slice (some ⟨g, 0, none⟩) U.length cu) ∧ wx.cell? ⟨k10, 0, none⟩ = some (.int .i64 k) from
        ⟨(h.flat6.cellF (o := 0) (u := .int .i64 ((pre.length : Int) + 1)) rfl).1, (h.flat6.drop.drop.drop.drop.drop.cellF (o := 0) (u := .int .i64 stop) rfl).1, (h.flat6.drop.drop.drop.drop.cellF (o := 0) (u := u) rfl).1, (h.flat6.drop.drop.cellF (o := 0) (u := .slice (some ⟨g, 0, none⟩) U.length cu) rfl).1, (h.flat6.drop.cellF (o := 0) (u := .int .i64 k) rfl).1⟩))
      have HK2 := HK1
      have H5 := Lib.hid (h5.drew (hG.both (hΦ.both hR2)))
      have hne : ((U.length : Int) != U.length) = false := by simp
      have hee : ((U.length : Int) == U.length) = true := by simp
      clear h2 h3 h4 h5 g11 hx
      (subst ha0; simp only [fold_one, encS, List.setIfInBounds_toArray, List.set_cons_zero, List.set_cons_succ])
      by_cases hst : (pre.length : Int) + 1 = stop
      · have hsb : ((pre.length : Int) + 1 == stop) = true := by simpa using hst
        by_cases hk1 : k = 1
        · have hkb : ((k : Int) == 1) = true := by subst hk1; rfl
          have HKE := Lib.hid hk1
          have HST := Lib.hid hst
          clear hk1 hst
          (repeat' (first | (gi_big_may; fail) | go_values | gi_guarded | gi_step | gi_upon | gi_back | dsimp only))
          refine wpIn_region_held (S := fun wx => wx.cell? ⟨k11, 0, none⟩ = some (.int .i64 ((pre.length : Int) + 1)) ∧ wx.cell? ⟨W.heap.size, 0, none⟩ = some (.int .i64 stop) ∧ wx.cell? ⟨k7, 0, none⟩ = some u ∧ wx.cell? ⟨k8, 0, none⟩ = some (.slice (some ⟨g, 0, none⟩) U.length cu) ∧ wx.cell? ⟨k10, 0, none⟩ = some (.int .i64 k)) (by kernel_rfl) (by kernel_rfl) (HK1.out _ H5.out) (fun hHeld => ?_)
          simp only [List.size_toArray, List.length_cons, List.length_nil, Nat.reduceAdd, Array.replicate_succ, Array.replicate_zero, List.push_toArray, List.nil_append, List.cons_append]
          (refine wpAnyH_take (i := 0) (v := ?_) rfl (by kernel_rfl) (by kernel_rfl) (by kernel_rfl) (fun _ _ _ h => h) (Or.inl ⟨by rfl, ?_⟩) (by assumption) ?_; rotate_left; (next => (intro w hSw; (try dsimp only at hSw); go_simp; (try with_reducible rfl))); (try simp only [List.getElem_toArray, List.getElem_cons_zero, List.getElem_cons_succ, Act.put, List.setIfInBounds_toArray, List.set_cons_zero, List.set_cons_succ]))
          (refine wpAnyH_take (i := 1) (v := ?_) rfl (by kernel_rfl) (by kernel_rfl) (by kernel_rfl) (fun _ _ _ h => h) (Or.inl ⟨by rfl, ?_⟩) (by assumption) ?_; rotate_left; (next => (intro w hSw; (try dsimp only at hSw); go_simp; (try with_reducible rfl))); (try simp only [List.getElem_toArray, List.getElem_cons_zero, List.getElem_cons_succ, Act.put, List.setIfInBounds_toArray, List.set_cons_zero, List.set_cons_succ]))
          (refine wpAnyH_take (i := 2) (v := ?_) rfl (by kernel_rfl) (by kernel_rfl) (by kernel_rfl) (fun _ _ _ h => h) (Or.inl ⟨by rfl, ?_⟩) (by assumption) ?_; rotate_left; (next => (intro w hSw; (try dsimp only at hSw); go_simp; (try with_reducible rfl))); (try simp only [List.getElem_toArray, List.getElem_cons_zero, List.getElem_cons_succ, Act.put, List.setIfInBounds_toArray, List.set_cons_zero, List.set_cons_succ]))
          (refine wpAnyH_take (i := 3) (v := ?_) rfl (by kernel_rfl) (by kernel_rfl) (by kernel_rfl) (fun _ _ _ h => h) (Or.inl ⟨by rfl, ?_⟩) (by assumption) ?_; rotate_left; (next => (intro w hSw; (try dsimp only at hSw); go_simp; (try with_reducible rfl))); (try simp only [List.getElem_toArray, List.getElem_cons_zero, List.getElem_cons_succ, Act.put, List.setIfInBounds_toArray, List.set_cons_zero, List.set_cons_succ]))
          (refine wpAnyH_take (i := 4) (v := ?_) rfl (by kernel_rfl) (by kernel_rfl) (by kernel_rfl) (fun _ _ _ h => h) (Or.inl ⟨by rfl, ?_⟩) (by assumption) ?_; rotate_left; (next => (intro w hSw; (try dsimp only at hSw); go_simp; (try with_reducible rfl))); (try simp only [List.getElem_toArray, List.getElem_cons_zero, List.getElem_cons_succ, Act.put, List.setIfInBounds_toArray, List.set_cons_zero, List.set_cons_succ]))
          (refine wpAnyH_take (i := 6) (v := ?_) rfl (by kernel_rfl) (by kernel_rfl) (by kernel_rfl) (fun _ _ _ h => h) (Or.inl ⟨by rfl, ?_⟩) (by assumption) ?_; rotate_left; (next => (intro w hSw; (try dsimp only at hSw); go_simp; (try with_reducible rfl))); (try simp only [List.getElem_toArray, List.getElem_cons_zero, List.getElem_cons_succ, Act.put, List.setIfInBounds_toArray, List.set_cons_zero, List.set_cons_succ]))
          (refine wpAnyH_take (i := 7) (v := ?_) rfl (by kernel_rfl) (by kernel_rfl) (by kernel_rfl) (fun _ _ _ h => h) (Or.inl ⟨by rfl, ?_⟩) (by assumption) ?_; rotate_left; (next => (intro w hSw; (try dsimp only at hSw); go_simp; (try with_reducible rfl))); (try simp only [List.getElem_toArray, List.getElem_cons_zero, List.getElem_cons_succ, Act.put, List.setIfInBounds_toArray, List.set_cons_zero, List.set_cons_succ]))
          (refine wpAnyH_ready (rs := [5]) (by kernel_rfl) (by simp) ?_; refine AllReadyH.cons rfl (fun K hK => ?_) AllReadyH.nil; go_simp; (refine (Count_at HS.out hΦ (hG.both hR2) H5.out.swap (by omega)).mono ?_; rintro e w7 ⟨rfl, h7⟩; have h7s := h7.swap); (try dsimp only); refine hK.out _ _ ?_ (fun hHeld => ?_); (next => ((try dsimp only); first | assumption | exact HK1.out _ (by assumption) | exact HK2.out _ (by assumption))); clear hK K; (try simp only [List.getElem_toArray, List.getElem_cons_zero, List.getElem_cons_succ, Act.put, List.setIfInBounds_toArray, List.set_cons_zero, List.set_cons_succ]))
          (refine wpAnyH_take (i := 8) (v := ?_) rfl (by kernel_rfl) (by kernel_rfl) (by kernel_rfl) (fun _ _ _ h => h) (Or.inl ⟨by rfl, ?_⟩) (by assumption) ?_; rotate_left; (next => (intro w hSw; (try dsimp only at hSw); go_simp; (try with_reducible rfl))); (try simp only [List.getElem_toArray, List.getElem_cons_zero, List.getElem_cons_succ, Act.put, List.setIfInBounds_toArray, List.set_cons_zero, List.set_cons_succ]))
          (refine wpAnyH_take (i := 9) (v := ?_) rfl (by kernel_rfl) (by kernel_rfl) (by kernel_rfl) (fun _ _ _ h => h) (Or.inl ⟨by rfl, ?_⟩) (by assumption) ?_; rotate_left; (next => (intro w hSw; (try dsimp only at hSw); go_simp; (try with_reducible rfl))); (try simp only [List.getElem_toArray, List.getElem_cons_zero, List.getElem_cons_succ, Act.put, List.setIfInBounds_toArray, List.set_cons_zero, List.set_cons_succ]))
          (refine wpAnyH_take (i := 10) (v := ?_) rfl (by kernel_rfl) (by kernel_rfl) (by kernel_rfl) (fun _ _ _ h => h) (Or.inl ⟨by rfl, ?_⟩) (by assumption) ?_; rotate_left; (next => (intro w hSw; (try dsimp only at hSw); go_simp; (try with_reducible rfl))); (try simp only [List.getElem_toArray, List.getElem_cons_zero, List.getElem_cons_succ, Act.put, List.setIfInBounds_toArray, List.set_cons_zero, List.set_cons_succ]))
          (refine wpAnyH_take (i := 11) (v := ?_) rfl (by kernel_rfl) (by kernel_rfl) (by kernel_rfl) (fun _ _ _ h => h) (Or.inl ⟨by rfl, ?_⟩) (by assumption) ?_; rotate_left; (next => (intro w hSw; (try dsimp only at hSw); go_simp; (try with_reducible rfl))); (try simp only [List.getElem_toArray, List.getElem_cons_zero, List.getElem_cons_succ, Act.put, List.setIfInBounds_toArray, List.set_cons_zero, List.set_cons_succ]))
          (refine wpAnyH_take (i := 12) (v := ?_) rfl (by kernel_rfl) (by kernel_rfl) (by kernel_rfl) (fun _ _ _ h => h) (Or.inl ⟨by rfl, ?_⟩) (by assumption) ?_; rotate_left; (next => (intro w hSw; (try dsimp only at hSw); go_simp; (try with_reducible rfl))); (try simp only [List.getElem_toArray, List.getElem_cons_zero, List.getElem_cons_succ, Act.put, List.setIfInBounds_toArray, List.set_cons_zero, List.set_cons_succ]))
          (refine wpAnyH_take (i := 13) (v := ?_) rfl (by kernel_rfl) (by kernel_rfl) (by kernel_rfl) (fun _ _ _ h => h) (Or.inl ⟨by rfl, ?_⟩) (by assumption) ?_; rotate_left; (next => (intro w hSw; (try dsimp only at hSw); go_simp; (try with_reducible rfl))); (try simp only [List.getElem_toArray, List.getElem_cons_zero, List.getElem_cons_succ, Act.put, List.setIfInBounds_toArray, List.set_cons_zero, List.set_cons_succ]))
          refine wpAnyH_done (by kernel_rfl) ?_ _
          dsimp only [onlyN]
          (repeat' (first | (gi_big_may; fail) | go_values | gi_guarded | gi_step | gi_upon | gi_back | dsimp only))
          show At W _ (Both (WithT (Both (CellT k11 #[.int .i64 (((pre ++ [x]).length : Nat) : Int)] tNum) _) _) _)
          rw [e1]
          exact h7.swap.withW ⟨rfl, HKE.out, HST.out⟩
        · have hkb : ((k : Int) == 1) = false := by rw [beq_eq_false_iff_ne]; omega
          have HST := Lib.hid hst
          clear hk1 hst
          (repeat' (first | (gi_big_may; fail) | go_values | gi_guarded | gi_step | gi_upon | gi_back | dsimp only))
          refine wpIn_region_held (S := fun wx => wx.cell? ⟨k11, 0, none⟩ = some (.int .i64 ((pre.length : Int) + 1)) ∧ wx.cell? ⟨W.heap.size, 0, none⟩ = some (.int .i64 stop) ∧ wx.cell? ⟨k7, 0, none⟩ = some u ∧ wx.cell? ⟨k8, 0, none⟩ = some (.slice (some ⟨g, 0, none⟩) U.length cu) ∧ wx.cell? ⟨k10, 0, none⟩ = some (.int .i64 k)) (by kernel_rfl) (by kernel_rfl) (HK1.out _ H5.out) (fun hHeld => ?_)
          simp only [List.size_toArray, List.length_cons, List.length_nil, Nat.reduceAdd, Array.replicate_succ, Array.replicate_zero, List.push_toArray, List.nil_append, List.cons_append]
          (refine wpAnyH_take (i := 0) (v := ?_) rfl (by kernel_rfl) (by kernel_rfl) (by kernel_rfl) (fun _ _ _ h => h) (Or.inl ⟨by rfl, ?_⟩) (by assumption) ?_; rotate_left; (next => (intro w hSw; (try dsimp only at hSw); go_simp; (try with_reducible rfl))); (try simp only [List.getElem_toArray, List.getElem_cons_zero, List.getElem_cons_succ, Act.put, List.setIfInBounds_toArray, List.set_cons_zero, List.set_cons_succ]))
          (refine wpAnyH_take (i := 1) (v := ?_) rfl (by kernel_rfl) (by kernel_rfl) (by kernel_rfl) (fun _ _ _ h => h) (Or.inl ⟨by rfl, ?_⟩) (by assumption) ?_; rotate_left; (next => (intro w hSw; (try dsimp only at hSw); go_simp; (try with_reducible rfl))); (try simp only [List.getElem_toArray, List.getElem_cons_zero, List.getElem_cons_succ, Act.put, List.setIfInBounds_toArray, List.set_cons_zero, List.set_cons_succ]))
          (refine wpAnyH_take (i := 2) (v := ?_) rfl (by kernel_rfl) (by kernel_rfl) (by kernel_rfl) (fun _ _ _ h => h) (Or.inl ⟨by rfl, ?_⟩) (by assumption) ?_; rotate_left; (next => (intro w hSw; (try dsimp only at hSw); go_simp; (try with_reducible rfl))); (try simp only [List.getElem_toArray, List.getElem_cons_zero, List.getElem_cons_succ, Act.put, List.setIfInBounds_toArray, List.set_cons_zero, List.set_cons_succ]))
          (refine wpAnyH_take (i := 3) (v := ?_) rfl (by kernel_rfl) (by kernel_rfl) (by kernel_rfl) (fun _ _ _ h => h) (Or.inl ⟨by rfl, ?_⟩) (by assumption) ?_; rotate_left; (next => (intro w hSw; (try dsimp only at hSw); go_simp; (try with_reducible rfl))); (try simp only [List.getElem_toArray, List.getElem_cons_zero, List.getElem_cons_succ, Act.put, List.setIfInBounds_toArray, List.set_cons_zero, List.set_cons_succ]))
          (refine wpAnyH_take (i := 4) (v := ?_) rfl (by kernel_rfl) (by kernel_rfl) (by kernel_rfl) (fun _ _ _ h => h) (Or.inl ⟨by rfl, ?_⟩) (by assumption) ?_; rotate_left; (next => (intro w hSw; (try dsimp only at hSw); go_simp; (try with_reducible rfl))); (try simp only [List.getElem_toArray, List.getElem_cons_zero, List.getElem_cons_succ, Act.put, List.setIfInBounds_toArray, List.set_cons_zero, List.set_cons_succ]))
          (refine wpAnyH_take (i := 6) (v := ?_) rfl (by kernel_rfl) (by kernel_rfl) (by kernel_rfl) (fun _ _ _ h => h) (Or.inl ⟨by rfl, ?_⟩) (by assumption) ?_; rotate_left; (next => (intro w hSw; (try dsimp only at hSw); go_simp; (try with_reducible rfl))); (try simp only [List.getElem_toArray, List.getElem_cons_zero, List.getElem_cons_succ, Act.put, List.setIfInBounds_toArray, List.set_cons_zero, List.set_cons_succ]))
          (refine wpAnyH_take (i := 7) (v := ?_) rfl (by kernel_rfl) (by kernel_rfl) (by kernel_rfl) (fun _ _ _ h => h) (Or.inl ⟨by rfl, ?_⟩) (by assumption) ?_; rotate_left; (next => (intro w hSw; (try dsimp only at hSw); go_simp; (try with_reducible rfl))); (try simp only [List.getElem_toArray, List.getElem_cons_zero, List.getElem_cons_succ, Act.put, List.setIfInBounds_toArray, List.set_cons_zero, List.set_cons_succ]))
          (refine wpAnyH_ready (rs := [5]) (by kernel_rfl) (by simp) ?_; refine AllReadyH.cons rfl (fun K hK => ?_) AllReadyH.nil; go_simp; (refine (Count_at HS.out hΦ (hG.both hR2) H5.out.swap (by omega)).mono ?_; rintro e w7 ⟨rfl, h7⟩; have h7s := h7.swap); (try dsimp only); refine hK.out _ _ ?_ (fun hHeld => ?_); (next => ((try dsimp only); first | assumption | exact HK1.out _ (by assumption) | exact HK2.out _ (by assumption))); clear hK K; (try simp only [List.getElem_toArray, List.getElem_cons_zero, List.getElem_cons_succ, Act.put, List.setIfInBounds_toArray, List.set_cons_zero, List.set_cons_succ]))
          (refine wpAnyH_take (i := 8) (v := ?_) rfl (by kernel_rfl) (by kernel_rfl) (by kernel_rfl) (fun _ _ _ h => h) (Or.inl ⟨by rfl, ?_⟩) (by assumption) ?_; rotate_left; (next => (intro w hSw; (try dsimp only at hSw); go_simp; (try with_reducible rfl))); (try simp only [List.getElem_toArray, List.getElem_cons_zero, List.getElem_cons_succ, Act.put, List.setIfInBounds_toArray, List.set_cons_zero, List.set_cons_succ]))
          (refine wpAnyH_take (i := 9) (v := ?_) rfl (by kernel_rfl) (by kernel_rfl) (by kernel_rfl) (fun _ _ _ h => h) (Or.inl ⟨by rfl, ?_⟩) (by assumption) ?_; rotate_left; (next => (intro w hSw; (try dsimp only at hSw); go_simp; (try with_reducible rfl))); (try simp only [List.getElem_toArray, List.getElem_cons_zero, List.getElem_cons_succ, Act.put, List.setIfInBounds_toArray, List.set_cons_zero, List.set_cons_succ]))
          (refine wpAnyH_take (i := 10) (v := ?_) rfl (by kernel_rfl) (by kernel_rfl) (by kernel_rfl) (fun _ _ _ h => h) (Or.inl ⟨by rfl, ?_⟩) (by assumption) ?_; rotate_left; (next => (intro w hSw; (try dsimp only at hSw); go_simp; (try with_reducible rfl))); (try simp only [List.getElem_toArray, List.getElem_cons_zero, List.getElem_cons_succ, Act.put, List.setIfInBounds_toArray, List.set_cons_zero, List.set_cons_succ]))
          (refine wpAnyH_take (i := 11) (v := ?_) rfl (by kernel_rfl) (by kernel_rfl) (by kernel_rfl) (fun _ _ _ h => h) (Or.inl ⟨by rfl, ?_⟩) (by assumption) ?_; rotate_left; (next => (intro w hSw; (try dsimp only at hSw); go_simp; (try with_reducible rfl))); (try simp only [List.getElem_toArray, List.getElem_cons_zero, List.getElem_cons_succ, Act.put, List.setIfInBounds_toArray, List.set_cons_zero, List.set_cons_succ]))
          (refine wpAnyH_take (i := 12) (v := ?_) rfl (by kernel_rfl) (by kernel_rfl) (by kernel_rfl) (fun _ _ _ h => h) (Or.inl ⟨by rfl, ?_⟩) (by assumption) ?_; rotate_left; (next => (intro w hSw; (try dsimp only at hSw); go_simp; (try with_reducible rfl))); (try simp only [List.getElem_toArray, List.getElem_cons_zero, List.getElem_cons_succ, Act.put, List.setIfInBounds_toArray, List.set_cons_zero, List.set_cons_succ]))
          (refine wpAnyH_take (i := 13) (v := ?_) rfl (by kernel_rfl) (by kernel_rfl) (by kernel_rfl) (fun _ _ _ h => h) (Or.inl ⟨by rfl, ?_⟩) (by assumption) ?_; rotate_left; (next => (intro w hSw; (try dsimp only at hSw); go_simp; (try with_reducible rfl))); (try simp only [List.getElem_toArray, List.getElem_cons_zero, List.getElem_cons_succ, Act.put, List.setIfInBounds_toArray, List.set_cons_zero, List.set_cons_succ]))
          refine wpAnyH_done (by kernel_rfl) ?_ _
          dsimp only [onlyN]
          (repeat' (first | (gi_big_may; fail) | go_values | gi_guarded | gi_step | gi_upon | gi_back | dsimp only))
          show At W _ (Both (Both (CellT k11 #[.int .i64 (((pre ++ [x]).length : Nat) : Int)] tNum) _) _)
          rw [e1]
          exact h7.swap
      · have hsb : ((pre.length : Int) + 1 == stop) = false := by simpa using hst
        clear hst
        (repeat' (first | (gi_big_may; fail) | go_values | gi_guarded | gi_step | gi_upon | gi_back | dsimp only))
        refine wpIn_region_held (S := fun wx => wx.cell? ⟨k11, 0, none⟩ = some (.int .i64 ((pre.length : Int) + 1)) ∧ wx.cell? ⟨W.heap.size, 0, none⟩ = some (.int .i64 stop) ∧ wx.cell? ⟨k7, 0, none⟩ = some u ∧ wx.cell? ⟨k8, 0, none⟩ = some (.slice (some ⟨g, 0, none⟩) U.length cu) ∧ wx.cell? ⟨k10, 0, none⟩ = some (.int .i64 k)) (by kernel_rfl) (by kernel_rfl) (HK1.out _ H5.out) (fun hHeld => ?_)
        simp only [List.size_toArray, List.length_cons, List.length_nil, Nat.reduceAdd, Array.replicate_succ, Array.replicate_zero, List.push_toArray, List.nil_append, List.cons_append]
        (refine wpAnyH_take (i := 0) (v := ?_) rfl (by kernel_rfl) (by kernel_rfl) (by kernel_rfl) (fun _ _ _ h => h) (Or.inl ⟨by rfl, ?_⟩) (by assumption) ?_; rotate_left; (next => (intro w hSw; (try dsimp only at hSw); go_simp; (try with_reducible rfl))); (try simp only [List.getElem_toArray, List.getElem_cons_zero, List.getElem_cons_succ, Act.put, List.setIfInBounds_toArray, List.set_cons_zero, List.set_cons_succ]))
        (refine wpAnyH_take (i := 1) (v := ?_) rfl (by kernel_rfl) (by kernel_rfl) (by kernel_rfl) (fun _ _ _ h => h) (Or.inl ⟨by rfl, ?_⟩) (by assumption) ?_; rotate_left; (next => (intro w hSw; (try dsimp only at hSw); go_simp; (try with_reducible rfl))); (try simp only [List.getElem_toArray, List.getElem_cons_zero, List.getElem_cons_succ, Act.put, List.setIfInBounds_toArray, List.set_cons_zero, List.set_cons_succ]))
        (refine wpAnyH_take (i := 2) (v := ?_) rfl (by kernel_rfl) (by kernel_rfl) (by kernel_rfl) (fun _ _ _ h => h) (Or.inl ⟨by rfl, ?_⟩) (by assumption) ?_; rotate_left; (next => (intro w hSw; (try dsimp only at hSw); go_simp; (try with_reducible rfl))); (try simp only [List.getElem_toArray, List.getElem_cons_zero, List.getElem_cons_succ, Act.put, List.setIfInBounds_toArray, List.set_cons_zero, List.set_cons_succ]))
        (refine wpAnyH_take (i := 3) (v := ?_) rfl (by kernel_rfl) (by kernel_rfl) (by kernel_rfl) (fun _ _ _ h => h) (Or.inl ⟨by rfl, ?_⟩) (by assumption) ?_; rotate_left; (next => (intro w hSw; (try dsimp only at hSw); go_simp; (try with_reducible rfl))); (try simp only [List.getElem_toArray, List.getElem_cons_zero, List.getElem_cons_succ, Act.put, List.setIfInBounds_toArray, List.set_cons_zero, List.set_cons_succ]))
        (refine wpAnyH_take (i := 4) (v := undef) rfl (by kernel_rfl) (by kernel_rfl) (by kernel_rfl) (fun _ _ _ h => h) (Or.inr ⟨by rfl, rfl⟩) (by assumption) ?_; (try simp only [List.getElem_toArray, List.getElem_cons_zero, List.getElem_cons_succ, Act.put, List.setIfInBounds_toArray, List.set_cons_zero, List.set_cons_succ]))
        (refine wpAnyH_take (i := 5) (v := undef) rfl (by kernel_rfl) (by kernel_rfl) (by kernel_rfl) (fun _ _ _ h => h) (Or.inr ⟨by rfl, rfl⟩) (by assumption) ?_; (try simp only [List.getElem_toArray, List.getElem_cons_zero, List.getElem_cons_succ, Act.put, List.setIfInBounds_toArray, List.set_cons_zero, List.set_cons_succ]))
        (refine wpAnyH_take (i := 6) (v := undef) rfl (by kernel_rfl) (by kernel_rfl) (by kernel_rfl) (fun _ _ _ h => h) (Or.inr ⟨by rfl, rfl⟩) (by assumption) ?_; (try simp only [List.getElem_toArray, List.getElem_cons_zero, List.getElem_cons_succ, Act.put, List.setIfInBounds_toArray, List.set_cons_zero, List.set_cons_succ]))
        (refine wpAnyH_take (i := 7) (v := undef) rfl (by kernel_rfl) (by kernel_rfl) (by kernel_rfl) (fun _ _ _ h => h) (Or.inr ⟨by rfl, rfl⟩) (by assumption) ?_; (try simp only [List.getElem_toArray, List.getElem_cons_zero, List.getElem_cons_succ, Act.put, List.setIfInBounds_toArray, List.set_cons_zero, List.set_cons_succ]))
        (refine wpAnyH_take (i := 8) (v := undef) rfl (by kernel_rfl) (by kernel_rfl) (by kernel_rfl) (fun _ _ _ h => h) (Or.inr ⟨by rfl, rfl⟩) (by assumption) ?_; (try simp only [List.getElem_toArray, List.getElem_cons_zero, List.getElem_cons_succ, Act.put, List.setIfInBounds_toArray, List.set_cons_zero, List.set_cons_succ]))
        (refine wpAnyH_take (i := 9) (v := undef) rfl (by kernel_rfl) (by kernel_rfl) (by kernel_rfl) (fun _ _ _ h => h) (Or.inr ⟨by rfl, rfl⟩) (by assumption) ?_; (try simp only [List.getElem_toArray, List.getElem_cons_zero, List.getElem_cons_succ, Act.put, List.setIfInBounds_toArray, List.set_cons_zero, List.set_cons_succ]))
        (refine wpAnyH_take (i := 10) (v := undef) rfl (by kernel_rfl) (by kernel_rfl) (by kernel_rfl) (fun _ _ _ h => h) (Or.inr ⟨by rfl, rfl⟩) (by assumption) ?_; (try simp only [List.getElem_toArray, List.getElem_cons_zero, List.getElem_cons_succ, Act.put, List.setIfInBounds_toArray, List.set_cons_zero, List.set_cons_succ]))
        (refine wpAnyH_take (i := 11) (v := undef) rfl (by kernel_rfl) (by kernel_rfl) (by kernel_rfl) (fun _ _ _ h => h) (Or.inr ⟨by rfl, rfl⟩) (by assumption) ?_; (try simp only [List.getElem_toArray, List.getElem_cons_zero, List.getElem_cons_succ, Act.put, List.setIfInBounds_toArray, List.set_cons_zero, List.set_cons_succ]))
        (refine wpAnyH_take (i := 12) (v := undef) rfl (by kernel_rfl) (by kernel_rfl) (by kernel_rfl) (fun _ _ _ h => h) (Or.inr ⟨by rfl, rfl⟩) (by assumption) ?_; (try simp only [List.getElem_toArray, List.getElem_cons_zero, List.getElem_cons_succ, Act.put, List.setIfInBounds_toArray, List.set_cons_zero, List.set_cons_succ]))
        (refine wpAnyH_take (i := 13) (v := ?_) rfl (by kernel_rfl) (by kernel_rfl) (by kernel_rfl) (fun _ _ _ h => h) (Or.inl ⟨by rfl, ?_⟩) (by assumption) ?_; rotate_left; (next => (intro w hSw; (try dsimp only at hSw); go_simp; (try with_reducible rfl))); (try simp only [List.getElem_toArray, List.getElem_cons_zero, List.getElem_cons_succ, Act.put, List.setIfInBounds_toArray, List.set_cons_zero, List.set_cons_succ]))
        refine wpAnyH_done (by kernel_rfl) ?_ _
        dsimp only [onlyN]
        (repeat' (first | (gi_big_may; fail) | go_values | gi_guarded | gi_step | gi_upon | gi_back | dsimp only))
        show At W _ (Both (Both (CellT k11 #[.int .i64 (((pre ++ [x]).length : Nat) : Int)] tNum) _) _)
        rw [e1]
        exact H5.out
    case done =>
      intro D w2 h2
      clear H20
      have c11 := (h2.toR.cellF (o := 0) (u := .int .i64 U.length) rfl).1
      have c10 := (h2.toR.drop.toR.cellF (o := 0) (u := .int .i64 k) rfl).1
      have c8 := (h2.toR.drop.toR.drop.toR.cellF (o := 0) (u := .slice au U.length cu) rfl).1
      have hne : ((U.length : Int) != U.length) = false := by simp
      have hm := h2.toR.drop.toR.drop.impl fun _ q => Both.mono (fun _ _ q => Both.mono (fun _ _ q => q.assoc) q) q
      have HM := Lib.hid hm
      clear h2 hm
      subst ha0
      (repeat' (first | (go_big_may; fail) | go_values | go_skip | go_guarded | go_step | go_upon | go_back | dsimp only))
      refine ⟨⟨k + 1, D :: Ds, _, _, _, _, _, _, _, _, _, _, _, _, _, _, _, _, _, _, _, _, _, _, _, _, _, _, _, _, _, _, _, _, _, _, _, _, _, _, _, _, _, _, _, _, _, _, _, _, _, _, _, _, _, _, _, _, _, _, _, _, _, _, _, _, _, _, _, _, _, _, _, rfl, by go_num, hk3, HM.out⟩, ?_⟩
      simp [intOf]; omega
    case stop =>
      intro D c pre w2 hp h2
      clear H20
      obtain ⟨⟨hc, hk1, hst⟩, h2q⟩ := h2.word
      subst hc
      have h2 : At W w2 (Both (Both (CellT k11 #[.int .i64 pre.length] tNum) (Both (CellT k10 #[.int .i64 k] tNum) (Both (CellT k8 #[.slice au U.length cu] tTxs) (Both (RowG tSt 1 (.slice au U.length cu) U.length (strs U)) (Both (CellT k7 #[u] tStr) (CellT W.heap.size #[.int .i64 stop] tNum)))))) (Both Φ (Both (ObjT D (.deferred (some []))) (Both (CellT k6 #[.bool false] tBo) (MarksT Ds))))) := h2q
      have c11 := (h2.toR.cellF (o := 0) (u := .int .i64 pre.length) rfl).1
      have c10 := (h2.toR.drop.toR.cellF (o := 0) (u := .int .i64 k) rfl).1
      have c8 := (h2.toR.drop.toR.drop.toR.cellF (o := 0) (u := .slice au U.length cu) rfl).1
      have c5 := (h2.flat6.drop.drop.drop.drop.drop.cellF (o := 0) (u := .int .i64 stop) rfl).1
      have hkb : ((k : Int) != 1) = false := by subst hk1; rfl
      have hsb : ((pre.length : Int) != stop) = false := by rw [hst]; simp
      have hm := h2.toR.drop.toR.drop.impl fun _ q => Both.mono (fun _ _ q => Both.mono (fun _ _ q => q.assoc) q) q
      have HM := Lib.hid hm
      have hU : ((pre.length : Int) != U.length) = true ∨ ((pre.length : Int) != U.length) = false := by cases h : ((pre.length : Int) != U.length) <;> simp
      clear h2 h2q hm hst hk1
      subst ha0
      rcases hU with hU | hU
      · (repeat' (first | (go_big_may; fail) | go_values | go_skip | go_guarded | go_step | go_upon | go_back | dsimp only))
        refine ⟨⟨k + 1, D :: Ds, _, _, _, _, _, _, _, _, _, _, _, _, _, _, _, _, _, _, _, _, _, _, _, _, _, _, _, _, _, _, _, _, _, _, _, _, _, _, _, _, _, _, _, _, _, _, _, _, _, _, _, _, _, _, _, _, _, _, _, _, _, _, _, _, _, _, _, _, _, _, _, rfl, by go_num, hk3, HM.out⟩, ?_⟩
        simp [intOf]; omega
      · (repeat' (first | (go_big_may; fail) | go_values | go_skip | go_guarded | go_step | go_upon | go_back | dsimp only))
        refine ⟨⟨k + 1, D :: Ds, _, _, _, _, _, _, _, _, _, _, _, _, _, _, _, _, _, _, _, _, _, _, _, _, _, _, _, _, _, _, _, _, _, _, _, _, _, _, _, _, _, _, _, _, _, _, _, _, _, _, _, _, _, _, _, _, _, _, _, _, _, _, _, _, _, _, _, _, _, _, _, rfl, by go_num, hk3, HM.out⟩, ?_⟩
        simp [intOf]; omega
  · obtain rfl : k = 3 := by omega
    have h20 := h19.pull3
    have g6 := h20.cellF (o := 0) (u := .bool false) rfl
    have c6 := g6.1
    have f6 := g6.2.1
    have h21 := ((h20.setCell (hMEM.both (hΦ.both (MarksT.stable Ds))) 0 (.bool true)).toL.toL).comm
    have hΨ : Stable (Both (Both (CellT k6 #[.bool true] tBo) ((Both (CellT k8 #[.slice au U.length cu] tTxs) (Both (RowG tSt 1 (.slice au U.length cu) U.length (strs U)) (Both (CellT k7 #[u] tStr) (CellT W.heap.size #[.int .i64 stop] tNum)))))) Φ) := ((CellT.stable _ _ _).both hMEM).both hΦ
    have H21 := Lib.hid h21
    clear h19 h20 g6 h21
    (repeat' (first | (go_big_may; fail) | go_values | go_skip | go_guarded | go_step | go_upon | go_back | dsimp only))
    show LeavesInM _ _ _ _ _ _ _ _ _
    refine leaveMs hΨ Ds H21.out fun w' h' => ?_
    have c7 := (h'.toR.cellF (o := 0) (u := .bool true) rfl).1
    exact leave0 (v := .bool true) (by simp [results, Try.f6, go_sem, c7]) ⟨rfl, h'.below⟩
end Go.Proofs.Ytbmfaffnbjmipaa
