/- StreamsPlays: (*world).make walked: a node more. -/
import Derived.Test.YtgeabmmicofanaaGreatDoorBuSpLaw29
import Derived.Test.YtgeabmmicofanaaGreatDoorBuSpLaw49
import Derived.Test.YtgeabmmicofanaaGreatDoorBuSpLaw50
import Derived.Test.YtgeabmmicofanaaGreatDoorBuSpLaw51
import Derived.Deep.CutBlock
set_option linter.unusedSimpArgs false
set_option linter.unusedVariables false
namespace Go.Proofs.YtgeabmmicofanaaGreatDoor
open Go.RowKit

abbrev tNode : TypeId := 34
/-- A node's own memory in a call of make. -/
abbrev LocT (kn k5 k8 k11 : Nat) (c : Array Value) (u1 u2 u3 : Value) : Thing := Both (CellT kn c tNode) (Both (CellT k5 #[u1] tStr) (Both (CellT k8 #[u2] tStr) (CellT k11 #[u3] tStr)))
/-- What is said of all nodes made up to now. -/
structure LsOk (W : World) (b : Nat) (S : St) (rs : RunsOf) (N : Thing) (l : List Nd) : Prop where
  st : Stable N
  fn : ∀ d ∈ l, FnV d.u
  p : ∀ d ∈ l, d.p ≤ 100
  ok : ∀ d ∈ l, NdOk W b rs N d
  good : GoodS S
  holds : HoldsT S rs
def MakePost (W : World) (kx b : Nat) (l : List Nd) (e : Ending) (w' : World) : Prop :=
  e = .returned (.bool true) ∧ ∃ (l' : List Nd) (S' : St) (rs' : RunsOf) (N' : Thing) (gv' wv' pv' : Value), l'.length ≤ l.length + 1 ∧ LsOk W b S' rs' N' l' ∧ At W w' (Both (WlI kx b l' gv' wv' pv') (Both (StoreT b S') N'))
theorem LsOk.more {W : World} {b : Nat} {S S' : St} {rs rs' : RunsOf} {N M : Thing} {l : List Nd} (h : LsOk W b S rs N l) (hM : Stable M) (hr : ∀ q ∈ rs, q ∈ rs') (hg : GoodS S') (hh : HoldsT S' rs') : LsOk W b S' rs' (Both M N) l :=
  ⟨hM.both h.st, h.fn, h.p, fun d hd => (h.ok d hd).mono h.st hM hr, hg, hh⟩
theorem FnV.of_str {W : World} {Φ : Thing} {u : Value} {L : List (List UInt8)} (h : IsStr W Φ u L) : FnV u := by
  rcases h with ⟨rfl, _⟩ | ⟨gf, lb, rfl, _⟩
  · exact .inl rfl
  · exact .inr ⟨gf, lb, rfl⟩
theorem LsOk.or {W : World} {b : Nat} {S : St} {rs : RunsOf} {N : Thing} {l : List Nd} (h : LsOk W b S rs N l) {d : Nd} (hd : d = Nd.zero ∨ d ∈ l) : FnV d.u ∧ d.p ≤ 100 ∧ NdOk W b rs N d := by
  rcases hd with rfl | hd
  · exact ⟨.inl rfl, by simp [Nd.zero], NdOk.zero⟩
  · exact ⟨h.fn d hd, h.p d hd, h.ok d hd⟩
theorem spS {W w : World} {R : Thing} {kx k11 b : Nat} {gv wv pv u : Value} (h : At W w (Both (CellT kx (wl8C b gv wv pv) tWl8) (Both (CellT k11 #[u] tStr) R))) :
    w.cell? ⟨kx, 1, none⟩ = some gv ∧ w.cell? ⟨kx, 2, none⟩ = some wv ∧ w.cell? ⟨kx, 3, none⟩ = some pv ∧ w.cell? ⟨k11, 0, none⟩ = some u :=
  ⟨cell_at h.cell.1 1, cell_at h.cell.1 2, cell_at h.cell.1 3, cell_at h.drop.cell.1 0⟩
theorem wpL.via {ι : Type} {P : Program} {md : Region.Mode} {ops : Array Oper} {Q : Exit → Act → World → Prop} {S : Array Bool → World → Prop} {n : Nat} {l : Array Bool} {A : Act} {w : World} (m : Nat) (g : Array Bool → Array Bool) (f : ι → Act → Act) (H : ι → World → Prop)
    (tail : ∀ i w', H i w' → S (g l) w' → wpL P md ops Q S m (g l) (f i A) w') (main : (∀ i w', H i w' → S (g l) w' → wpL P md ops Q S m (g l) (f i A) w') → wpL P md ops Q S n l A w) : wpL P md ops Q S n l A w := main tail
theorem wpL.castL {P : Program} {md : Region.Mode} {ops : Array Oper} {Q : Exit → Act → World → Prop} {S : Array Bool → World → Prop} {n m : Nat} {l l' : Array Bool} {A A' : Act} {w : World} (h : wpL P md ops Q S m l' A' w) (e : l' = l) (e1 : m = n) (e2 : A' = A) : wpL P md ops Q S n l A w := by subst e e1 e2; exact h
theorem info_TxsN : (Tryz.prog.info? tTxs).map (fun i => (i.zero, i.size, i.bytes)) = some (some (.slice none 0 0), 1, 24) := by kernel_rfl
theorem info_intN : (Tryz.prog.info? tInt).map (fun i => (i.zero, i.size, i.bytes)) = some (some (.int .i64 0), 1, 8) := by kernel_rfl
section
variable {W w : World} {R : Thing} {kx b : Nat} {l : List Nd} {gv wv pv : Value} {S : St} {rs : RunsOf} {N : Thing} {ef : Nat → Nat × Nat}
set_option maxRecDepth 100000 in
set_option maxHeartbeats 100000000 in
theorem make_calls (hF : Fails W ef fails10) (h : At W w (Both (WlI kx b l gv wv pv) (Both (StoreT b S) N))) (hls : LsOk W b S rs N l) (hll : l.length ≤ 1048576) (o : Op9) (ho : OpOk W o) :
    Calls Tryz.prog 6 #[.pointer (some ⟨kx, 0, none⟩), .agg (cellsO9 o).toArray] w (MakePost W kx b l) := by
  obtain ⟨kk, oa, ob, v, ss⟩ := o
  obtain ⟨hk0, ho2, ho3, hv, hlen⟩ := ho
  dsimp only at hk0 ho2 ho3 hv hlen
  obtain ⟨av, cv, rfl, _, _⟩ := hv.shape
  have hstW := WlI.stable kx b l gv wv pv
  have hN := hls.st
  have hstS := (StoreT.stable b S).both hN
  have hst := hstW.both hstS
  have h1 := h.newCell hst #[.int .i64 kk, .int .i64 oa, .int .i64 ob, .slice av ss.length cv] tNode
  have hstn := CellT.stable w.heap.size #[.int .i64 kk, .int .i64 oa, .int .i64 ob, .slice av ss.length cv] tNode
  have x1 : At W _ (Both (WlI kx b l gv wv pv) (Both (CellT w.heap.size #[.int .i64 kk, .int .i64 oa, .int .i64 ob, .slice av ss.length cv] tNode) (Both (StoreT b S) N))) := h1.perm (by ac_rfl)
  have HA := Lib.hid (at_calls x1 (hstn.both hstS) hls.fn oa)
  have HV := Lib.hid hv
  have y0 := cell_at h1.cell.1 1
  have HLS := Lib.hid hls
  clear h h1 x1 hv hls
  show Calls Tryz.prog _ #[.pointer (some ⟨kx, 0, none⟩), .agg #[.int .i64 kk, .int .i64 oa, .int .i64 ob, .slice av ss.length cv]] w _
  go_enter Tryz.func6, Tryz.ntmps6
  (repeat' (first | (go_big_may; fail) | go_values | go_skip | go_guarded | go_step | go_upon | go_back | dsimp only))
  generalize w.heap.size = kn at *
  refine HA.out.mono ?_
  rintro e w2 ⟨d1, hd1, rfl, h2⟩
  have hs1 : FnV d1.u := (HLS.out.or hd1).1
  have hst2 := hstW.both (hstn.both hstS)
  have h3 := h2.newCell hst2 #[.nilFunc] tStr
  have c3 := h3.cellF (o := 0) (u := .nilFunc) rfl
  have st3 := store_one (P := Tryz.prog) hs1.one c3.1 c3.2.1
  have h4 := h2.newCell hst2 #[d1.u] tStr
  have hst4 := (CellT.stable w2.heap.size #[d1.u] tStr)
  have x4 : At W _ (Both (WlI kx b l gv wv pv) (Both (CellT kn #[.int .i64 kk, .int .i64 oa, .int .i64 ob, .slice av ss.length cv] tNode) (Both (CellT w2.heap.size #[d1.u] tStr) (Both (StoreT b S) N)))) := h4.perm (show Both (CellT w2.heap.size #[d1.u] tStr) _ = _ by ac_rfl)
  have HA2 := Lib.hid (at_calls x4 (hstn.both (hst4.both hstS)) HLS.out.fn ob)
  have y1 := cell_at x4.drop.cell.1 2
  have HS1 := Lib.hid hs1
  clear h2 h3 h4 x4 HA y0 c3 hs1 
  (repeat' (first | (go_big_may; fail) | go_values | go_skip | go_guarded | go_step | go_upon | go_back | dsimp only))
  generalize w2.heap.size = k5 at *
  refine HA2.out.mono ?_
  rintro e w6 ⟨d2, hd2, rfl, h6⟩
  clear st3 y1 HA2
  have hs2 : FnV d2.u := (HLS.out.or hd2).1
  have hst6 := hstW.both (hstn.both (hst4.both hstS))
  have h7 := h6.newCell hst6 #[.nilFunc] tStr
  have c7 := h7.cellF (o := 0) (u := .nilFunc) rfl
  have st7 := store_one (P := Tryz.prog) hs2.one c7.1 c7.2.1
  have h8 := h6.newCell hst6 #[d2.u] tStr
  have hst8 := (CellT.stable w6.heap.size #[d2.u] tStr)
  have h9 := h8.newCell (hst8.both hst6) #[.nilFunc] tStr
  rw [show (w6.alloc (.cells #[d2.u] tStr)).heap.size = w6.heap.size + 1 from by simp] at h9
  have h9 : At W _ (Both (LocT kn k5 w6.heap.size (w6.heap.size + 1) #[.int .i64 kk, .int .i64 oa, .int .i64 ob, .slice av ss.length cv] d1.u d2.u .nilFunc) (Both (WlI kx b l gv wv pv) (Both (StoreT b S) N))) := h9.perm (by unfold LocT; ac_rfl)
  have H9 := Lib.hid h9
  have z0 := cell_at h9.toR.cell.1 0
  have z3 := cell_at h9.toR.cell.1 3
  have HS2 := Lib.hid hs2
  clear h6 h7 h8 h9 c7 hs2
  go_upto_block 0 with (fail)
  generalize w6.heap.size = k8 at *
  generalize (World.alloc _ _) = w9 at *
  clear st7
  go_cut [12, 13] (fun v12 v13 wx => ∃ (d : Nd) (N' : Thing) (S' : St) (rs' : RunsOf), v12 = d.wv ∧ v13 = .int .i64 d.p ∧ FnV d.u ∧ d.p ≤ 201 ∧ NdOk W b rs' N' d ∧ LsOk W b S' rs' N' l ∧ At W wx (Both (LocT kn k5 k8 (k8 + 1) #[.int .i64 kk, .int .i64 oa, .int .i64 ob, .slice av ss.length cv] d1.u d2.u d.u) (Both (WlI kx b l gv wv pv) (Both (StoreT b S') N'))))
  case first =>
    rename_i J K' hJ hK
    have HJ := Lib.hid hJ
    have HK := Lib.hid hK
    clear hJ hK
    have hL1 := HLS.out.or hd1
    have hL2 := HLS.out.or hd2
    have HO1 := Lib.hid hL1.2.2
    have HO2 := Lib.hid hL2.2.2
    have hp1 := hL1.2.1
    have hp2 := hL2.2.1
    have hR9 := (WlI.stable kx b l gv wv pv).both ((StoreT.stable b S).both HLS.out.st)
    have hst9 := ((CellT.stable kn #[.int .i64 kk, .int .i64 oa, .int .i64 ob, .slice av ss.length cv] tNode).both ((CellT.stable k5 #[d1.u] tStr).both ((CellT.stable k8 #[d2.u] tStr).both (CellT.stable (k8 + 1) #[.nilFunc] tStr)))).both hR9
    clear hL1 hL2 hd1 hd2
    by_cases e1 : kk = 1
    · subst e1
      have h9 : At W w9 (Both (Both (CellT kn #[.int .i64 1, .int .i64 oa, .int .i64 ob, .slice av ss.length cv] tNode) (Both (CellT k5 #[d1.u] tStr) (CellT k8 #[d2.u] tStr))) (Both (CellT (k8 + 1) #[.nilFunc] tStr) (Both (WlI kx b l gv wv pv) (Both (StoreT b S) N)))) := H9.out.perm (by unfold LocT; ac_rfl)
      have hs3 : Stable (Both (CellT kn #[.int .i64 1, .int .i64 oa, .int .i64 ob, .slice av ss.length cv] tNode) (Both (CellT k5 #[d1.u] tStr) (CellT k8 #[d2.u] tStr))) := (CellT.stable _ _ _).both ((CellT.stable _ _ _).both (CellT.stable _ _ _))
      have hs9 : Stable (Both (Both (CellT kn #[.int .i64 1, .int .i64 oa, .int .i64 ob, .slice av ss.length cv] tNode) (Both (CellT k5 #[d1.u] tStr) (CellT k8 #[d2.u] tStr))) (Both (CellT (k8 + 1) #[.nilFunc] tStr) (Both (WlI kx b l gv wv pv) (Both (StoreT b S) N)))) := hs3.both ((CellT.stable _ _ _).both hR9)
      have H8 := Lib.hid h9
      have HD := Lib.hid fun (w' : World) (hb : Below w9.heap.size w9 w') => H8.out.mono hs9 hb
      have HNE := Lib.hid (h9.perm (show _ = Both (CellT kn #[.int .i64 1, .int .i64 oa, .int .i64 ob, .slice av ss.length cv] tNode) (Both (CellT (k8 + 1) #[.nilFunc] tStr) (Both (CellT k5 #[d1.u] tStr) (Both (CellT k8 #[d2.u] tStr) (Both (WlI kx b l gv wv pv) (Both (StoreT b S) N))))) by ac_rfl)).cells_ne
      clear h9
      go_upto_region 6 with (fail)
      go_region_held3 (fun wx => wx.cell? ⟨kn, 3, none⟩ = some (.slice av ss.length cv)) (first | assumption | (exact cell_setP HNE.out (by assumption)) | go_keep) ((first
        | (go_at_call 11; (refine Calls.mono (Of_at ss.length _ ss _ (Nat.le_refl _) (by omega) (HV.out.below H12.out.below)) ?_); rintro e w13 ⟨vo, rfl, h13⟩
           have h14 := (H12.out.glue hst12 h13).perm (show _ = Both (CellT (k8 + 1) #[.nilFunc] tStr) (Both (Both (CellT kn #[.int .i64 1, .int .i64 oa, .int .i64 ob, .slice av ss.length cv] tNode) (Both (CellT k5 #[d1.u] tStr) (CellT k8 #[d2.u] tStr))) (Both (Both (RowG tTx 1 vo (ofL ss).length (strs (ofL ss))) Φ1) (Both (WlI kx b l gv wv pv) (Both (StoreT b S) N)))) by ac_rfl)
           have c14 := h14.cellF (o := 0) (u := .nilFunc) rfl
           have st14 := store_one (P := Tryz.prog) (v := u1) (FnV.of_str HS3.out).one c14.1 c14.2.1
           have cn14 := cell_at h14.drop.toR.cell.1 3
           have H14 := Lib.hid (And.intro (own_shape h13.rowG) h14)
           clear h13 h14 c14)
        | (go_at_call 8; (refine Calls.mono (SOf_at H10.out hst10 (RdRow.of_own H10.out.rowG) (by omega)) ?_); rintro e w12 ⟨Φ1, u1, hΦ1, rfl, hq, h12⟩
           have hst12 := hΦ1.both (hs3.both ((CellT.stable (k8 + 1) #[.nilFunc] tStr).both hR9))
           have h12 := (h12.perm (show _ = Both (RowG tTx 1 v10 ss.length (strs ss)) (Both Φ1 (Both (Both (CellT kn #[.int .i64 1, .int .i64 oa, .int .i64 ob, .slice av ss.length cv] tNode) (Both (CellT k5 #[d1.u] tStr) (CellT k8 #[d2.u] tStr))) (Both (CellT (k8 + 1) #[.nilFunc] tStr) (Both (WlI kx b l gv wv pv) (Both (StoreT b S) N))))) by ac_rfl)).drop
           have cn12 := cell_at h12.drop.toR.cell.1 3
           have HS3 := Lib.hid hq
           have H12 := Lib.hid h12
           clear hq h12)
        | (go_at_call 10; (refine Calls.mono (twin8_calls ss (.slice av ss.length cv) _ (HV.out.below (HD.out _ (by exact ⟨rfl, rfl, rfl, Nat.le_refl _, fun _ _ => rfl⟩)).below) (by omega)) ?_); rintro e w10 ⟨v10, rfl, ho10, hb10⟩
           have h10 := (HD.out w9.drew (by exact ⟨rfl, rfl, rfl, Nat.le_refl _, fun _ _ => rfl⟩)).newRowG hs9 hb10 ho10
           have hst10 := (RowG.stable tTx 1 v10 ss.length (strs ss)).both hs9
           have cn10 := cell_at h10.drop.toR.cell.1 3
           have H10 := Lib.hid h10
           clear h10 ho10 hb10)))
      all_goals
        obtain ⟨⟨ao, cp, rfl, _, _⟩, h14⟩ := H14.out
        have hM : Stable (Both (RowG tTx 1 (.slice ao (ofL ss).length cp) (ofL ss).length (strs (ofL ss))) Φ1) := (RowG.stable _ _ _ _ _).both hΦ1
        have h15 := h14.setCell (hs3.both (hM.both hR9)) 0 u1
        have H15 := Lib.hid (h15.perm (show Both (CellT (k8 + 1) #[u1] tStr) _ = Both (LocT kn k5 k8 (k8 + 1) #[.int .i64 1, .int .i64 oa, .int .i64 ob, .slice av ss.length cv] d1.u d2.u u1) (Both (WlI kx b l gv wv pv) (Both (StoreT b S) (Both (Both (RowG tTx 1 (.slice ao (ofL ss).length cp) (ofL ss).length (strs (ofL ss))) Φ1) N))) by unfold LocT; ac_rfl))
        have hlo := ofL_len ss
        clear h14 h15 st14
        (repeat' (first | (go_big_may; fail) | go_values | go_skip | go_guarded | go_step | go_upon | go_back | dsimp only))
        refine HK.out _ _ ?_
        have hJ := HJ.out
        go_meet
        case rel =>
          refine ⟨⟨u1, .slice ao (ofL ss).length cp, ofL ss, 1⟩, _, S, rs, rfl, rfl, FnV.of_str HS3.out, (show 1 ≤ 201 by omega), ?_, HLS.out.more hM (fun _ h => h) HLS.out.good HLS.out.holds, H15.out⟩
          exact NdOk.mk2 (fun S2 _ => HS3.out.more hΦ1 ((RowG.stable tTx 1 (.slice ao (ofL ss).length cp) (ofL ss).length (strs (ofL ss))).both (HLS.out.st.both (StoreT.stable b S2))) (by ac_rfl)) (fun _ _ h => row_want h) (FnV.of_str HS3.out).one (ofL_rises ss) (Nat.le_refl _) (by omega)
    by_cases e2 : kk = 2
    · subst e2
      skip
      have h9 : At W w9 (Both (Both (CellT kn #[.int .i64 2, .int .i64 oa, .int .i64 ob, .slice av ss.length cv] tNode) (Both (CellT k5 #[d1.u] tStr) (CellT k8 #[d2.u] tStr))) (Both (CellT (k8 + 1) #[.nilFunc] tStr) (Both (WlI kx b l gv wv pv) (Both (StoreT b S) N)))) := H9.out.perm (by unfold LocT; ac_rfl)
      have hs3 : Stable (Both (CellT kn #[.int .i64 2, .int .i64 oa, .int .i64 ob, .slice av ss.length cv] tNode) (Both (CellT k5 #[d1.u] tStr) (CellT k8 #[d2.u] tStr))) := (CellT.stable _ _ _).both ((CellT.stable _ _ _).both (CellT.stable _ _ _))
      have hs9 : Stable (Both (Both (CellT kn #[.int .i64 2, .int .i64 oa, .int .i64 ob, .slice av ss.length cv] tNode) (Both (CellT k5 #[d1.u] tStr) (CellT k8 #[d2.u] tStr))) (Both (CellT (k8 + 1) #[.nilFunc] tStr) (Both (WlI kx b l gv wv pv) (Both (StoreT b S) N)))) := hs3.both ((CellT.stable _ _ _).both hR9)
      have c5 := (h9.toR.drop.toR.cellF (o := 0) (u := d1.u) rfl).1
      have c8 := (h9.toR.drop.toR.drop.cellF (o := 0) (u := d2.u) rfl).1
      have w1 : IntKind.i64.wrap ((d1.p : Int) + (d2.p : Int)) = ((d1.p + d2.p : Nat) : Int) := by rw [IntKind.wrap_i64] <;> omega
      have w2 : IntKind.i64.wrap (((d1.p + d2.p : Nat) : Int) + 1) = ((d1.p + d2.p + 1 : Nat) : Int) := by rw [IntKind.wrap_i64] <;> omega
      have hl1 := HO1.out.len
      have hl2 := HO2.out.len
      have hone : ∀ u ∈ [d1.u, d2.u], u.oneCell' = true := fun u hu => by
        rcases List.mem_cons.1 hu with rfl | hu
        · exact HO1.out.one
        · cases List.mem_singleton.1 hu; exact HO2.out.one
      have HU := Lib.hid (UnionU_at (vs := [d1.u, d2.u]) hone (by simp) hs9 (h9.alloc hs9 (.cells #[d1.u, d2.u] tStr)) (rd_new w9 #[d1.u, d2.u] tStr 2 rfl (by simp [maxLen])))
      clear h9 H9
      (repeat' (first | (go_big_may; fail) | go_values | go_skip | go_guarded | go_step | go_upon | go_back | dsimp only))
      refine HU.out.mono ?_
      rintro e w10 ⟨Nn, u1, hNn, hu1, rfl, hK1, h10⟩
      have HRU := Lib.hid (RUnion_calls (w := w10) (HO1.out.want w10 _ (h10.perm (show _ = Both N (Both Nn (Both (Both (CellT kn #[.int .i64 2, .int .i64 oa, .int .i64 ob, .slice av ss.length cv] tNode) (Both (CellT k5 #[d1.u] tStr) (CellT k8 #[d2.u] tStr))) (Both (CellT (k8 + 1) #[.nilFunc] tStr) (Both (WlI kx b l gv wv pv) (StoreT b S))))) by ac_rfl))) (HO2.out.want w10 _ (h10.perm (show _ = Both N (Both Nn (Both (Both (CellT kn #[.int .i64 2, .int .i64 oa, .int .i64 ob, .slice av ss.length cv] tNode) (Both (CellT k5 #[d1.u] tStr) (CellT k8 #[d2.u] tStr))) (Both (CellT (k8 + 1) #[.nilFunc] tStr) (Both (WlI kx b l gv wv pv) (StoreT b S))))) by ac_rfl))) (by omega))
      clear HU c5 c8
      (repeat' (first | (go_big_may; fail) | go_values | go_skip | go_guarded | go_step | go_upon | go_back | dsimp only))
      refine HRU.out.mono ?_
      rintro e w13 ⟨vo, rfl, h13⟩
      have hul := unionL_two HO1.out.rises HO2.out.rises
      have hml := mergeL_len d1.L d2.L
      have h14 := (h10.glue (hNn.both hs9) h13).perm (show _ = Both (CellT (k8 + 1) #[.nilFunc] tStr) (Both (Both (CellT kn #[.int .i64 2, .int .i64 oa, .int .i64 ob, .slice av ss.length cv] tNode) (Both (CellT k5 #[d1.u] tStr) (CellT k8 #[d2.u] tStr))) (Both (Both (RowG tTx 1 vo (mergeL d1.L d2.L).length (strs (mergeL d1.L d2.L))) Nn) (Both (WlI kx b l gv wv pv) (Both (StoreT b S) N)))) by ac_rfl)
      have c14 := h14.cellF (o := 0) (u := .nilFunc) rfl
      have st14 := store_one (P := Tryz.prog) (v := u1) hu1 c14.1 c14.2.1
      obtain ⟨ao, cp, rfl, _, _⟩ := own_shape h13.rowG
      have hM : Stable (Both (RowG tTx 1 (.slice ao (mergeL d1.L d2.L).length cp) (mergeL d1.L d2.L).length (strs (mergeL d1.L d2.L))) Nn) := (RowG.stable _ _ _ _ _).both hNn
      have h15 := h14.setCell (hs3.both (hM.both hR9)) 0 u1
      have H15 := Lib.hid (h15.perm (show Both (CellT (k8 + 1) #[u1] tStr) _ = Both (LocT kn k5 k8 (k8 + 1) #[.int .i64 2, .int .i64 oa, .int .i64 ob, .slice av ss.length cv] d1.u d2.u u1) (Both (WlI kx b l gv wv pv) (Both (StoreT b S) (Both (Both (RowG tTx 1 (.slice ao (mergeL d1.L d2.L).length cp) (mergeL d1.L d2.L).length (strs (mergeL d1.L d2.L))) Nn) N))) by unfold LocT; ac_rfl))
      have HK1 := Lib.hid hK1
      clear h14 h15 h13 h10 hK1 c14
      (repeat' (first | (go_big_may; fail) | go_values | go_skip | go_guarded | go_step | go_upon | go_back | dsimp only))
      refine HK.out _ _ ?_
      have hJ := HJ.out
      go_meet
      case rel =>
        have hstr : ∀ S2, HoldsT S2 rs → IsStr W (Both (Both (Both (RowG tTx 1 (.slice ao (mergeL d1.L d2.L).length cp) (mergeL d1.L d2.L).length (strs (mergeL d1.L d2.L))) Nn) N) (StoreT b S2)) u1 (mergeL d1.L d2.L) := fun S2 hS2 =>
          IsStr.more ((hul ▸ (HK1.out _ [d1.L, d2.L] (HLS.out.st.both (StoreT.stable b S2)) (fun L hL => by rcases List.mem_cons.1 hL with rfl | hL; exact HO1.out.rises; cases List.mem_singleton.1 hL; exact HO2.out.rises) (by simp) (by simp; omega) (strs2 (HO1.out.str S2 hS2) (HO2.out.str S2 hS2))))) (hNn.both (HLS.out.st.both (StoreT.stable b S2))) (RowG.stable tTx 1 (.slice ao (mergeL d1.L d2.L).length cp) (mergeL d1.L d2.L).length (strs (mergeL d1.L d2.L))) (by ac_rfl)
        refine ⟨⟨u1, .slice ao (mergeL d1.L d2.L).length cp, (mergeL d1.L d2.L), d1.p + d2.p + 1⟩, _, S, rs, rfl, rfl, FnV.of_str (hstr S HLS.out.holds), (show d1.p + d2.p + 1 ≤ 201 by omega), ?_, HLS.out.more hM (fun _ h => h) HLS.out.good HLS.out.holds, H15.out⟩
        exact NdOk.mk2 hstr (fun _ _ h => row_want h) hu1 (mergeL_rises HO1.out.rises HO2.out.rises) (by omega) ((by have := Nat.add_mul d1.p d2.p 67108864; rw [Nat.add_mul, Nat.add_mul]; omega))
    by_cases e3 : kk = 3
    · subst e3
      skip
      have h9 : At W w9 (Both (Both (CellT kn #[.int .i64 3, .int .i64 oa, .int .i64 ob, .slice av ss.length cv] tNode) (Both (CellT k5 #[d1.u] tStr) (CellT k8 #[d2.u] tStr))) (Both (CellT (k8 + 1) #[.nilFunc] tStr) (Both (WlI kx b l gv wv pv) (Both (StoreT b S) N)))) := H9.out.perm (by unfold LocT; ac_rfl)
      have hs3 : Stable (Both (CellT kn #[.int .i64 3, .int .i64 oa, .int .i64 ob, .slice av ss.length cv] tNode) (Both (CellT k5 #[d1.u] tStr) (CellT k8 #[d2.u] tStr))) := (CellT.stable _ _ _).both ((CellT.stable _ _ _).both (CellT.stable _ _ _))
      have hs9 : Stable (Both (Both (CellT kn #[.int .i64 3, .int .i64 oa, .int .i64 ob, .slice av ss.length cv] tNode) (Both (CellT k5 #[d1.u] tStr) (CellT k8 #[d2.u] tStr))) (Both (CellT (k8 + 1) #[.nilFunc] tStr) (Both (WlI kx b l gv wv pv) (Both (StoreT b S) N)))) := hs3.both ((CellT.stable _ _ _).both hR9)
      have c5 := (h9.toR.drop.toR.cellF (o := 0) (u := d1.u) rfl).1
      have c8 := (h9.toR.drop.toR.drop.cellF (o := 0) (u := d2.u) rfl).1
      have w1 : IntKind.i64.wrap ((d1.p : Int) + (d2.p : Int)) = ((d1.p + d2.p : Nat) : Int) := by rw [IntKind.wrap_i64] <;> omega
      have w2 : IntKind.i64.wrap (((d1.p + d2.p : Nat) : Int) + 1) = ((d1.p + d2.p + 1 : Nat) : Int) := by rw [IntKind.wrap_i64] <;> omega
      have hl1 := HO1.out.len
      have hl2 := HO2.out.len
      have HU := Lib.hid (MinusU_at (vs := d1.u) (vt := d2.u) hs9 h9)
      clear h9 H9
      (repeat' (first | (go_big_may; fail) | go_values | go_skip | go_guarded | go_step | go_upon | go_back | dsimp only))
      refine HU.out.mono ?_
      rintro e w10 ⟨Nn, u1, hNn, hu1, rfl, hK1, h10⟩
      have HRU := Lib.hid (RMinus_calls (w := w10) (HO1.out.want w10 _ (h10.perm (show _ = Both N (Both Nn (Both (Both (CellT kn #[.int .i64 3, .int .i64 oa, .int .i64 ob, .slice av ss.length cv] tNode) (Both (CellT k5 #[d1.u] tStr) (CellT k8 #[d2.u] tStr))) (Both (CellT (k8 + 1) #[.nilFunc] tStr) (Both (WlI kx b l gv wv pv) (StoreT b S))))) by ac_rfl))) (HO2.out.want w10 _ (h10.perm (show _ = Both N (Both Nn (Both (Both (CellT kn #[.int .i64 3, .int .i64 oa, .int .i64 ob, .slice av ss.length cv] tNode) (Both (CellT k5 #[d1.u] tStr) (CellT k8 #[d2.u] tStr))) (Both (CellT (k8 + 1) #[.nilFunc] tStr) (Both (WlI kx b l gv wv pv) (StoreT b S))))) by ac_rfl))) HO2.out.rises (by omega) (by omega))
      clear HU c5 c8
      (repeat' (first | (go_big_may; fail) | go_values | go_skip | go_guarded | go_step | go_upon | go_back | dsimp only))
      refine HRU.out.mono ?_
      rintro e w13 ⟨vo, rfl, h13⟩
      have hml : (minusL d1.L d2.L).length ≤ d1.L.length := List.length_filter_le _ _
      have h14 := (h10.glue (hNn.both hs9) h13).perm (show _ = Both (CellT (k8 + 1) #[.nilFunc] tStr) (Both (Both (CellT kn #[.int .i64 3, .int .i64 oa, .int .i64 ob, .slice av ss.length cv] tNode) (Both (CellT k5 #[d1.u] tStr) (CellT k8 #[d2.u] tStr))) (Both (Both (RowG tTx 1 vo (minusL d1.L d2.L).length (strs (minusL d1.L d2.L))) Nn) (Both (WlI kx b l gv wv pv) (Both (StoreT b S) N)))) by ac_rfl)
      have c14 := h14.cellF (o := 0) (u := .nilFunc) rfl
      have st14 := store_one (P := Tryz.prog) (v := u1) hu1 c14.1 c14.2.1
      obtain ⟨ao, cp, rfl, _, _⟩ := own_shape h13.rowG
      have hM : Stable (Both (RowG tTx 1 (.slice ao (minusL d1.L d2.L).length cp) (minusL d1.L d2.L).length (strs (minusL d1.L d2.L))) Nn) := (RowG.stable _ _ _ _ _).both hNn
      have h15 := h14.setCell (hs3.both (hM.both hR9)) 0 u1
      have H15 := Lib.hid (h15.perm (show Both (CellT (k8 + 1) #[u1] tStr) _ = Both (LocT kn k5 k8 (k8 + 1) #[.int .i64 3, .int .i64 oa, .int .i64 ob, .slice av ss.length cv] d1.u d2.u u1) (Both (WlI kx b l gv wv pv) (Both (StoreT b S) (Both (Both (RowG tTx 1 (.slice ao (minusL d1.L d2.L).length cp) (minusL d1.L d2.L).length (strs (minusL d1.L d2.L))) Nn) N))) by unfold LocT; ac_rfl))
      have HK1 := Lib.hid hK1
      clear h14 h15 h13 h10 hK1 c14
      (repeat' (first | (go_big_may; fail) | go_values | go_skip | go_guarded | go_step | go_upon | go_back | dsimp only))
      refine HK.out _ _ ?_
      have hJ := HJ.out
      go_meet
      case rel =>
        have hstr : ∀ S2, HoldsT S2 rs → IsStr W (Both (Both (Both (RowG tTx 1 (.slice ao (minusL d1.L d2.L).length cp) (minusL d1.L d2.L).length (strs (minusL d1.L d2.L))) Nn) N) (StoreT b S2)) u1 (minusL d1.L d2.L) := fun S2 hS2 =>
          IsStr.more (HK1.out _ d1.L d2.L (HLS.out.st.both (StoreT.stable b S2)) HO1.out.rises HO2.out.rises (by omega) (HO1.out.str S2 hS2) (HO2.out.str S2 hS2)) (hNn.both (HLS.out.st.both (StoreT.stable b S2))) (RowG.stable tTx 1 (.slice ao (minusL d1.L d2.L).length cp) (minusL d1.L d2.L).length (strs (minusL d1.L d2.L))) (by ac_rfl)
        refine ⟨⟨u1, .slice ao (minusL d1.L d2.L).length cp, (minusL d1.L d2.L), d1.p + d2.p + 1⟩, _, S, rs, rfl, rfl, FnV.of_str (hstr S HLS.out.holds), (show d1.p + d2.p + 1 ≤ 201 by omega), ?_, HLS.out.more hM (fun _ h => h) HLS.out.good HLS.out.holds, H15.out⟩
        exact NdOk.mk2 hstr (fun _ _ h => row_want h) hu1 (minusL_rises HO1.out.rises d2.L) (by omega) ((by rw [Nat.add_mul, Nat.add_mul]; omega))
    by_cases e4 : kk = 4
    · subst e4
      skip
      have h9 : At W w9 (Both (Both (CellT kn #[.int .i64 4, .int .i64 oa, .int .i64 ob, .slice av ss.length cv] tNode) (Both (CellT k5 #[d1.u] tStr) (CellT k8 #[d2.u] tStr))) (Both (CellT (k8 + 1) #[.nilFunc] tStr) (Both (WlI kx b l gv wv pv) (Both (StoreT b S) N)))) := H9.out.perm (by unfold LocT; ac_rfl)
      have hs3 : Stable (Both (CellT kn #[.int .i64 4, .int .i64 oa, .int .i64 ob, .slice av ss.length cv] tNode) (Both (CellT k5 #[d1.u] tStr) (CellT k8 #[d2.u] tStr))) := (CellT.stable _ _ _).both ((CellT.stable _ _ _).both (CellT.stable _ _ _))
      have hs9 : Stable (Both (Both (CellT kn #[.int .i64 4, .int .i64 oa, .int .i64 ob, .slice av ss.length cv] tNode) (Both (CellT k5 #[d1.u] tStr) (CellT k8 #[d2.u] tStr))) (Both (CellT (k8 + 1) #[.nilFunc] tStr) (Both (WlI kx b l gv wv pv) (Both (StoreT b S) N)))) := hs3.both ((CellT.stable _ _ _).both hR9)
      have c5 := (h9.toR.drop.toR.cellF (o := 0) (u := d1.u) rfl).1
      have c8 := (h9.toR.drop.toR.drop.cellF (o := 0) (u := d2.u) rfl).1
      have w1 : IntKind.i64.wrap ((d1.p : Int) + (d2.p : Int)) = ((d1.p + d2.p : Nat) : Int) := by rw [IntKind.wrap_i64] <;> omega
      have w2 : IntKind.i64.wrap (((d1.p + d2.p : Nat) : Int) + 1) = ((d1.p + d2.p + 1 : Nat) : Int) := by rw [IntKind.wrap_i64] <;> omega
      have hl1 := HO1.out.len
      have hl2 := HO2.out.len
      have HU := Lib.hid (CommonU_at (vs := d1.u) (vt := d2.u) hs9 h9)
      clear h9 H9
      (repeat' (first | (go_big_may; fail) | go_values | go_skip | go_guarded | go_step | go_upon | go_back | dsimp only))
      refine HU.out.mono ?_
      rintro e w10 ⟨Nn, u1, hNn, hu1, rfl, hK1, h10⟩
      have HRU := Lib.hid (RCommon_calls (w := w10) (HO1.out.want w10 _ (h10.perm (show _ = Both N (Both Nn (Both (Both (CellT kn #[.int .i64 4, .int .i64 oa, .int .i64 ob, .slice av ss.length cv] tNode) (Both (CellT k5 #[d1.u] tStr) (CellT k8 #[d2.u] tStr))) (Both (CellT (k8 + 1) #[.nilFunc] tStr) (Both (WlI kx b l gv wv pv) (StoreT b S))))) by ac_rfl))) (HO2.out.want w10 _ (h10.perm (show _ = Both N (Both Nn (Both (Both (CellT kn #[.int .i64 4, .int .i64 oa, .int .i64 ob, .slice av ss.length cv] tNode) (Both (CellT k5 #[d1.u] tStr) (CellT k8 #[d2.u] tStr))) (Both (CellT (k8 + 1) #[.nilFunc] tStr) (Both (WlI kx b l gv wv pv) (StoreT b S))))) by ac_rfl))) HO2.out.rises (by omega) (by omega))
      clear HU c5 c8
      (repeat' (first | (go_big_may; fail) | go_values | go_skip | go_guarded | go_step | go_upon | go_back | dsimp only))
      refine HRU.out.mono ?_
      rintro e w13 ⟨vo, rfl, h13⟩
      have hml : (commonW d1.L d2.L).length ≤ d1.L.length := List.length_filter_le _ _
      have h14 := (h10.glue (hNn.both hs9) h13).perm (show _ = Both (CellT (k8 + 1) #[.nilFunc] tStr) (Both (Both (CellT kn #[.int .i64 4, .int .i64 oa, .int .i64 ob, .slice av ss.length cv] tNode) (Both (CellT k5 #[d1.u] tStr) (CellT k8 #[d2.u] tStr))) (Both (Both (RowG tTx 1 vo (commonW d1.L d2.L).length (strs (commonW d1.L d2.L))) Nn) (Both (WlI kx b l gv wv pv) (Both (StoreT b S) N)))) by ac_rfl)
      have c14 := h14.cellF (o := 0) (u := .nilFunc) rfl
      have st14 := store_one (P := Tryz.prog) (v := u1) hu1 c14.1 c14.2.1
      obtain ⟨ao, cp, rfl, _, _⟩ := own_shape h13.rowG
      have hM : Stable (Both (RowG tTx 1 (.slice ao (commonW d1.L d2.L).length cp) (commonW d1.L d2.L).length (strs (commonW d1.L d2.L))) Nn) := (RowG.stable _ _ _ _ _).both hNn
      have h15 := h14.setCell (hs3.both (hM.both hR9)) 0 u1
      have H15 := Lib.hid (h15.perm (show Both (CellT (k8 + 1) #[u1] tStr) _ = Both (LocT kn k5 k8 (k8 + 1) #[.int .i64 4, .int .i64 oa, .int .i64 ob, .slice av ss.length cv] d1.u d2.u u1) (Both (WlI kx b l gv wv pv) (Both (StoreT b S) (Both (Both (RowG tTx 1 (.slice ao (commonW d1.L d2.L).length cp) (commonW d1.L d2.L).length (strs (commonW d1.L d2.L))) Nn) N))) by unfold LocT; ac_rfl))
      have HK1 := Lib.hid hK1
      clear h14 h15 h13 h10 hK1 c14
      (repeat' (first | (go_big_may; fail) | go_values | go_skip | go_guarded | go_step | go_upon | go_back | dsimp only))
      refine HK.out _ _ ?_
      have hJ := HJ.out
      go_meet
      case rel =>
        have hstr : ∀ S2, HoldsT S2 rs → IsStr W (Both (Both (Both (RowG tTx 1 (.slice ao (commonW d1.L d2.L).length cp) (commonW d1.L d2.L).length (strs (commonW d1.L d2.L))) Nn) N) (StoreT b S2)) u1 (commonW d1.L d2.L) := fun S2 hS2 =>
          IsStr.more (HK1.out _ d1.L d2.L (HLS.out.st.both (StoreT.stable b S2)) HO1.out.rises HO2.out.rises (by omega) (HO1.out.str S2 hS2) (HO2.out.str S2 hS2)) (hNn.both (HLS.out.st.both (StoreT.stable b S2))) (RowG.stable tTx 1 (.slice ao (commonW d1.L d2.L).length cp) (commonW d1.L d2.L).length (strs (commonW d1.L d2.L))) (by ac_rfl)
        refine ⟨⟨u1, .slice ao (commonW d1.L d2.L).length cp, (commonW d1.L d2.L), d1.p + d2.p + 1⟩, _, S, rs, rfl, rfl, FnV.of_str (hstr S HLS.out.holds), (show d1.p + d2.p + 1 ≤ 201 by omega), ?_, HLS.out.more hM (fun _ h => h) HLS.out.good HLS.out.holds, H15.out⟩
        exact NdOk.mk2 hstr (fun _ _ h => row_want h) hu1 (commonW_rises HO1.out.rises d2.L) (by omega) ((by rw [Nat.add_mul, Nat.add_mul]; omega))
    by_cases e5 : kk = 5
    · subst e5
      have h9 : At W w9 (Both (Both (CellT kn #[.int .i64 5, .int .i64 oa, .int .i64 ob, .slice av ss.length cv] tNode) (Both (CellT k5 #[d1.u] tStr) (CellT k8 #[d2.u] tStr))) (Both (CellT (k8 + 1) #[.nilFunc] tStr) (Both (WlI kx b l gv wv pv) (Both (StoreT b S) N)))) := H9.out.perm (by unfold LocT; ac_rfl)
      have hs3 : Stable (Both (CellT kn #[.int .i64 5, .int .i64 oa, .int .i64 ob, .slice av ss.length cv] tNode) (Both (CellT k5 #[d1.u] tStr) (CellT k8 #[d2.u] tStr))) := (CellT.stable _ _ _).both ((CellT.stable _ _ _).both (CellT.stable _ _ _))
      have hs9 : Stable (Both (Both (CellT kn #[.int .i64 5, .int .i64 oa, .int .i64 ob, .slice av ss.length cv] tNode) (Both (CellT k5 #[d1.u] tStr) (CellT k8 #[d2.u] tStr))) (Both (CellT (k8 + 1) #[.nilFunc] tStr) (Both (WlI kx b l gv wv pv) (Both (StoreT b S) N)))) := hs3.both ((CellT.stable _ _ _).both hR9)
      have c5 := (h9.toR.drop.toR.cellF (o := 0) (u := d1.u) rfl).1
      have w1 : IntKind.i64.wrap ((d1.p : Int) + 1) = ((d1.p + 1 : Nat) : Int) := by rw [IntKind.wrap_i64] <;> omega
      have hl1 := HO1.out.len
      obtain ⟨z, hfi⟩ : ∃ z : List UInt8, ∀ (w' : World), RdRow w' (.slice av ss.length cv) ss.length 1 (strs ss) → Calls Tryz.prog 19 #[.slice av ss.length cv] w' fun e w'' => e = .returned (.string ⟨z.toArray⟩) ∧ w'' = w' := ⟨_, fun w' h => first8_calls ss _ w' h⟩
      have HFI := Lib.hid hfi
      clear hfi
      have H8 := Lib.hid h9
      have HD := Lib.hid fun (w' : World) (hb : Below w9.heap.size w9 w') => H8.out.mono hs9 hb
      have HNE := Lib.hid (h9.perm (show _ = Both (CellT kn #[.int .i64 5, .int .i64 oa, .int .i64 ob, .slice av ss.length cv] tNode) (Both (CellT (k8 + 1) #[.nilFunc] tStr) (Both (CellT k5 #[d1.u] tStr) (Both (CellT k8 #[d2.u] tStr) (Both (WlI kx b l gv wv pv) (Both (StoreT b S) N))))) by ac_rfl)).cells_ne
      have HNE5 := Lib.hid (h9.perm (show _ = Both (CellT k5 #[d1.u] tStr) (Both (CellT (k8 + 1) #[.nilFunc] tStr) (Both (CellT kn #[.int .i64 5, .int .i64 oa, .int .i64 ob, .slice av ss.length cv] tNode) (Both (CellT k8 #[d2.u] tStr) (Both (WlI kx b l gv wv pv) (Both (StoreT b S) N))))) by ac_rfl)).cells_ne
      have hcg := And.intro z3 c5
      clear h9 H9
      go_upto_region 14 with (fail)
      go_region_held3 (fun wx => wx.cell? ⟨kn, 3, none⟩ = some (.slice av ss.length cv) ∧ wx.cell? ⟨k5, 0, none⟩ = some d1.u) (first | assumption | (exact ⟨cell_setP HNE.out cn10.1, cell_setP HNE5.out cn10.2⟩) | go_keep) ((first
        | (go_at_call 20; (refine Calls.mono (RFrom_calls HO1.out.rises (HO1.out.want _ _ (H10.out.perm (show _ = Both N (Both Nn (Both (Both (CellT kn #[.int .i64 5, .int .i64 oa, .int .i64 ob, .slice av ss.length cv] tNode) (Both (CellT k5 #[d1.u] tStr) (CellT k8 #[d2.u] tStr))) (Both (CellT (k8 + 1) #[.nilFunc] tStr) (Both (WlI kx b l gv wv pv) (StoreT b S))))) by ac_rfl))) (by omega) z) ?_); rintro e w13 ⟨vo, rfl, rfl, hvo⟩
           have h14 := H10.out.perm (show _ = Both (CellT (k8 + 1) #[.nilFunc] tStr) (Both (Both (CellT kn #[.int .i64 5, .int .i64 oa, .int .i64 ob, .slice av ss.length cv] tNode) (Both (CellT k5 #[d1.u] tStr) (CellT k8 #[d2.u] tStr))) (Both Nn (Both (WlI kx b l gv wv pv) (Both (StoreT b S) N)))) by ac_rfl)
           have c14 := h14.cellF (o := 0) (u := .nilFunc) rfl
           have st14 := store_one (P := Tryz.prog) (v := u1) hu1 c14.1 c14.2.1
           have HVO := Lib.hid hvo
           have H14 := Lib.hid h14
           clear hvo h14 c14)
        | (go_at_call 19; (refine Calls.mono (HFI.out _ (HV.out.below H10.out.below)) ?_); rintro e w11 ⟨rfl, rfl⟩)
        | (go_at_call 18; (refine Calls.mono (FromU_at (v := d1.u) hs9 (HD.out w9.drew ⟨rfl, rfl, rfl, Nat.le_refl _, fun _ _ => rfl⟩) z) ?_); rintro e w10 ⟨Nn, u1, hNn, hu1, rfl, hK1, h10⟩
           have cn10 := And.intro (cell_at h10.drop.toR.cell.1 3) (h10.drop.toR.drop.toR.cellF (o := 0) (u := d1.u) rfl).1
           have HK1 := Lib.hid hK1
           have H10 := Lib.hid h10
           clear hK1 h10)
        | (go_at_call 19; (refine Calls.mono (HFI.out _ (HV.out.below (HD.out _ (by exact ⟨rfl, rfl, rfl, Nat.le_refl _, fun _ _ => rfl⟩)).below)) ?_); rintro e w11 ⟨rfl, rfl⟩)))
      all_goals
        obtain ⟨ao, cp, rfl, _, _⟩ := (HVO.out _ (HO1.out.want _ _ (H10.out.perm (show _ = Both N (Both Nn (Both (Both (CellT kn #[.int .i64 5, .int .i64 oa, .int .i64 ob, .slice av ss.length cv] tNode) (Both (CellT k5 #[d1.u] tStr) (CellT k8 #[d2.u] tStr))) (Both (CellT (k8 + 1) #[.nilFunc] tStr) (Both (WlI kx b l gv wv pv) (StoreT b S))))) by ac_rfl)))).shape
        have h15 := H14.out.setCell (hs3.both (hNn.both hR9)) 0 u1
        have H15 := Lib.hid (h15.perm (show Both (CellT (k8 + 1) #[u1] tStr) _ = Both (LocT kn k5 k8 (k8 + 1) #[.int .i64 5, .int .i64 oa, .int .i64 ob, .slice av ss.length cv] d1.u d2.u u1) (Both (WlI kx b l gv wv pv) (Both (StoreT b S) (Both Nn N))) by unfold LocT; ac_rfl))
        have hlf : (fromL d1.L z).length ≤ d1.L.length := by unfold fromL; simp
        have hnb := nb_eq (z := z) HO1.out.rises
        clear h15 st14
        (repeat' (first | (go_big_may; fail) | go_values | go_skip | go_guarded | go_step | go_upon | go_back | dsimp only))
        refine HK.out _ _ ?_
        have hJ := HJ.out
        go_meet
        case rel =>
          have hstr : ∀ S2, HoldsT S2 rs → IsStr W (Both (Both Nn N) (StoreT b S2)) u1 (fromL d1.L z) := fun S2 hS2 => hnb ▸ (HK1.out _ d1.L (HLS.out.st.both (StoreT.stable b S2)) (HO1.out.str S2 hS2)).perm (by ac_rfl)
          refine ⟨⟨u1, .slice ao (fromL d1.L z).length cp, fromL d1.L z, d1.p + 1⟩, _, S, rs, rfl, rfl, FnV.of_str (hstr S HLS.out.holds), (show d1.p + 1 ≤ 201 by omega), ?_, HLS.out.more hNn (fun _ h => h) HLS.out.good HLS.out.holds, H15.out⟩
          exact NdOk.mk2 hstr (fun w' R h => HVO.out w' (HO1.out.want w' (Both Nn R) (h.perm (by ac_rfl)))) hu1 (fromL_rises HO1.out.rises _) (by omega) (by rw [Nat.add_mul]; omega)
    by_cases e6 : kk = 6
    · subst e6
      obtain ⟨hfl1, hTl⟩ := frameR_len hlen
      have htx := fun (w' : World) (h : RdRow w' (.slice av ss.length cv) ss.length 1 (strs ss)) => texts6_calls ss (.slice av ss.length cv) w' h (by omega) (a0 := oa) (b0 := ob)
      obtain ⟨T, hT⟩ : ∃ T, (frameR ss).1 = T := ⟨_, rfl⟩
      rw [hT] at htx hTl
      obtain ⟨L, hL⟩ : ∃ L, risB none (headsL T).1 = L := ⟨_, rfl⟩
      rw [hL] at htx
      clear hT hfl1
      have hfl : T.length ≤ 12582912 ∧ L.length ≤ 12582912 ∧ RisesL L ∧ risB none (headsL T).1 = L := by
        have q1 := headsL_len T
        have q2 := risB_len none (headsL T).1
        have q3 := risB_rises none (headsL T).1
        rw [hL] at q2 q3
        exact ⟨hTl, by omega, q3, hL⟩
      have HFL := Lib.hid hfl
      have hs3 : Stable (Both (CellT kn #[.int .i64 6, .int .i64 oa, .int .i64 ob, .slice av ss.length cv] tNode) (Both (CellT k5 #[d1.u] tStr) (CellT k8 #[d2.u] tStr))) := (CellT.stable _ _ _).both ((CellT.stable _ _ _).both (CellT.stable _ _ _))
      have h9 : At W w9 (Both (Both (CellT kn #[.int .i64 6, .int .i64 oa, .int .i64 ob, .slice av ss.length cv] tNode) (Both (CellT k5 #[d1.u] tStr) (CellT k8 #[d2.u] tStr))) (Both (CellT (k8 + 1) #[.nilFunc] tStr) (Both (WlI kx b l gv wv pv) (Both (StoreT b S) N)))) := H9.out.perm (by unfold LocT; ac_rfl)
      have hs9 : Stable (Both (Both (CellT kn #[.int .i64 6, .int .i64 oa, .int .i64 ob, .slice av ss.length cv] tNode) (Both (CellT k5 #[d1.u] tStr) (CellT k8 #[d2.u] tStr))) (Both (CellT (k8 + 1) #[.nilFunc] tStr) (Both (WlI kx b l gv wv pv) (Both (StoreT b S) N)))) := hs3.both ((CellT.stable _ _ _).both hR9)
      have z1 := cell_at h9.toR.cell.1 1
      have z2 := cell_at h9.toR.cell.1 2
      simp only [List.getElem?_toArray, List.getElem?_cons_zero, List.getElem?_cons_succ] at z0 z1 z2 z3
      have HTX := Lib.hid (htx w9 (HV.out.below h9.below))
      have H8 := Lib.hid h9
      have HF := Lib.hid hF
      clear htx hfl h9 H9 hF hL hTl
      (repeat' (first | (go_big_may; fail) | go_values | go_skip | go_guarded | go_step | go_upon | go_back | dsimp only))
      refine HTX.out.mono ?_
      rintro e w10 ⟨v10, rfl, ho10, hb10⟩
      obtain ⟨ao, cp, rfl, _, _⟩ := own_shape ho10
      have hr10 := RowG.stable tTx 1 (.slice ao L.length cp) L.length (strs L)
      have h10 := (H8.out.newRowG hs9 hb10 ho10).perm (show _ = Both (StoreT b S) (Both (RowG tTx 1 (.slice ao L.length cp) L.length (strs L)) (Both (Both (CellT kn #[.int .i64 6, .int .i64 oa, .int .i64 ob, .slice av ss.length cv] tNode) (Both (CellT k5 #[d1.u] tStr) (CellT k8 #[d2.u] tStr))) (Both (CellT (k8 + 1) #[.nilFunc] tStr) (Both (WlI kx b l gv wv pv) N)))) by ac_rfl)
      have hsR := hr10.both (hs3.both ((CellT.stable (k8 + 1) #[.nilFunc] tStr).both ((WlI.stable kx b l gv wv pv).both HLS.out.st)))
      have x0 := cell_at h10.drop.drop.drop.drop.toR.cell.1 0
      simp only [List.getElem?_toArray, List.getElem?_cons_zero, List.getElem?_cons_succ] at x0
      have lkx := lt_of_heap h10.drop.drop.drop.drop.toR.cell.1
      have hcr := Create_7 h10 hsR (fails10_7 HF.out)
      have hz := create_z HLS.out.good
      have hmh := made_has (S := S) (T := T) (z := (createP S).2.1) HLS.out.good rfl
      have hcg := HLS.out.good.create
      have hch := HLS.out.holds.create
      obtain ⟨P, hP⟩ : ∃ P, createP S = P := ⟨_, rfl⟩
      rw [hP] at hcr hz hmh hcg hch
      obtain ⟨S1, z, c1⟩ := P
      dsimp only at hcr hz hmh hcg hch
      have HCR := Lib.hid hcr
      have HZ := Lib.hid hz
      have HMH := Lib.hid hmh
      have HG1 := Lib.hid hcg
      have HH1 := Lib.hid hch
      clear hcr hz hmh hcg hch hP h10 ho10 hb10 HTX z0 z1 z2 z3
      (repeat' (first | (go_big_may; fail) | go_values | go_skip | go_guarded | go_step | go_upon | go_back | dsimp only))
      refine HCR.out.mono ?_
      rintro e w11 ⟨rfl, h11⟩
      by_cases hc1 : c1 = 0
      · subst hc1
        rw [errV_zero]
        have hz1 : inI64 z := by have := HZ.out rfl; unfold inI64; omega
        have neqn : ∀ wz : World, (binOp .neq tErr .nilIface .nilIface).run Tryz.prog wz = .ok (.bool false) wz := fun wz => neq_nil wz
        have x1 := cell_at h11.drop.drop.drop.drop.toR.cell.1 0
        simp only [List.getElem?_toArray, List.getElem?_cons_zero, List.getElem?_cons_succ] at x1
        have lkx1 := lt_of_heap h11.drop.drop.drop.drop.toR.cell.1
        have hbs : b < w11.heap.size := by
          obtain ⟨mb, blk, val, q1, _⟩ := h11.store
          exact q1.lt b (by simp [fpS])
        have h12 := h11.alloc ((StoreT.stable b S1).both hsR) (.cells #[.string ⟨T.toArray⟩] tTx)
        have hv2 : ∀ w', Upd [b] (w11.alloc (.cells #[.string ⟨T.toArray⟩] tTx)) w' → RdRow w' (.slice (some ⟨w11.heap.size, 0, none⟩) 1 1) [T].length 1 (strs [T]) := fun w' hu => by
          refine ⟨rfl, _, 1, rfl, Nat.le_refl _, by simp [maxLen], fun j u hj => ?_⟩
          have hb := hu.block w11.heap.size (by simp) (by simp; omega)
          match j with
          | 0 =>
            simp at hj
            subst hj
            refine ⟨_, _, rfl, ?_⟩
            exact cell_at (hb.trans (heap_alloc_new w11 (.cells #[.string ⟨T.toArray⟩] tTx))) 0
          | j + 1 => simp at hj
        have hap := Append_7 h12 hsR (fails10_7 HF.out) (z := (z : Int)) hz1 HG1.out.le hv2 (by rw [cat_one]; have := HFL.out.1; omega)
        rw [cat_one] at hap
        have hga := HG1.out.append z T
        have hha := HH1.out.append z T
        have hmh := HMH.out rfl
        obtain ⟨P, hP⟩ : ∃ P, appendP S1 z T = P := ⟨_, rfl⟩
        rw [hP] at hap hga hha hmh
        obtain ⟨S2, c2⟩ := P
        dsimp only at hap hga hha hmh
        have HAP := Lib.hid hap
        have HG2 := Lib.hid hga
        have HH2 := Lib.hid hha
        have HM2 := Lib.hid hmh
        clear hap hga hha hmh hP h11 h12 hv2 HCR x0 lkx
        (repeat' (first | (go_big_may; fail) | go_values | go_skip | go_guarded | go_step | go_upon | go_back | dsimp only))
        refine HAP.out.mono ?_
        rintro e w12 ⟨rfl, h13⟩
        clear x1 lkx1 hbs
        by_cases hc2 : c2 = 0
        · subst hc2
          rw [errV_zero]
          have x2 := cell_at h13.drop.drop.drop.drop.toR.cell.1 0
          simp only [List.getElem?_toArray, List.getElem?_cons_zero, List.getElem?_cons_succ] at x2
          have lkx2 := lt_of_heap h13.drop.drop.drop.drop.toR.cell.1
          have hse := Seal_7 h13 hsR (fails10_7 HF.out) (z := (z : Int)) hz1
          have hgs := HG2.out.seal z
          have hhs := HH2.out.seal z
          have hmh := HM2.out rfl
          obtain ⟨P, hP⟩ : ∃ P, sealP S2 z = P := ⟨_, rfl⟩
          rw [hP] at hse hgs hhs hmh
          obtain ⟨S3, c3⟩ := P
          dsimp only at hse hgs hhs hmh
          have HSE := Lib.hid hse
          have HG3 := Lib.hid hgs
          have HH3 := Lib.hid hhs
          have HM3 := Lib.hid hmh
          clear hse hgs hhs hmh hP h13 HAP
          (repeat' (first | (go_big_may; fail) | go_values | go_skip | go_guarded | go_step | go_upon | go_back | dsimp only))
          refine HSE.out.mono ?_
          rintro e w13 ⟨rfl, h14⟩
          clear x2 lkx2
          by_cases hc3 : c3 = 0
          · subst hc3
            rw [errV_zero]
            have hT := HM3.out rfl
            have x3 := cell_at h14.drop.drop.drop.drop.toR.cell.1 0
            simp only [List.getElem?_toArray, List.getElem?_cons_zero, List.getElem?_cons_succ] at x3
            have lkx3 := lt_of_heap h14.drop.drop.drop.drop.toR.cell.1
            have HRO := Lib.hid (Records_ok h14 hsR HF.out (z := z) hT hz1)
            have HT := Lib.hid hT
            clear hT h14 HSE
            (repeat' (first | (go_big_may; fail) | go_values | go_skip | go_guarded | go_step | go_upon | go_back | dsimp only))
            refine HRO.out.mono ?_
            rintro e w14 ⟨bs, bz, rfl, h15⟩
            have hst15 := (CellT.stable bs #[.pointer (some ⟨b, 0, none⟩)] tSpt).both ((CellT.stable bz #[.int .i64 z] tInt).both ((StoreT.stable b S3).both hsR))
            have h16 := h15.newCell hst15 #[.func (.func 55) #[] #[.pointer (some ⟨bs, 0, none⟩), .pointer (some ⟨bz, 0, none⟩)]] tStr
            have h17 := h16.perm (show _ = Both (CellT (k8 + 1) #[.nilFunc] tStr) (Both (CellT w14.heap.size #[.func (.func 55) #[] #[.pointer (some ⟨bs, 0, none⟩), .pointer (some ⟨bz, 0, none⟩)]] tStr) (Both (Both (CellT kn #[.int .i64 6, .int .i64 oa, .int .i64 ob, .slice av ss.length cv] tNode) (Both (CellT k5 #[d1.u] tStr) (CellT k8 #[d2.u] tStr))) (Both (Both (RowG tTx 1 (.slice ao L.length cp) L.length (strs L)) (Both (CellT bs #[.pointer (some ⟨b, 0, none⟩)] tSpt) (CellT bz #[.int .i64 z] tInt))) (Both (WlI kx b l gv wv pv) (Both (StoreT b S3) N))))) by ac_rfl)
            have c17 := h17.cellF (o := 0) (u := .nilFunc) rfl
            have c17a := c17.1
            have c17b := c17.2.1
            have c18 := (h17.drop.cellF (o := 0) (u := .func (.func 55) #[] #[.pointer (some ⟨bs, 0, none⟩), .pointer (some ⟨bz, 0, none⟩)]) rfl).1
            have l17 := lt_of_heap h17.cell.1
            have hM : Stable (Both (RowG tTx 1 (.slice ao L.length cp) L.length (strs L)) (Both (CellT bs #[.pointer (some ⟨b, 0, none⟩)] tSpt) (CellT bz #[.int .i64 z] tInt))) := hr10.both ((CellT.stable _ _ _).both (CellT.stable _ _ _))
            have hs17 := (CellT.stable w14.heap.size #[.func (.func 55) #[] #[.pointer (some ⟨bs, 0, none⟩), .pointer (some ⟨bz, 0, none⟩)]] tStr).both (hs3.both (hM.both ((WlI.stable kx b l gv wv pv).both ((StoreT.stable b S3).both HLS.out.st))))
            have h18 := h17.setCell hs17 0 (.func (.func 55) #[] #[.pointer (some ⟨bs, 0, none⟩), .pointer (some ⟨bz, 0, none⟩)])
            have h19 := (h18.perm (show Both (CellT (k8 + 1) #[.func (.func 55) #[] #[.pointer (some ⟨bs, 0, none⟩), .pointer (some ⟨bz, 0, none⟩)]] tStr) _ = Both (CellT w14.heap.size #[.func (.func 55) #[] #[.pointer (some ⟨bs, 0, none⟩), .pointer (some ⟨bz, 0, none⟩)]] tStr) (Both (LocT kn k5 k8 (k8 + 1) #[.int .i64 6, .int .i64 oa, .int .i64 ob, .slice av ss.length cv] d1.u d2.u (.func (.func 55) #[] #[.pointer (some ⟨bs, 0, none⟩), .pointer (some ⟨bz, 0, none⟩)])) (Both (WlI kx b l gv wv pv) (Both (StoreT b S3) (Both (Both (RowG tTx 1 (.slice ao L.length cp) L.length (strs L)) (Both (CellT bs #[.pointer (some ⟨b, 0, none⟩)] tSpt) (CellT bz #[.int .i64 z] tInt))) N)))) by unfold LocT; ac_rfl)).drop
            have H19 := Lib.hid h19
            clear h15 h16 h17 h18 h19 c17 HRO x3 lkx3
            (repeat' (first | (go_big_may; fail) | go_values | go_skip | go_guarded | go_step | go_upon | go_back | dsimp only))
            refine HK.out _ _ ?_
            have hJ := HJ.out
            go_meet
            case rel =>
              have hin : ∀ q ∈ rs, q ∈ (z, T) :: rs := fun q hq => List.mem_cons_of_mem _ hq
              have hho : HoldsT S3 ((z, T) :: rs) := fun q hq => by
                rcases List.mem_cons.1 hq with rfl | hq
                · exact HT.out
                · exact HH3.out q hq
              have hstr : ∀ S', HoldsT S' ((z, T) :: rs) → IsStr W (Both (Both (Both (RowG tTx 1 (.slice ao L.length cp) L.length (strs L)) (Both (CellT bs #[.pointer (some ⟨b, 0, none⟩)] tSpt) (CellT bz #[.int .i64 z] tInt))) N) (StoreT b S')) (.func (.func 55) #[] #[.pointer (some ⟨bs, 0, none⟩), .pointer (some ⟨bz, 0, none⟩)]) L := fun S' hS' => by
                have hq := records1_seqs HF.out (hS' (z, T) (by simp)) hz1 (by have := HFL.out.1; dsimp only; omega) bs bz b
                rw [HFL.out.2.2.2] at hq
                have hi : IsStr W (RecsT bs bz b z S') (.func (.func 55) #[] #[.pointer (some ⟨bs, 0, none⟩), .pointer (some ⟨bz, 0, none⟩)]) L := .inr ⟨_, _, rfl, enters_of Tryz.func55 (by kernel_rfl) rfl, hq⟩
                exact hi.more (RecsT.stable _ _ _ _ _) (hr10.both HLS.out.st) (by unfold RecsT; ac_rfl)
              refine ⟨⟨_, .slice ao L.length cp, L, 1⟩, _, S3, (z, T) :: rs, rfl, rfl, .inr ⟨_, _, rfl⟩, (show 1 ≤ 201 by omega), ?_, HLS.out.more hM hin HG3.out hho, H19.out⟩
              exact NdOk.mk2 hstr (fun _ _ h => row_want h) rfl HFL.out.2.2.1 (Nat.le_refl _) (by have := HFL.out.2.1; omega)
          · rw [errV_pos ef hc3]
            have neqi := run_neq_iface_nil2 ⟨(ef c3).1, (ef c3).2, none⟩
            have H14 := Lib.hid h14
            clear h14 hc3 HSE
            (repeat' (first | (go_big_may; fail) | go_values | go_skip | go_guarded | go_step | go_upon | go_back | dsimp only))
            go_ret
            refine ⟨rfl, l, S3, rs, N, gv, wv, pv, by omega, ⟨HLS.out.st, HLS.out.fn, HLS.out.p, HLS.out.ok, HG3.out, HH3.out⟩, ?_⟩
            exact (H14.out.perm (show _ = Both (RowG tTx 1 (.slice ao L.length cp) L.length (strs L)) (Both (Both (CellT kn #[.int .i64 6, .int .i64 oa, .int .i64 ob, .slice av ss.length cv] tNode) (Both (CellT k5 #[d1.u] tStr) (CellT k8 #[d2.u] tStr))) (Both (CellT (k8 + 1) #[.nilFunc] tStr) (Both (WlI kx b l gv wv pv) (Both (StoreT b S3) N)))) by ac_rfl)).drop.drop.drop
        · rw [errV_pos ef hc2]
          have neqi := run_neq_iface_nil2 ⟨(ef c2).1, (ef c2).2, none⟩
          have H13 := Lib.hid h13
          clear h13 hc2 HAP
          (repeat' (first | (go_big_may; fail) | go_values | go_skip | go_guarded | go_step | go_upon | go_back | dsimp only))
          go_ret
          refine ⟨rfl, l, S2, rs, N, gv, wv, pv, by omega, ⟨HLS.out.st, HLS.out.fn, HLS.out.p, HLS.out.ok, HG2.out, HH2.out⟩, ?_⟩
          exact (H13.out.perm (show _ = Both (RowG tTx 1 (.slice ao L.length cp) L.length (strs L)) (Both (Both (CellT kn #[.int .i64 6, .int .i64 oa, .int .i64 ob, .slice av ss.length cv] tNode) (Both (CellT k5 #[d1.u] tStr) (CellT k8 #[d2.u] tStr))) (Both (CellT (k8 + 1) #[.nilFunc] tStr) (Both (WlI kx b l gv wv pv) (Both (StoreT b S2) N)))) by ac_rfl)).drop.drop.drop
      · rw [errV_pos ef hc1]
        have neqi := run_neq_iface_nil2 ⟨(ef c1).1, (ef c1).2, none⟩
        have H11 := Lib.hid h11
        clear h11 hc1 HCR x0 lkx
        (repeat' (first | (go_big_may; fail) | go_values | go_skip | go_guarded | go_step | go_upon | go_back | dsimp only))
        go_ret
        refine ⟨rfl, l, S1, rs, N, gv, wv, pv, by omega, ⟨HLS.out.st, HLS.out.fn, HLS.out.p, HLS.out.ok, HG1.out, HH1.out⟩, ?_⟩
        exact (H11.out.perm (show _ = Both (RowG tTx 1 (.slice ao L.length cp) L.length (strs L)) (Both (Both (CellT kn #[.int .i64 6, .int .i64 oa, .int .i64 ob, .slice av ss.length cv] tNode) (Both (CellT k5 #[d1.u] tStr) (CellT k8 #[d2.u] tStr))) (Both (CellT (k8 + 1) #[.nilFunc] tStr) (Both (WlI kx b l gv wv pv) (Both (StoreT b S1) N)))) by ac_rfl)).drop.drop.drop
    by_cases e7 : kk = 7
    · subst e7
      have hsc := sum_cat ss
      have hTl : (cat ss).length ≤ 12582912 := by omega
      have htx := fun (w' : World) (h : RdRow w' (.slice av ss.length cv) ss.length 1 (strs ss)) => texts_calls ss (.slice av ss.length cv) w' h (by omega) (k0 := 7) (a0 := oa) (b0 := ob) (by decide)
      obtain ⟨T, hT⟩ : ∃ T, cat ss = T := ⟨_, rfl⟩
      rw [hT] at htx hTl
      obtain ⟨L, hL⟩ : ∃ L, risB none (headsL T).1 = L := ⟨_, rfl⟩
      rw [hL] at htx
      clear hT hsc
      have hfl : T.length ≤ 12582912 ∧ L.length ≤ 12582912 ∧ RisesL L ∧ risB none (headsL T).1 = L := by
        have q1 := headsL_len T
        have q2 := risB_len none (headsL T).1
        have q3 := risB_rises none (headsL T).1
        rw [hL] at q2 q3
        exact ⟨hTl, by omega, q3, hL⟩
      have HFL := Lib.hid hfl
      have hs3 : Stable (Both (CellT kn #[.int .i64 7, .int .i64 oa, .int .i64 ob, .slice av ss.length cv] tNode) (Both (CellT k5 #[d1.u] tStr) (CellT k8 #[d2.u] tStr))) := (CellT.stable _ _ _).both ((CellT.stable _ _ _).both (CellT.stable _ _ _))
      have h9 : At W w9 (Both (Both (CellT kn #[.int .i64 7, .int .i64 oa, .int .i64 ob, .slice av ss.length cv] tNode) (Both (CellT k5 #[d1.u] tStr) (CellT k8 #[d2.u] tStr))) (Both (CellT (k8 + 1) #[.nilFunc] tStr) (Both (WlI kx b l gv wv pv) (Both (StoreT b S) N)))) := H9.out.perm (by unfold LocT; ac_rfl)
      have hs9 : Stable (Both (Both (CellT kn #[.int .i64 7, .int .i64 oa, .int .i64 ob, .slice av ss.length cv] tNode) (Both (CellT k5 #[d1.u] tStr) (CellT k8 #[d2.u] tStr))) (Both (CellT (k8 + 1) #[.nilFunc] tStr) (Both (WlI kx b l gv wv pv) (Both (StoreT b S) N)))) := hs3.both ((CellT.stable _ _ _).both hR9)
      have z1 := cell_at h9.toR.cell.1 1
      have z2 := cell_at h9.toR.cell.1 2
      simp only [List.getElem?_toArray, List.getElem?_cons_zero, List.getElem?_cons_succ] at z0 z1 z2 z3
      have HTX := Lib.hid (htx w9 (HV.out.below h9.below))
      have H8 := Lib.hid h9
      have HF := Lib.hid hF
      clear htx hfl h9 H9 hF hL hTl
      (repeat' (first | (go_big_may; fail) | go_values | go_skip | go_guarded | go_step | go_upon | go_back | dsimp only))
      refine HTX.out.mono ?_
      rintro e w10 ⟨v10, rfl, ho10, hb10⟩
      obtain ⟨ao, cp, rfl, _, _⟩ := own_shape ho10
      have hr10 := RowG.stable tTx 1 (.slice ao L.length cp) L.length (strs L)
      have h10 := (H8.out.newRowG hs9 hb10 ho10).perm (show _ = Both (StoreT b S) (Both (RowG tTx 1 (.slice ao L.length cp) L.length (strs L)) (Both (Both (CellT kn #[.int .i64 7, .int .i64 oa, .int .i64 ob, .slice av ss.length cv] tNode) (Both (CellT k5 #[d1.u] tStr) (CellT k8 #[d2.u] tStr))) (Both (CellT (k8 + 1) #[.nilFunc] tStr) (Both (WlI kx b l gv wv pv) N)))) by ac_rfl)
      have hsR := hr10.both (hs3.both ((CellT.stable (k8 + 1) #[.nilFunc] tStr).both ((WlI.stable kx b l gv wv pv).both HLS.out.st)))
      have x0 := cell_at h10.drop.drop.drop.drop.toR.cell.1 0
      simp only [List.getElem?_toArray, List.getElem?_cons_zero, List.getElem?_cons_succ] at x0
      have lkx := lt_of_heap h10.drop.drop.drop.drop.toR.cell.1
      have hcr := Create_7 h10 hsR (fails10_7 HF.out)
      have hz := create_z HLS.out.good
      have hmh := made_has (S := S) (T := T) (z := (createP S).2.1) HLS.out.good rfl
      have hcg := HLS.out.good.create
      have hch := HLS.out.holds.create
      obtain ⟨P, hP⟩ : ∃ P, createP S = P := ⟨_, rfl⟩
      rw [hP] at hcr hz hmh hcg hch
      obtain ⟨S1, z, c1⟩ := P
      dsimp only at hcr hz hmh hcg hch
      have HCR := Lib.hid hcr
      have HZ := Lib.hid hz
      have HMH := Lib.hid hmh
      have HG1 := Lib.hid hcg
      have HH1 := Lib.hid hch
      clear hcr hz hmh hcg hch hP h10 ho10 hb10 HTX z0 z1 z2 z3
      (repeat' (first | (go_big_may; fail) | go_values | go_skip | go_guarded | go_step | go_upon | go_back | dsimp only))
      refine HCR.out.mono ?_
      rintro e w11 ⟨rfl, h11⟩
      by_cases hc1 : c1 = 0
      · subst hc1
        rw [errV_zero]
        have hz1 : inI64 z := by have := HZ.out rfl; unfold inI64; omega
        have neqn : ∀ wz : World, (binOp .neq tErr .nilIface .nilIface).run Tryz.prog wz = .ok (.bool false) wz := fun wz => neq_nil wz
        have x1 := cell_at h11.drop.drop.drop.drop.toR.cell.1 0
        simp only [List.getElem?_toArray, List.getElem?_cons_zero, List.getElem?_cons_succ] at x1
        have lkx1 := lt_of_heap h11.drop.drop.drop.drop.toR.cell.1
        have hbs : b < w11.heap.size := by
          obtain ⟨mb, blk, val, q1, _⟩ := h11.store
          exact q1.lt b (by simp [fpS])
        have h12 := h11.alloc ((StoreT.stable b S1).both hsR) (.cells #[.string ⟨T.toArray⟩] tTx)
        have hv2 : ∀ w', Upd [b] (w11.alloc (.cells #[.string ⟨T.toArray⟩] tTx)) w' → RdRow w' (.slice (some ⟨w11.heap.size, 0, none⟩) 1 1) [T].length 1 (strs [T]) := fun w' hu => by
          refine ⟨rfl, _, 1, rfl, Nat.le_refl _, by simp [maxLen], fun j u hj => ?_⟩
          have hb := hu.block w11.heap.size (by simp) (by simp; omega)
          match j with
          | 0 =>
            simp at hj
            subst hj
            refine ⟨_, _, rfl, ?_⟩
            exact cell_at (hb.trans (heap_alloc_new w11 (.cells #[.string ⟨T.toArray⟩] tTx))) 0
          | j + 1 => simp at hj
        have hap := Append_7 h12 hsR (fails10_7 HF.out) (z := (z : Int)) hz1 HG1.out.le hv2 (by rw [cat_one]; have := HFL.out.1; omega)
        rw [cat_one] at hap
        have hga := HG1.out.append z T
        have hha := HH1.out.append z T
        have hmh := HMH.out rfl
        obtain ⟨P, hP⟩ : ∃ P, appendP S1 z T = P := ⟨_, rfl⟩
        rw [hP] at hap hga hha hmh
        obtain ⟨S2, c2⟩ := P
        dsimp only at hap hga hha hmh
        have HAP := Lib.hid hap
        have HG2 := Lib.hid hga
        have HH2 := Lib.hid hha
        have HM2 := Lib.hid hmh
        clear hap hga hha hmh hP h11 h12 hv2 HCR x0 lkx
        (repeat' (first | (go_big_may; fail) | go_values | go_skip | go_guarded | go_step | go_upon | go_back | dsimp only))
        refine HAP.out.mono ?_
        rintro e w12 ⟨rfl, h13⟩
        clear x1 lkx1 hbs
        by_cases hc2 : c2 = 0
        · subst hc2
          rw [errV_zero]
          have x2 := cell_at h13.drop.drop.drop.drop.toR.cell.1 0
          simp only [List.getElem?_toArray, List.getElem?_cons_zero, List.getElem?_cons_succ] at x2
          have lkx2 := lt_of_heap h13.drop.drop.drop.drop.toR.cell.1
          have hse := Seal_7 h13 hsR (fails10_7 HF.out) (z := (z : Int)) hz1
          have hgs := HG2.out.seal z
          have hhs := HH2.out.seal z
          have hmh := HM2.out rfl
          obtain ⟨P, hP⟩ : ∃ P, sealP S2 z = P := ⟨_, rfl⟩
          rw [hP] at hse hgs hhs hmh
          obtain ⟨S3, c3⟩ := P
          dsimp only at hse hgs hhs hmh
          have HSE := Lib.hid hse
          have HG3 := Lib.hid hgs
          have HH3 := Lib.hid hhs
          have HM3 := Lib.hid hmh
          clear hse hgs hhs hmh hP h13 HAP
          (repeat' (first | (go_big_may; fail) | go_values | go_skip | go_guarded | go_step | go_upon | go_back | dsimp only))
          refine HSE.out.mono ?_
          rintro e w13 ⟨rfl, h14⟩
          clear x2 lkx2
          by_cases hc3 : c3 = 0
          · subst hc3
            rw [errV_zero]
            have hT := HM3.out rfl
            have x3 := cell_at h14.drop.drop.drop.drop.toR.cell.1 0
            simp only [List.getElem?_toArray, List.getElem?_cons_zero, List.getElem?_cons_succ] at x3
            have lkx3 := lt_of_heap h14.drop.drop.drop.drop.toR.cell.1
            have HRO := Lib.hid (Records_ok h14 hsR HF.out (z := z) hT hz1)
            have HT := Lib.hid hT
            clear hT h14 HSE
            (repeat' (first | (go_big_may; fail) | go_values | go_skip | go_guarded | go_step | go_upon | go_back | dsimp only))
            refine HRO.out.mono ?_
            rintro e w14 ⟨bs, bz, rfl, h15⟩
            have hst15 := (CellT.stable bs #[.pointer (some ⟨b, 0, none⟩)] tSpt).both ((CellT.stable bz #[.int .i64 z] tInt).both ((StoreT.stable b S3).both hsR))
            have h16 := h15.newCell hst15 #[.func (.func 55) #[] #[.pointer (some ⟨bs, 0, none⟩), .pointer (some ⟨bz, 0, none⟩)]] tStr
            have h17 := h16.perm (show _ = Both (CellT (k8 + 1) #[.nilFunc] tStr) (Both (CellT w14.heap.size #[.func (.func 55) #[] #[.pointer (some ⟨bs, 0, none⟩), .pointer (some ⟨bz, 0, none⟩)]] tStr) (Both (Both (CellT kn #[.int .i64 7, .int .i64 oa, .int .i64 ob, .slice av ss.length cv] tNode) (Both (CellT k5 #[d1.u] tStr) (CellT k8 #[d2.u] tStr))) (Both (Both (RowG tTx 1 (.slice ao L.length cp) L.length (strs L)) (Both (CellT bs #[.pointer (some ⟨b, 0, none⟩)] tSpt) (CellT bz #[.int .i64 z] tInt))) (Both (WlI kx b l gv wv pv) (Both (StoreT b S3) N))))) by ac_rfl)
            have c17 := h17.cellF (o := 0) (u := .nilFunc) rfl
            have c17a := c17.1
            have c17b := c17.2.1
            have c18 := (h17.drop.cellF (o := 0) (u := .func (.func 55) #[] #[.pointer (some ⟨bs, 0, none⟩), .pointer (some ⟨bz, 0, none⟩)]) rfl).1
            have l17 := lt_of_heap h17.cell.1
            have hM : Stable (Both (RowG tTx 1 (.slice ao L.length cp) L.length (strs L)) (Both (CellT bs #[.pointer (some ⟨b, 0, none⟩)] tSpt) (CellT bz #[.int .i64 z] tInt))) := hr10.both ((CellT.stable _ _ _).both (CellT.stable _ _ _))
            have hs17 := (CellT.stable w14.heap.size #[.func (.func 55) #[] #[.pointer (some ⟨bs, 0, none⟩), .pointer (some ⟨bz, 0, none⟩)]] tStr).both (hs3.both (hM.both ((WlI.stable kx b l gv wv pv).both ((StoreT.stable b S3).both HLS.out.st))))
            have h18 := h17.setCell hs17 0 (.func (.func 55) #[] #[.pointer (some ⟨bs, 0, none⟩), .pointer (some ⟨bz, 0, none⟩)])
            have h19 := (h18.perm (show Both (CellT (k8 + 1) #[.func (.func 55) #[] #[.pointer (some ⟨bs, 0, none⟩), .pointer (some ⟨bz, 0, none⟩)]] tStr) _ = Both (CellT w14.heap.size #[.func (.func 55) #[] #[.pointer (some ⟨bs, 0, none⟩), .pointer (some ⟨bz, 0, none⟩)]] tStr) (Both (LocT kn k5 k8 (k8 + 1) #[.int .i64 7, .int .i64 oa, .int .i64 ob, .slice av ss.length cv] d1.u d2.u (.func (.func 55) #[] #[.pointer (some ⟨bs, 0, none⟩), .pointer (some ⟨bz, 0, none⟩)])) (Both (WlI kx b l gv wv pv) (Both (StoreT b S3) (Both (Both (RowG tTx 1 (.slice ao L.length cp) L.length (strs L)) (Both (CellT bs #[.pointer (some ⟨b, 0, none⟩)] tSpt) (CellT bz #[.int .i64 z] tInt))) N)))) by unfold LocT; ac_rfl)).drop
            have H19 := Lib.hid h19
            clear h15 h16 h17 h18 h19 c17 HRO x3 lkx3
            (repeat' (first | (go_big_may; fail) | go_values | go_skip | go_guarded | go_step | go_upon | go_back | dsimp only))
            refine HK.out _ _ ?_
            have hJ := HJ.out
            go_meet
            case rel =>
              have hin : ∀ q ∈ rs, q ∈ (z, T) :: rs := fun q hq => List.mem_cons_of_mem _ hq
              have hho : HoldsT S3 ((z, T) :: rs) := fun q hq => by
                rcases List.mem_cons.1 hq with rfl | hq
                · exact HT.out
                · exact HH3.out q hq
              have hstr : ∀ S', HoldsT S' ((z, T) :: rs) → IsStr W (Both (Both (Both (RowG tTx 1 (.slice ao L.length cp) L.length (strs L)) (Both (CellT bs #[.pointer (some ⟨b, 0, none⟩)] tSpt) (CellT bz #[.int .i64 z] tInt))) N) (StoreT b S')) (.func (.func 55) #[] #[.pointer (some ⟨bs, 0, none⟩), .pointer (some ⟨bz, 0, none⟩)]) L := fun S' hS' => by
                have hq := records1_seqs HF.out (hS' (z, T) (by simp)) hz1 (by have := HFL.out.1; dsimp only; omega) bs bz b
                rw [HFL.out.2.2.2] at hq
                have hi : IsStr W (RecsT bs bz b z S') (.func (.func 55) #[] #[.pointer (some ⟨bs, 0, none⟩), .pointer (some ⟨bz, 0, none⟩)]) L := .inr ⟨_, _, rfl, enters_of Tryz.func55 (by kernel_rfl) rfl, hq⟩
                exact hi.more (RecsT.stable _ _ _ _ _) (hr10.both HLS.out.st) (by unfold RecsT; ac_rfl)
              refine ⟨⟨_, .slice ao L.length cp, L, 1⟩, _, S3, (z, T) :: rs, rfl, rfl, .inr ⟨_, _, rfl⟩, (show 1 ≤ 201 by omega), ?_, HLS.out.more hM hin HG3.out hho, H19.out⟩
              exact NdOk.mk2 hstr (fun _ _ h => row_want h) rfl HFL.out.2.2.1 (Nat.le_refl _) (by have := HFL.out.2.1; omega)
          · rw [errV_pos ef hc3]
            have neqi := run_neq_iface_nil2 ⟨(ef c3).1, (ef c3).2, none⟩
            have H14 := Lib.hid h14
            clear h14 hc3 HSE
            (repeat' (first | (go_big_may; fail) | go_values | go_skip | go_guarded | go_step | go_upon | go_back | dsimp only))
            go_ret
            refine ⟨rfl, l, S3, rs, N, gv, wv, pv, by omega, ⟨HLS.out.st, HLS.out.fn, HLS.out.p, HLS.out.ok, HG3.out, HH3.out⟩, ?_⟩
            exact (H14.out.perm (show _ = Both (RowG tTx 1 (.slice ao L.length cp) L.length (strs L)) (Both (Both (CellT kn #[.int .i64 7, .int .i64 oa, .int .i64 ob, .slice av ss.length cv] tNode) (Both (CellT k5 #[d1.u] tStr) (CellT k8 #[d2.u] tStr))) (Both (CellT (k8 + 1) #[.nilFunc] tStr) (Both (WlI kx b l gv wv pv) (Both (StoreT b S3) N)))) by ac_rfl)).drop.drop.drop
        · rw [errV_pos ef hc2]
          have neqi := run_neq_iface_nil2 ⟨(ef c2).1, (ef c2).2, none⟩
          have H13 := Lib.hid h13
          clear h13 hc2 HAP
          (repeat' (first | (go_big_may; fail) | go_values | go_skip | go_guarded | go_step | go_upon | go_back | dsimp only))
          go_ret
          refine ⟨rfl, l, S2, rs, N, gv, wv, pv, by omega, ⟨HLS.out.st, HLS.out.fn, HLS.out.p, HLS.out.ok, HG2.out, HH2.out⟩, ?_⟩
          exact (H13.out.perm (show _ = Both (RowG tTx 1 (.slice ao L.length cp) L.length (strs L)) (Both (Both (CellT kn #[.int .i64 7, .int .i64 oa, .int .i64 ob, .slice av ss.length cv] tNode) (Both (CellT k5 #[d1.u] tStr) (CellT k8 #[d2.u] tStr))) (Both (CellT (k8 + 1) #[.nilFunc] tStr) (Both (WlI kx b l gv wv pv) (Both (StoreT b S2) N)))) by ac_rfl)).drop.drop.drop
      · rw [errV_pos ef hc1]
        have neqi := run_neq_iface_nil2 ⟨(ef c1).1, (ef c1).2, none⟩
        have H11 := Lib.hid h11
        clear h11 hc1 HCR x0 lkx
        (repeat' (first | (go_big_may; fail) | go_values | go_skip | go_guarded | go_step | go_upon | go_back | dsimp only))
        go_ret
        refine ⟨rfl, l, S1, rs, N, gv, wv, pv, by omega, ⟨HLS.out.st, HLS.out.fn, HLS.out.p, HLS.out.ok, HG1.out, HH1.out⟩, ?_⟩
        exact (H11.out.perm (show _ = Both (RowG tTx 1 (.slice ao L.length cp) L.length (strs L)) (Both (Both (CellT kn #[.int .i64 7, .int .i64 oa, .int .i64 ob, .slice av ss.length cv] tNode) (Both (CellT k5 #[d1.u] tStr) (CellT k8 #[d2.u] tStr))) (Both (CellT (k8 + 1) #[.nilFunc] tStr) (Both (WlI kx b l gv wv pv) (Both (StoreT b S1) N)))) by ac_rfl)).drop.drop.drop
    have kb1 : (kk == 1) = false := beq_eq_false_iff_ne.2 e1
    have kb2 : (kk == 2) = false := beq_eq_false_iff_ne.2 e2
    have kb3 : (kk == 3) = false := beq_eq_false_iff_ne.2 e3
    have kb4 : (kk == 4) = false := beq_eq_false_iff_ne.2 e4
    have kb5 : (kk == 5) = false := beq_eq_false_iff_ne.2 e5
    have kb6 : (kk == 6) = false := beq_eq_false_iff_ne.2 e6
    have kb7 : (kk == 7) = false := beq_eq_false_iff_ne.2 e7
    clear e1 e2 e3 e4 e5 e6 e7
    (repeat' (first | (go_big_may; fail) | go_values | go_skip | go_guarded | go_step | go_upon | go_back | dsimp only))
    refine HK.out _ _ ?_
    have hJ := HJ.out
    go_meet
    case rel => exact ⟨Nd.zero, N, S, rs, rfl, rfl, .inl rfl, by simp [Nd.zero], NdOk.zero, HLS.out, H9.out⟩
  case rest =>
    obtain ⟨d, N', S', rs', rfl, rfl, hfn, hp, hnd, hls, h10⟩ := hcut
    have HLS2 := Lib.hid hls
    have HND := Lib.hid hnd
    have HFN := Lib.hid hfn
    have H10 := Lib.hid h10
    clear hls hnd hfn h10 HLS H9 HV HS1 HS2
    go_upto_if 150 with (fail)
    go_cut [12, 13] (fun v12 v13 wx => ∃ (d : Nd), v12 = d.wv ∧ v13 = .int .i64 d.p ∧ FnV d.u ∧ d.p ≤ 100 ∧ NdOk W b rs' N' d ∧ At W wx (Both (LocT kn k5 k8 (k8 + 1) #[.int .i64 kk, .int .i64 oa, .int .i64 ob, .slice av ss.length cv] d1.u d2.u d.u) (Both (WlI kx b l gv wv pv) (Both (StoreT b S') N'))))
    case first =>
      refine wp_norm ?_
      rename_i J K' hJ hK
      have HJ := Lib.hid hJ
      have HK := Lib.hid hK
      clear hJ hK
      by_cases hgt : 100 < d.p
      · have hgI : (100 : Int) < (d.p : Int) := by omega
        have h11 : At W wc (Both (CellT (k8 + 1) #[d.u] tStr) (Both (CellT kn #[.int .i64 kk, .int .i64 oa, .int .i64 ob, .slice av ss.length cv] tNode) (Both (CellT k5 #[d1.u] tStr) (Both (CellT k8 #[d2.u] tStr) (Both (WlI kx b l gv wv pv) (Both (StoreT b S') N')))))) := H10.out.perm (by unfold LocT; ac_rfl)
        have c11 := h11.cellF (o := 0) (u := d.u) rfl
        have c11a := c11.1
        have c11b := c11.2.1
        have hR11 := (CellT.stable kn #[.int .i64 kk, .int .i64 oa, .int .i64 ob, .slice av ss.length cv] tNode).both ((CellT.stable k5 #[d1.u] tStr).both ((CellT.stable k8 #[d2.u] tStr).both ((WlI.stable kx b l gv wv pv).both ((StoreT.stable b S').both HLS2.out.st))))
        have h12 := h11.setCell hR11 0 .nilFunc
        have H12 := Lib.hid (h12.perm (show Both (CellT (k8 + 1) #[.nilFunc] tStr) _ = (Both (LocT kn k5 k8 (k8 + 1) #[.int .i64 kk, .int .i64 oa, .int .i64 ob, .slice av ss.length cv] d1.u d2.u .nilFunc) (Both (WlI kx b l gv wv pv) (Both (StoreT b S') N'))) by unfold LocT; ac_rfl))
        clear h11 h12 c11 hgt hp
        (repeat' (first | (go_big_may; fail) | go_values | go_skip | go_guarded | go_step | go_upon | go_back | dsimp only))
        refine HK.out _ _ ?_
        have hJ := HJ.out
        go_meet
        case rel => exact ⟨Nd.zero, rfl, rfl, .inl rfl, by simp [Nd.zero], NdOk.zero, H12.out⟩
      · have hgI : ¬ (100 : Int) < (d.p : Int) := by omega
        (repeat' (first | (go_big_may; fail) | go_values | go_skip | go_guarded | go_step | go_upon | go_back | dsimp only))
        refine HK.out _ _ ?_
        have hJ := HJ.out
        go_meet
        case rel => exact ⟨d, rfl, rfl, HFN.out, by omega, HND.out, H10.out⟩
    case rest =>
      clear HND HFN H10 hp
      obtain ⟨d, rfl, rfl, hfn, hp, hnd, h10⟩ := hcut
      have hfo := hfn.one
      have hsh := (hnd.want wc (Both (StoreT b S') (Both (LocT kn k5 k8 (k8 + 1) #[.int .i64 kk, .int .i64 oa, .int .i64 ob, .slice av ss.length cv] d1.u d2.u d.u) (WlI kx b l gv wv pv))) (h10.perm (by ac_rfl))).shape
      obtain ⟨du, dwv, dL, dp⟩ := d
      obtain ⟨da, dc, hdv, _, _⟩ := hsh
      dsimp only at hdv hp hfo h10
      subst hdv
      obtain ⟨R0, hR0⟩ : ∃ R0, Both (CellT kn #[.int .i64 kk, .int .i64 oa, .int .i64 ob, .slice av ss.length cv] tNode) (Both (CellT k5 #[d1.u] tStr) (Both (CellT k8 #[d2.u] tStr) (Both (StoreT b S') N'))) = R0 := ⟨_, rfl⟩
      have hR0s : Stable R0 := by rw [← hR0]; exact (CellT.stable _ _ _).both ((CellT.stable _ _ _).both ((CellT.stable _ _ _).both ((StoreT.stable _ _).both HLS2.out.st)))
      have h11 : At W wc (Both (CellT kx (wl8C b gv wv pv) tWl8) (Both (CellT (k8 + 1) #[du] tStr) (Both (RowG tStr 1 gv l.length (l.map Nd.u)) (Both (RowG tTxs 1 wv l.length (l.map Nd.wv)) (Both (RowG tInt 1 pv l.length (wps l)) R0))))) := h10.perm (by rw [← hR0]; unfold LocT WlI; ac_rfl)
      have HND := Lib.hid hnd
      have HFN := Lib.hid hfn
      have HR0 := Lib.hid hR0
      have hst11 := (CellT.stable kx (wl8C b gv wv pv) tWl8).both ((CellT.stable (k8 + 1) #[du] tStr).both ((RowG.stable tStr 1 gv l.length (l.map Nd.u)).both ((RowG.stable tTxs 1 wv l.length (l.map Nd.wv)).both ((RowG.stable tInt 1 pv l.length (wps l)).both hR0s))))
      have h12 := h11.drew hst11
      clear hR0 hnd hfn h10 h11
      go_upto_region 27 with (fail)
      go_cut [4] (fun v4 wx => ∃ ao1 cp1 ao2 cp2 ao3 cp3, At W wx (Both (CellT kx (wl8C b (.slice ao1 (l.length + 1) cp1) (.slice ao2 (l.length + 1) cp2) (.slice ao3 (l.length + 1) cp3)) tWl8) (Both (RowG tStr 1 (.slice ao1 (l.length + 1) cp1) (l.length + 1) ((l.map Nd.u) ++ [du])) (Both (RowG tTxs 1 (.slice ao2 (l.length + 1) cp2) (l.length + 1) ((l.map Nd.wv) ++ [.slice da dL.length dc])) (Both (RowG tInt 1 (.slice ao3 (l.length + 1) cp3) (l.length + 1) ((wps l) ++ [.int .i64 dp])) R0)))))
      case first =>
        refine wp_only ?_
        rename_i J K' hJ hK
        have HJ := Lib.hid hJ
        have HK := Lib.hid hK
        clear hJ hK
        have hS9 := spS h12
        refine wpL.start (fun l wx => l.getD 26 true = false → (wx.cell? ⟨kx, 1, none⟩ = some gv ∧ wx.cell? ⟨kx, 2, none⟩ = some wv ∧ wx.cell? ⟨kx, 3, none⟩ = some pv ∧ wx.cell? ⟨k8 + 1, 0, none⟩ = some du)) (by kernel_rfl) (fun _ => hS9) (fun hHeld => ?_)
        generalize wc.drew = w12 at *
        refine wpL.take (i := 0) (v := ?_) rfl (by kernel_rfl) (by kernel_rfl) (by kernel_rfl) (fun _ _ _ h => h) (fun l w => by (try dsimp only); rw [getD_set_ne true (show 0 ≠ 26 by decide)]) (Or.inl ⟨by rfl, ?_⟩) hHeld (fun hH2 => ?_)
        rotate_left
        next => (intro w hSw; go_simp; (try with_reducible rfl))
        clear hHeld
        have hHeld := hH2
        clear hH2
        (try simp only [List.getElem_toArray, List.getElem_cons_zero, List.getElem_cons_succ, Act.put, List.setIfInBounds_toArray, List.set_cons_zero, List.set_cons_succ])
        refine wpL.take (i := 1) (v := ?_) rfl (by kernel_rfl) (by kernel_rfl) (by kernel_rfl) (fun _ _ _ h => h) (fun l w => by (try dsimp only); rw [getD_set_ne true (show 1 ≠ 26 by decide)]) (Or.inl ⟨by rfl, ?_⟩) hHeld (fun hH2 => ?_)
        rotate_left
        next => (intro w hSw; go_simp; (try with_reducible rfl))
        clear hHeld
        have hHeld := hH2
        clear hH2
        (try simp only [List.getElem_toArray, List.getElem_cons_zero, List.getElem_cons_succ, Act.put, List.setIfInBounds_toArray, List.set_cons_zero, List.set_cons_succ])
        refine wpL.take (i := 2) (v := ?_) rfl (by kernel_rfl) (by kernel_rfl) (by kernel_rfl) (fun _ _ _ h => h) (fun l w => by (try dsimp only); rw [getD_set_ne true (show 2 ≠ 26 by decide)]) (Or.inl ⟨by rfl, ?_⟩) hHeld (fun hH2 => ?_)
        rotate_left
        next => (intro w hSw; go_simp; (try with_reducible rfl))
        clear hHeld
        have hHeld := hH2
        clear hH2
        (try simp only [List.getElem_toArray, List.getElem_cons_zero, List.getElem_cons_succ, Act.put, List.setIfInBounds_toArray, List.set_cons_zero, List.set_cons_succ])
        refine wpL.take (i := 3) (v := ?_) rfl (by kernel_rfl) (by kernel_rfl) (by kernel_rfl) (fun _ _ _ h => h) (fun l w => by (try dsimp only); rw [getD_set_ne true (show 3 ≠ 26 by decide)]) (Or.inl ⟨by rfl, ?_⟩) hHeld (fun hH2 => ?_)
        rotate_left
        next => (intro w hSw; go_simp; (try with_reducible rfl))
        clear hHeld
        have hHeld := hH2
        clear hH2
        (try simp only [List.getElem_toArray, List.getElem_cons_zero, List.getElem_cons_succ, Act.put, List.setIfInBounds_toArray, List.set_cons_zero, List.set_cons_succ])
        refine wpL.take (i := 4) (v := ?_) rfl (by kernel_rfl) (by kernel_rfl) (by kernel_rfl) (fun _ _ _ h => h) (fun l w => by (try dsimp only); rw [getD_set_ne true (show 4 ≠ 26 by decide)]) (Or.inl ⟨by rfl, ?_⟩) hHeld (fun hH2 => ?_)
        rotate_left
        next => (intro w hSw; go_simp; (try with_reducible rfl))
        clear hHeld
        have hHeld := hH2
        clear hH2
        (try simp only [List.getElem_toArray, List.getElem_cons_zero, List.getElem_cons_succ, Act.put, List.setIfInBounds_toArray, List.set_cons_zero, List.set_cons_succ])
        refine wpL.take (i := 5) (v := ?_) rfl (by kernel_rfl) (by kernel_rfl) (by kernel_rfl) (fun _ _ _ h => h) (fun l w => by (try dsimp only); rw [getD_set_ne true (show 5 ≠ 26 by decide)]) (Or.inl ⟨by rfl, ?_⟩) hHeld (fun hH2 => ?_)
        rotate_left
        next => (intro w hSw; go_simp; (try with_reducible rfl))
        clear hHeld
        have hHeld := hH2
        clear hH2
        (try simp only [List.getElem_toArray, List.getElem_cons_zero, List.getElem_cons_succ, Act.put, List.setIfInBounds_toArray, List.set_cons_zero, List.set_cons_succ])
        refine wpL.takeG (i := 6) (g := 26) (v := ?_) (T := fun wx => wx.cell? ⟨kx, 1, none⟩ = some gv) rfl rfl (by kernel_rfl) (by kernel_rfl) (by kernel_rfl) (by kernel_rfl) (by kernel_rfl) (fun _ _ _ h => h) (fun l w hl hS => (hS hl).1) (fun l w => by (try dsimp only); rw [getD_set_ne true (show 6 ≠ 26 by decide)]) (Or.inl ⟨by rfl, ?_⟩) hHeld (fun hH2 => ?_)
        rotate_left
        next => (intro w hSw; (try dsimp only at hSw); go_simp; (try with_reducible rfl))
        clear hHeld
        have hHeld := hH2
        clear hH2
        (try simp only [List.getElem_toArray, List.getElem_cons_zero, List.getElem_cons_succ, Act.put, List.setIfInBounds_toArray, List.set_cons_zero, List.set_cons_succ])
        refine wpL.takeG (i := 7) (g := 26) (v := ?_) (T := fun wx => wx.cell? ⟨k8 + 1, 0, none⟩ = some du) rfl rfl (by kernel_rfl) (by kernel_rfl) (by kernel_rfl) (by kernel_rfl) (by kernel_rfl) (fun _ _ _ h => h) (fun l w hl hS => (hS hl).2.2.2) (fun l w => by (try dsimp only); rw [getD_set_ne true (show 7 ≠ 26 by decide)]) (Or.inl ⟨by rfl, ?_⟩) hHeld (fun hH2 => ?_)
        rotate_left
        next => (intro w hSw; (try dsimp only at hSw); go_simp; (try with_reducible rfl))
        clear hHeld
        have hHeld := hH2
        clear hH2
        (try simp only [List.getElem_toArray, List.getElem_cons_zero, List.getElem_cons_succ, Act.put, List.setIfInBounds_toArray, List.set_cons_zero, List.set_cons_succ])
        refine wpL.take (i := 10) (v := ?_) rfl (by kernel_rfl) (by kernel_rfl) (by kernel_rfl) (fun _ _ _ h => h) (fun l w => by (try dsimp only); rw [getD_set_ne true (show 10 ≠ 26 by decide)]) (Or.inl ⟨by rfl, ?_⟩) hHeld (fun hH2 => ?_)
        rotate_left
        next => (intro w hSw; go_simp; (try with_reducible rfl))
        clear hHeld
        have hHeld := hH2
        clear hH2
        (try simp only [List.getElem_toArray, List.getElem_cons_zero, List.getElem_cons_succ, Act.put, List.setIfInBounds_toArray, List.set_cons_zero, List.set_cons_succ])
        refine wpL.take (i := 11) (v := ?_) rfl (by kernel_rfl) (by kernel_rfl) (by kernel_rfl) (fun _ _ _ h => h) (fun l w => by (try dsimp only); rw [getD_set_ne true (show 11 ≠ 26 by decide)]) (Or.inl ⟨by rfl, ?_⟩) hHeld (fun hH2 => ?_)
        rotate_left
        next => (intro w hSw; go_simp; (try with_reducible rfl))
        clear hHeld
        have hHeld := hH2
        clear hH2
        (try simp only [List.getElem_toArray, List.getElem_cons_zero, List.getElem_cons_succ, Act.put, List.setIfInBounds_toArray, List.set_cons_zero, List.set_cons_succ])
        refine wpL.take (i := 12) (v := ?_) rfl (by kernel_rfl) (by kernel_rfl) (by kernel_rfl) (fun _ _ _ h => h) (fun l w => by (try dsimp only); rw [getD_set_ne true (show 12 ≠ 26 by decide)]) (Or.inl ⟨by rfl, ?_⟩) hHeld (fun hH2 => ?_)
        rotate_left
        next => (intro w hSw; go_simp; (try with_reducible rfl))
        clear hHeld
        have hHeld := hH2
        clear hH2
        (try simp only [List.getElem_toArray, List.getElem_cons_zero, List.getElem_cons_succ, Act.put, List.setIfInBounds_toArray, List.set_cons_zero, List.set_cons_succ])
        refine wpL.takeG (i := 13) (g := 26) (v := ?_) (T := fun wx => wx.cell? ⟨kx, 2, none⟩ = some wv) rfl rfl (by kernel_rfl) (by kernel_rfl) (by kernel_rfl) (by kernel_rfl) (by kernel_rfl) (fun _ _ _ h => h) (fun l w hl hS => (hS hl).2.1) (fun l w => by (try dsimp only); rw [getD_set_ne true (show 13 ≠ 26 by decide)]) (Or.inl ⟨by rfl, ?_⟩) hHeld (fun hH2 => ?_)
        rotate_left
        next => (intro w hSw; (try dsimp only at hSw); go_simp; (try with_reducible rfl))
        clear hHeld
        have hHeld := hH2
        clear hH2
        (try simp only [List.getElem_toArray, List.getElem_cons_zero, List.getElem_cons_succ, Act.put, List.setIfInBounds_toArray, List.set_cons_zero, List.set_cons_succ])
        refine wpL.take (i := 14) (v := ?_) rfl (by kernel_rfl) (by kernel_rfl) (by kernel_rfl) (fun _ _ _ h => h) (fun l w => by (try dsimp only); rw [getD_set_ne true (show 14 ≠ 26 by decide)]) (Or.inl ⟨by rfl, ?_⟩) hHeld (fun hH2 => ?_)
        rotate_left
        next => (intro w hSw; go_simp; (try with_reducible rfl))
        clear hHeld
        have hHeld := hH2
        clear hH2
        (try simp only [List.getElem_toArray, List.getElem_cons_zero, List.getElem_cons_succ, Act.put, List.setIfInBounds_toArray, List.set_cons_zero, List.set_cons_succ])
        refine wpL.take (i := 17) (v := ?_) rfl (by kernel_rfl) (by kernel_rfl) (by kernel_rfl) (fun _ _ _ h => h) (fun l w => by (try dsimp only); rw [getD_set_ne true (show 17 ≠ 26 by decide)]) (Or.inl ⟨by rfl, ?_⟩) hHeld (fun hH2 => ?_)
        rotate_left
        next => (intro w hSw; go_simp; (try with_reducible rfl))
        clear hHeld
        have hHeld := hH2
        clear hH2
        (try simp only [List.getElem_toArray, List.getElem_cons_zero, List.getElem_cons_succ, Act.put, List.setIfInBounds_toArray, List.set_cons_zero, List.set_cons_succ])
        refine wpL.take (i := 18) (v := ?_) rfl (by kernel_rfl) (by kernel_rfl) (by kernel_rfl) (fun _ _ _ h => h) (fun l w => by (try dsimp only); rw [getD_set_ne true (show 18 ≠ 26 by decide)]) (Or.inl ⟨by rfl, ?_⟩) hHeld (fun hH2 => ?_)
        rotate_left
        next => (intro w hSw; go_simp; (try with_reducible rfl))
        clear hHeld
        have hHeld := hH2
        clear hH2
        (try simp only [List.getElem_toArray, List.getElem_cons_zero, List.getElem_cons_succ, Act.put, List.setIfInBounds_toArray, List.set_cons_zero, List.set_cons_succ])
        refine wpL.take (i := 19) (v := ?_) rfl (by kernel_rfl) (by kernel_rfl) (by kernel_rfl) (fun _ _ _ h => h) (fun l w => by (try dsimp only); rw [getD_set_ne true (show 19 ≠ 26 by decide)]) (Or.inl ⟨by rfl, ?_⟩) hHeld (fun hH2 => ?_)
        rotate_left
        next => (intro w hSw; go_simp; (try with_reducible rfl))
        clear hHeld
        have hHeld := hH2
        clear hH2
        (try simp only [List.getElem_toArray, List.getElem_cons_zero, List.getElem_cons_succ, Act.put, List.setIfInBounds_toArray, List.set_cons_zero, List.set_cons_succ])
        refine wpL.takeG (i := 20) (g := 26) (v := ?_) (T := fun wx => wx.cell? ⟨kx, 3, none⟩ = some pv) rfl rfl (by kernel_rfl) (by kernel_rfl) (by kernel_rfl) (by kernel_rfl) (by kernel_rfl) (fun _ _ _ h => h) (fun l w hl hS => (hS hl).2.2.1) (fun l w => by (try dsimp only); rw [getD_set_ne true (show 20 ≠ 26 by decide)]) (Or.inl ⟨by rfl, ?_⟩) hHeld (fun hH2 => ?_)
        rotate_left
        next => (intro w hSw; (try dsimp only at hSw); go_simp; (try with_reducible rfl))
        clear hHeld
        have hHeld := hH2
        clear hH2
        (try simp only [List.getElem_toArray, List.getElem_cons_zero, List.getElem_cons_succ, Act.put, List.setIfInBounds_toArray, List.set_cons_zero, List.set_cons_succ])
        refine wpL.take (i := 21) (v := ?_) rfl (by kernel_rfl) (by kernel_rfl) (by kernel_rfl) (fun _ _ _ h => h) (fun l w => by (try dsimp only); rw [getD_set_ne true (show 21 ≠ 26 by decide)]) (Or.inl ⟨by rfl, ?_⟩) hHeld (fun hH2 => ?_)
        rotate_left
        next => (intro w hSw; go_simp; (try with_reducible rfl))
        clear hHeld
        have hHeld := hH2
        clear hH2
        (try simp only [List.getElem_toArray, List.getElem_cons_zero, List.getElem_cons_succ, Act.put, List.setIfInBounds_toArray, List.set_cons_zero, List.set_cons_succ])
        refine wpL.via (ι := Nat × Nat × Nat × Option Addr × Nat × Option Addr × Nat × Option Addr × Nat) 9 (fun l => (((((l.setIfInBounds 8 true).setIfInBounds 15 true).setIfInBounds 22 true).setIfInBounds 9 true).setIfInBounds 16 true).setIfInBounds 23 true)
          (fun i A => (((((A.put (some 160) (.slice (some ⟨i.1, 0, none⟩) 1 1)).put (some 167) (.slice (some ⟨i.2.1, 0, none⟩) 1 1)).put (some 174) (.slice (some ⟨i.2.2.1, 0, none⟩) 1 1)).put (some 161) (.slice i.2.2.2.1 (l.length + 1) i.2.2.2.2.1)).put (some 168) (.slice i.2.2.2.2.2.1 (l.length + 1) i.2.2.2.2.2.2.1)).put (some 175) (.slice i.2.2.2.2.2.2.2.1 (l.length + 1) i.2.2.2.2.2.2.2.2))
          (fun i w' => At W w' (Both (CellT kx (wl8C b gv wv pv) tWl8) (Both (CellT (k8 + 1) #[du] tStr) (Both (RowG tStr 1 (.slice i.2.2.2.1 (l.length + 1) i.2.2.2.2.1) (l.length + 1) ((l.map Nd.u) ++ [du])) (Both (RowG tTxs 1 (.slice i.2.2.2.2.2.1 (l.length + 1) i.2.2.2.2.2.2.1) (l.length + 1) ((l.map Nd.wv) ++ [(.slice da dL.length dc)])) (Both (RowG tInt 1 (.slice i.2.2.2.2.2.2.2.1 (l.length + 1) i.2.2.2.2.2.2.2.2) (l.length + 1) ((wps l) ++ [(.int .i64 dp)])) (Both (CellT i.1 #[du] tStr) (Both (CellT i.2.1 #[.slice da dL.length dc] tTxs) (Both (CellT i.2.2.1 #[.int .i64 dp] tInt) R0))))))))) ?tail ?main
        case tail =>
          rintro ⟨g8, g15, g22, ao1, cp1, ao2, cp2, ao3, cp3⟩ w20 h20 hHeld
          dsimp only at h20 hHeld ⊢
          clear h12
          (try simp only [List.getElem_toArray, List.getElem_cons_zero, List.getElem_cons_succ, Act.put, List.setIfInBounds_toArray, List.set_cons_zero, List.set_cons_succ])
          have tf := thaw_at h20.cell.1
          have lk := lt_of_heap h20.cell.1
          have t1 := cell_at h20.cell.1 1
          have t2 := cell_at h20.cell.1 2
          have t3 := cell_at h20.cell.1 3
          simp only [List.getElem?_toArray, List.getElem?_cons_zero, List.getElem?_cons_succ] at t1 t2 t3
          refine wpL.ready (rs := [24]) (by kernel_rfl) (by simp) ?_
          refine AllL.cons rfl (fun K hK => ?_) AllL.nil
          go_simp
          refine hK.out _ _ ?_ (fun hH2 => ?_)
          next => (try dsimp only); exact (fun _ => spS h20)
          clear hK K hHeld
          have hHeld := hH2
          clear hH2
          (try simp only [List.getElem_toArray, List.getElem_cons_zero, List.getElem_cons_succ, Act.put, List.setIfInBounds_toArray, List.set_cons_zero, List.set_cons_succ])
          refine wpL.ready (rs := [25]) (by kernel_rfl) (by simp) ?_
          refine AllL.cons rfl (fun K hK => ?_) AllL.nil
          go_simp
          refine hK.out _ _ ?_ (fun hH2 => ?_)
          next => (try dsimp only); exact (fun _ => spS h20)
          clear hK K hHeld
          have hHeld := hH2
          clear hH2
          (try simp only [List.getElem_toArray, List.getElem_cons_zero, List.getElem_cons_succ, Act.put, List.setIfInBounds_toArray, List.set_cons_zero, List.set_cons_succ])
          refine wpL.ready (rs := [26]) (by kernel_rfl) (by simp) ?_
          refine AllL.cons rfl (fun K hK => ?_) AllL.nil
          go_simp
          refine hK.out _ _ ?_ (fun hH2 => ?_)
          next => (try dsimp only); exact (fun hl => lNo hl (by decide +kernel))
          clear hK K hHeld
          have hHeld := hH2
          clear hH2
          (try simp only [List.getElem_toArray, List.getElem_cons_zero, List.getElem_cons_succ, Act.put, List.setIfInBounds_toArray, List.set_cons_zero, List.set_cons_succ])
          refine wpL.ready (rs := [27]) (by kernel_rfl) (by simp) ?_
          refine AllL.cons rfl (fun K hK => ?_) AllL.nil
          go_simp
          refine hK.out _ _ ?_ (fun hH2 => ?_)
          next => (try dsimp only); exact (fun hl => lNo hl (by decide +kernel))
          clear hK K hHeld
          have hHeld := hH2
          clear hH2
          (try simp only [List.getElem_toArray, List.getElem_cons_zero, List.getElem_cons_succ, Act.put, List.setIfInBounds_toArray, List.set_cons_zero, List.set_cons_succ])
          refine wpL.ready (rs := [28]) (by kernel_rfl) (by simp) ?_
          refine AllL.cons rfl (fun K hK => ?_) AllL.nil
          go_simp
          refine hK.out _ _ ?_ (fun hH2 => ?_)
          next => (try dsimp only); exact (fun hl => lNo hl (by decide +kernel))
          clear hK K hHeld
          have hHeld := hH2
          clear hH2
          (try simp only [List.getElem_toArray, List.getElem_cons_zero, List.getElem_cons_succ, Act.put, List.setIfInBounds_toArray, List.set_cons_zero, List.set_cons_succ])
          refine wpL.ready (rs := [29]) (by kernel_rfl) (by simp) ?_
          refine AllL.cons rfl (fun K hK => ?_) AllL.nil
          go_simp
          refine hK.out _ _ ?_ (fun hH2 => ?_)
          next => (try dsimp only); exact (fun hl => lNo hl (by decide +kernel))
          clear hK K hHeld
          have hHeld := hH2
          clear hH2
          (try simp only [List.getElem_toArray, List.getElem_cons_zero, List.getElem_cons_succ, Act.put, List.setIfInBounds_toArray, List.set_cons_zero, List.set_cons_succ])
          refine wpL.ready (rs := [30]) (by kernel_rfl) (by simp) ?_
          refine AllL.cons rfl (fun K hK => ?_) AllL.nil
          go_simp
          refine hK.out _ _ ?_ (fun hH2 => ?_)
          next => (try dsimp only); exact (fun hl => lNo hl (by decide +kernel))
          clear hK K hHeld
          have hHeld := hH2
          clear hH2
          (try simp only [List.getElem_toArray, List.getElem_cons_zero, List.getElem_cons_succ, Act.put, List.setIfInBounds_toArray, List.set_cons_zero, List.set_cons_succ])
          refine wpL.ready (rs := [31]) (by kernel_rfl) (by simp) ?_
          refine AllL.cons rfl (fun K hK => ?_) AllL.nil
          go_simp
          refine hK.out _ _ ?_ (fun hH2 => ?_)
          next => (try dsimp only); exact (fun hl => lNo hl (by decide +kernel))
          clear hK K hHeld
          have hHeld := hH2
          clear hH2
          (try simp only [List.getElem_toArray, List.getElem_cons_zero, List.getElem_cons_succ, Act.put, List.setIfInBounds_toArray, List.set_cons_zero, List.set_cons_succ])
          refine wpL.ready (rs := [32]) (by kernel_rfl) (by simp) ?_
          refine AllL.cons rfl (fun K hK => ?_) AllL.nil
          go_simp
          refine hK.out _ _ ?_ (fun hH2 => ?_)
          next => (try dsimp only); exact (fun hl => lNo hl (by decide +kernel))
          clear hK K hHeld
          have hHeld := hH2
          clear hH2
          (try simp only [List.getElem_toArray, List.getElem_cons_zero, List.getElem_cons_succ, Act.put, List.setIfInBounds_toArray, List.set_cons_zero, List.set_cons_succ])
          refine wpL.done (by kernel_rfl) ?_ _
          have hRR := (CellT.stable (k8 + 1) #[du] tStr).both ((RowG.stable tStr 1 (.slice ao1 (l.length + 1) cp1) (l.length + 1) ((l.map Nd.u) ++ [du])).both ((RowG.stable tTxs 1 (.slice ao2 (l.length + 1) cp2) (l.length + 1) ((l.map Nd.wv) ++ [.slice da dL.length dc])).both ((RowG.stable tInt 1 (.slice ao3 (l.length + 1) cp3) (l.length + 1) ((wps l) ++ [.int .i64 dp])).both ((CellT.stable g8 #[du] tStr).both ((CellT.stable g15 #[.slice da dL.length dc] tTxs).both ((CellT.stable g22 #[.int .i64 dp] tInt).both hR0s))))))
          have z1 := ((h20.setCell hRR 1 (.slice ao1 (l.length + 1) cp1)).setCell hRR 2 (.slice ao2 (l.length + 1) cp2)).setCell hRR 3 (.slice ao3 (l.length + 1) cp3)
          have z2 := (z1.perm (show Both (CellT kx (wl8C b (.slice ao1 (l.length + 1) cp1) (.slice ao2 (l.length + 1) cp2) (.slice ao3 (l.length + 1) cp3)) tWl8) _ = Both (CellT (k8 + 1) #[du] tStr) (Both (CellT g8 #[du] tStr) (Both (CellT g15 #[.slice da dL.length dc] tTxs) (Both (CellT g22 #[.int .i64 dp] tInt) (Both (CellT kx (wl8C b (.slice ao1 (l.length + 1) cp1) (.slice ao2 (l.length + 1) cp2) (.slice ao3 (l.length + 1) cp3)) tWl8) (Both (RowG tStr 1 (.slice ao1 (l.length + 1) cp1) (l.length + 1) ((l.map Nd.u) ++ [du])) (Both (RowG tTxs 1 (.slice ao2 (l.length + 1) cp2) (l.length + 1) ((l.map Nd.wv) ++ [.slice da dL.length dc])) (Both (RowG tInt 1 (.slice ao3 (l.length + 1) cp3) (l.length + 1) ((wps l) ++ [.int .i64 dp])) R0))))))) by ac_rfl)).drop.drop.drop.drop
          refine HK.out _ _ ?_
          have hJ := HJ.out
          go_meet
          case rel => exact ⟨ao1, cp1, ao2, cp2, ao3, cp3, z2⟩
        case main =>
          intro hTail
          have HT := Lib.hid hTail
          clear hTail
          refine wpL.ready (rs := [8, 15, 22]) (by kernel_rfl) (by simp) ?_
          refine AllL.cons rfl (fun K hK => ?_) (AllL.cons rfl (fun K hK => ?_) (AllL.cons rfl (fun K hK => ?_) AllL.nil))
          · skip
            go_simp
            have e1 := h12.newCell ((CellT.stable _ _ _).both ((CellT.stable _ _ _).both ((RowG.stable _ _ _ _ _).both ((RowG.stable _ _ _ _ _).both ((RowG.stable _ _ _ _ _).both hR0s))))) #[du] tStr
            have h1 := e1.perm (show Both (CellT w12.heap.size #[du] tStr) _ = (Both (CellT kx (wl8C b gv wv pv) tWl8) (Both (CellT (k8 + 1) #[du] tStr) (Both (RowG tStr 1 gv l.length (l.map Nd.u)) (Both (RowG tTxs 1 wv l.length (l.map Nd.wv)) (Both (RowG tInt 1 pv l.length (wps l)) (Both (CellT w12.heap.size #[du] tStr) R0)))))) by ac_rfl)
            clear e1 h12
            generalize w12.heap.size = g8 at *
            generalize World.alloc _ _ = w1 at *
            refine hK.out _ _ ?_ (fun hH2 => ?_)
            next => (try dsimp only); exact fun _ => spS h1
            clear hK K hHeld
            have hHeld := hH2
            clear hH2
            (try simp only [List.getElem_toArray, List.getElem_cons_zero, List.getElem_cons_succ, Act.put, List.setIfInBounds_toArray, List.set_cons_zero, List.set_cons_succ])
            refine wpL.ready (rs := [9, 15, 22]) (by kernel_rfl) (by simp) ?_
            refine AllL.cons rfl (fun K hK => ?_) (AllL.cons rfl (fun K hK => ?_) (AllL.cons rfl (fun K hK => ?_) AllL.nil))
            · skip
              have e2 := h1.perm (show _ = Both (CellT g8 #[du] tStr) (Both (CellT kx (wl8C b gv wv pv) tWl8) (Both (CellT (k8 + 1) #[du] tStr) (Both (RowG tStr 1 gv l.length (l.map Nd.u)) (Both (RowG tTxs 1 wv l.length (l.map Nd.wv)) (Both (RowG tInt 1 pv l.length (wps l)) R0))))) by ac_rfl)
              have f2 := cell_at e2.cell.1 0
              refine step_append_ex rfl _ _ 26 rfl gv _ rfl rfl (append_cell_run (R := (Both (CellT kx (wl8C b gv wv pv) tWl8) (Both (CellT (k8 + 1) #[du] tStr) (Both (RowG tTxs 1 wv l.length (l.map Nd.wv)) (Both (RowG tInt 1 pv l.length (wps l)) (Both (CellT g8 #[du] tStr) R0)))))) (xs := (l.map Nd.u)) (u := du) 26 26 tStr Tryz.underlying26 info_St rfl (h1.perm (by ac_rfl)) ((CellT.stable _ _ _).both ((CellT.stable _ _ _).both ((RowG.stable _ _ _ _ _).both ((RowG.stable _ _ _ _ _).both ((CellT.stable _ _ _).both hR0s))))) f2 hfo (by unfold maxLen; omega) (by omega)) ?_
              rintro ao1 cp1 w2 ⟨q2, _⟩
              have h2 := q2.perm (show _ = (Both (CellT kx (wl8C b gv wv pv) tWl8) (Both (CellT (k8 + 1) #[du] tStr) (Both (RowG tStr 1 (.slice ao1 (l.length + 1) cp1) (l.length + 1) ((l.map Nd.u) ++ [du])) (Both (RowG tTxs 1 wv l.length (l.map Nd.wv)) (Both (RowG tInt 1 pv l.length (wps l)) (Both (CellT g8 #[du] tStr) R0)))))) by ac_rfl)
              clear e2 f2 q2 h1
              refine hK.out _ _ ?_ (fun hH2 => ?_)
              next => (try dsimp only); exact fun _ => spS h2
              clear hK K hHeld
              have hHeld := hH2
              clear hH2
              (try simp only [List.getElem_toArray, List.getElem_cons_zero, List.getElem_cons_succ, Act.put, List.setIfInBounds_toArray, List.set_cons_zero, List.set_cons_succ])
              refine wpL.ready (rs := [15, 22]) (by kernel_rfl) (by simp) ?_
              refine AllL.cons rfl (fun K hK => ?_) (AllL.cons rfl (fun K hK => ?_) AllL.nil)
              · skip
                go_simp
                have e3 := h2.newCell ((CellT.stable _ _ _).both ((CellT.stable _ _ _).both ((RowG.stable _ _ _ _ _).both ((RowG.stable _ _ _ _ _).both ((RowG.stable _ _ _ _ _).both ((CellT.stable _ _ _).both hR0s)))))) #[.slice da dL.length dc] tTxs
                have h3 := e3.perm (show Both (CellT w2.heap.size #[.slice da dL.length dc] tTxs) _ = (Both (CellT kx (wl8C b gv wv pv) tWl8) (Both (CellT (k8 + 1) #[du] tStr) (Both (RowG tStr 1 (.slice ao1 (l.length + 1) cp1) (l.length + 1) ((l.map Nd.u) ++ [du])) (Both (RowG tTxs 1 wv l.length (l.map Nd.wv)) (Both (RowG tInt 1 pv l.length (wps l)) (Both (CellT g8 #[du] tStr) (Both (CellT w2.heap.size #[.slice da dL.length dc] tTxs) R0))))))) by ac_rfl)
                clear e3 h2
                generalize w2.heap.size = g15 at *
                generalize World.alloc _ _ = w3 at *
                refine hK.out _ _ ?_ (fun hH2 => ?_)
                next => (try dsimp only); exact fun _ => spS h3
                clear hK K hHeld
                have hHeld := hH2
                clear hH2
                (try simp only [List.getElem_toArray, List.getElem_cons_zero, List.getElem_cons_succ, Act.put, List.setIfInBounds_toArray, List.set_cons_zero, List.set_cons_succ])
                refine wpL.ready (rs := [16, 22]) (by kernel_rfl) (by simp) ?_
                refine AllL.cons rfl (fun K hK => ?_) (AllL.cons rfl (fun K hK => ?_) AllL.nil)
                · skip
                  have e4 := h3.perm (show _ = Both (CellT g15 #[.slice da dL.length dc] tTxs) (Both (CellT kx (wl8C b gv wv pv) tWl8) (Both (CellT (k8 + 1) #[du] tStr) (Both (RowG tStr 1 (.slice ao1 (l.length + 1) cp1) (l.length + 1) ((l.map Nd.u) ++ [du])) (Both (RowG tTxs 1 wv l.length (l.map Nd.wv)) (Both (RowG tInt 1 pv l.length (wps l)) (Both (CellT g8 #[du] tStr) R0)))))) by ac_rfl)
                  have f4 := cell_at e4.cell.1 0
                  refine step_append_ex rfl _ _ 27 rfl wv _ rfl rfl (append_cell_run (R := (Both (CellT kx (wl8C b gv wv pv) tWl8) (Both (CellT (k8 + 1) #[du] tStr) (Both (RowG tStr 1 (.slice ao1 (l.length + 1) cp1) (l.length + 1) ((l.map Nd.u) ++ [du])) (Both (RowG tInt 1 pv l.length (wps l)) (Both (CellT g8 #[du] tStr) (Both (CellT g15 #[.slice da dL.length dc] tTxs) R0))))))) (xs := (l.map Nd.wv)) (u := (.slice da dL.length dc)) 27 27 tTxs Tryz.underlying27 info_TxsN rfl (h3.perm (by ac_rfl)) ((CellT.stable _ _ _).both ((CellT.stable _ _ _).both ((RowG.stable _ _ _ _ _).both ((RowG.stable _ _ _ _ _).both ((CellT.stable _ _ _).both ((CellT.stable _ _ _).both hR0s)))))) f4 rfl (by unfold maxLen; omega) (by omega)) ?_
                  rintro ao2 cp2 w4 ⟨q4, _⟩
                  have h4 := q4.perm (show _ = (Both (CellT kx (wl8C b gv wv pv) tWl8) (Both (CellT (k8 + 1) #[du] tStr) (Both (RowG tStr 1 (.slice ao1 (l.length + 1) cp1) (l.length + 1) ((l.map Nd.u) ++ [du])) (Both (RowG tTxs 1 (.slice ao2 (l.length + 1) cp2) (l.length + 1) ((l.map Nd.wv) ++ [(.slice da dL.length dc)])) (Both (RowG tInt 1 pv l.length (wps l)) (Both (CellT g8 #[du] tStr) (Both (CellT g15 #[.slice da dL.length dc] tTxs) R0))))))) by ac_rfl)
                  clear e4 f4 q4 h3
                  refine hK.out _ _ ?_ (fun hH2 => ?_)
                  next => (try dsimp only); exact fun _ => spS h4
                  clear hK K hHeld
                  have hHeld := hH2
                  clear hH2
                  (try simp only [List.getElem_toArray, List.getElem_cons_zero, List.getElem_cons_succ, Act.put, List.setIfInBounds_toArray, List.set_cons_zero, List.set_cons_succ])
                  refine wpL.ready (rs := [22]) (by kernel_rfl) (by simp) ?_
                  refine AllL.cons rfl (fun K hK => ?_) AllL.nil
                  go_simp
                  have e5 := h4.newCell ((CellT.stable _ _ _).both ((CellT.stable _ _ _).both ((RowG.stable _ _ _ _ _).both ((RowG.stable _ _ _ _ _).both ((RowG.stable _ _ _ _ _).both ((CellT.stable _ _ _).both ((CellT.stable _ _ _).both hR0s))))))) #[.int .i64 dp] tInt
                  have h5 := e5.perm (show Both (CellT w4.heap.size #[.int .i64 dp] tInt) _ = (Both (CellT kx (wl8C b gv wv pv) tWl8) (Both (CellT (k8 + 1) #[du] tStr) (Both (RowG tStr 1 (.slice ao1 (l.length + 1) cp1) (l.length + 1) ((l.map Nd.u) ++ [du])) (Both (RowG tTxs 1 (.slice ao2 (l.length + 1) cp2) (l.length + 1) ((l.map Nd.wv) ++ [(.slice da dL.length dc)])) (Both (RowG tInt 1 pv l.length (wps l)) (Both (CellT g8 #[du] tStr) (Both (CellT g15 #[.slice da dL.length dc] tTxs) (Both (CellT w4.heap.size #[.int .i64 dp] tInt) R0)))))))) by ac_rfl)
                  clear e5 h4
                  generalize w4.heap.size = g22 at *
                  generalize World.alloc _ _ = w5 at *
                  refine hK.out _ _ ?_ (fun hH2 => ?_)
                  next => (try dsimp only); exact fun _ => spS h5
                  clear hK K hHeld
                  have hHeld := hH2
                  clear hH2
                  (try simp only [List.getElem_toArray, List.getElem_cons_zero, List.getElem_cons_succ, Act.put, List.setIfInBounds_toArray, List.set_cons_zero, List.set_cons_succ])
                  refine wpL.ready (rs := [23]) (by kernel_rfl) (by simp) ?_
                  refine AllL.cons rfl (fun K hK => ?_) AllL.nil
                  have e6 := h5.perm (show _ = Both (CellT g22 #[.int .i64 dp] tInt) (Both (CellT kx (wl8C b gv wv pv) tWl8) (Both (CellT (k8 + 1) #[du] tStr) (Both (RowG tStr 1 (.slice ao1 (l.length + 1) cp1) (l.length + 1) ((l.map Nd.u) ++ [du])) (Both (RowG tTxs 1 (.slice ao2 (l.length + 1) cp2) (l.length + 1) ((l.map Nd.wv) ++ [(.slice da dL.length dc)])) (Both (RowG tInt 1 pv l.length (wps l)) (Both (CellT g8 #[du] tStr) (Both (CellT g15 #[.slice da dL.length dc] tTxs) R0))))))) by ac_rfl)
                  have f6 := cell_at e6.cell.1 0
                  refine step_append_ex rfl _ _ 28 rfl pv _ rfl rfl (append_cell_run (R := (Both (CellT kx (wl8C b gv wv pv) tWl8) (Both (CellT (k8 + 1) #[du] tStr) (Both (RowG tStr 1 (.slice ao1 (l.length + 1) cp1) (l.length + 1) ((l.map Nd.u) ++ [du])) (Both (RowG tTxs 1 (.slice ao2 (l.length + 1) cp2) (l.length + 1) ((l.map Nd.wv) ++ [(.slice da dL.length dc)])) (Both (CellT g8 #[du] tStr) (Both (CellT g15 #[.slice da dL.length dc] tTxs) (Both (CellT g22 #[.int .i64 dp] tInt) R0)))))))) (xs := (wps l)) (u := (.int .i64 dp)) 28 28 tInt Tryz.underlying28 info_intN rfl (h5.perm (by ac_rfl)) ((CellT.stable _ _ _).both ((CellT.stable _ _ _).both ((RowG.stable _ _ _ _ _).both ((RowG.stable _ _ _ _ _).both ((CellT.stable _ _ _).both ((CellT.stable _ _ _).both ((CellT.stable _ _ _).both hR0s))))))) f6 rfl (by unfold maxLen; omega) (by omega)) ?_
                  rintro ao3 cp3 w6 ⟨q6, _⟩
                  have h6 := q6.perm (show _ = (Both (CellT kx (wl8C b gv wv pv) tWl8) (Both (CellT (k8 + 1) #[du] tStr) (Both (RowG tStr 1 (.slice ao1 (l.length + 1) cp1) (l.length + 1) ((l.map Nd.u) ++ [du])) (Both (RowG tTxs 1 (.slice ao2 (l.length + 1) cp2) (l.length + 1) ((l.map Nd.wv) ++ [(.slice da dL.length dc)])) (Both (RowG tInt 1 (.slice ao3 (l.length + 1) cp3) (l.length + 1) ((wps l) ++ [(.int .i64 dp)])) (Both (CellT g8 #[du] tStr) (Both (CellT g15 #[.slice da dL.length dc] tTxs) (Both (CellT g22 #[.int .i64 dp] tInt) R0)))))))) by ac_rfl)
                  clear e6 f6 q6 h5
                  refine hK.out _ _ ?_ (fun hH2 => ?_)
                  next => (try dsimp only); exact fun _ => spS h6
                  clear hK K hHeld
                  have hHeld := hH2
                  clear hH2
                  (try simp only [List.getElem_toArray, List.getElem_cons_zero, List.getElem_cons_succ, Act.put, List.setIfInBounds_toArray, List.set_cons_zero, List.set_cons_succ])
                  have hT := HT.out ⟨g8, g15, g22, ao1, cp1, ao2, cp2, ao3, cp3⟩ w6 h6 (fun _ => spS h6)
                  simp only [List.getElem_toArray, List.getElem_cons_zero, List.getElem_cons_succ, Act.put, List.setIfInBounds_toArray, List.set_cons_zero, List.set_cons_succ] at hT
                  exact wpL.castL hT (by kernel_rfl) rfl rfl
                · skip
                  go_simp
                  have e7 := h3.newCell ((CellT.stable _ _ _).both ((CellT.stable _ _ _).both ((RowG.stable _ _ _ _ _).both ((RowG.stable _ _ _ _ _).both ((RowG.stable _ _ _ _ _).both ((CellT.stable _ _ _).both ((CellT.stable _ _ _).both hR0s))))))) #[.int .i64 dp] tInt
                  have h7 := e7.perm (show Both (CellT w3.heap.size #[.int .i64 dp] tInt) _ = (Both (CellT kx (wl8C b gv wv pv) tWl8) (Both (CellT (k8 + 1) #[du] tStr) (Both (RowG tStr 1 (.slice ao1 (l.length + 1) cp1) (l.length + 1) ((l.map Nd.u) ++ [du])) (Both (RowG tTxs 1 wv l.length (l.map Nd.wv)) (Both (RowG tInt 1 pv l.length (wps l)) (Both (CellT g8 #[du] tStr) (Both (CellT g15 #[.slice da dL.length dc] tTxs) (Both (CellT w3.heap.size #[.int .i64 dp] tInt) R0)))))))) by ac_rfl)
                  clear e7 h3
                  generalize w3.heap.size = g22 at *
                  generalize World.alloc _ _ = w7 at *
                  refine hK.out _ _ ?_ (fun hH2 => ?_)
                  next => (try dsimp only); exact fun _ => spS h7
                  clear hK K hHeld
                  have hHeld := hH2
                  clear hH2
                  (try simp only [List.getElem_toArray, List.getElem_cons_zero, List.getElem_cons_succ, Act.put, List.setIfInBounds_toArray, List.set_cons_zero, List.set_cons_succ])
                  refine wpL.ready (rs := [16]) (by kernel_rfl) (by simp) ?_
                  refine AllL.cons rfl (fun K hK => ?_) AllL.nil
                  have e8 := h7.perm (show _ = Both (CellT g15 #[.slice da dL.length dc] tTxs) (Both (CellT kx (wl8C b gv wv pv) tWl8) (Both (CellT (k8 + 1) #[du] tStr) (Both (RowG tStr 1 (.slice ao1 (l.length + 1) cp1) (l.length + 1) ((l.map Nd.u) ++ [du])) (Both (RowG tTxs 1 wv l.length (l.map Nd.wv)) (Both (RowG tInt 1 pv l.length (wps l)) (Both (CellT g8 #[du] tStr) (Both (CellT g22 #[.int .i64 dp] tInt) R0))))))) by ac_rfl)
                  have f8 := cell_at e8.cell.1 0
                  refine step_append_ex rfl _ _ 27 rfl wv _ rfl rfl (append_cell_run (R := (Both (CellT kx (wl8C b gv wv pv) tWl8) (Both (CellT (k8 + 1) #[du] tStr) (Both (RowG tStr 1 (.slice ao1 (l.length + 1) cp1) (l.length + 1) ((l.map Nd.u) ++ [du])) (Both (RowG tInt 1 pv l.length (wps l)) (Both (CellT g8 #[du] tStr) (Both (CellT g15 #[.slice da dL.length dc] tTxs) (Both (CellT g22 #[.int .i64 dp] tInt) R0)))))))) (xs := (l.map Nd.wv)) (u := (.slice da dL.length dc)) 27 27 tTxs Tryz.underlying27 info_TxsN rfl (h7.perm (by ac_rfl)) ((CellT.stable _ _ _).both ((CellT.stable _ _ _).both ((RowG.stable _ _ _ _ _).both ((RowG.stable _ _ _ _ _).both ((CellT.stable _ _ _).both ((CellT.stable _ _ _).both ((CellT.stable _ _ _).both hR0s))))))) f8 rfl (by unfold maxLen; omega) (by omega)) ?_
                  rintro ao2 cp2 w8 ⟨q8, _⟩
                  have h8 := q8.perm (show _ = (Both (CellT kx (wl8C b gv wv pv) tWl8) (Both (CellT (k8 + 1) #[du] tStr) (Both (RowG tStr 1 (.slice ao1 (l.length + 1) cp1) (l.length + 1) ((l.map Nd.u) ++ [du])) (Both (RowG tTxs 1 (.slice ao2 (l.length + 1) cp2) (l.length + 1) ((l.map Nd.wv) ++ [(.slice da dL.length dc)])) (Both (RowG tInt 1 pv l.length (wps l)) (Both (CellT g8 #[du] tStr) (Both (CellT g15 #[.slice da dL.length dc] tTxs) (Both (CellT g22 #[.int .i64 dp] tInt) R0)))))))) by ac_rfl)
                  clear e8 f8 q8 h7
                  refine hK.out _ _ ?_ (fun hH2 => ?_)
                  next => (try dsimp only); exact fun _ => spS h8
                  clear hK K hHeld
                  have hHeld := hH2
                  clear hH2
                  (try simp only [List.getElem_toArray, List.getElem_cons_zero, List.getElem_cons_succ, Act.put, List.setIfInBounds_toArray, List.set_cons_zero, List.set_cons_succ])
                  refine wpL.ready (rs := [23]) (by kernel_rfl) (by simp) ?_
                  refine AllL.cons rfl (fun K hK => ?_) AllL.nil
                  have e9 := h8.perm (show _ = Both (CellT g22 #[.int .i64 dp] tInt) (Both (CellT kx (wl8C b gv wv pv) tWl8) (Both (CellT (k8 + 1) #[du] tStr) (Both (RowG tStr 1 (.slice ao1 (l.length + 1) cp1) (l.length + 1) ((l.map Nd.u) ++ [du])) (Both (RowG tTxs 1 (.slice ao2 (l.length + 1) cp2) (l.length + 1) ((l.map Nd.wv) ++ [(.slice da dL.length dc)])) (Both (RowG tInt 1 pv l.length (wps l)) (Both (CellT g8 #[du] tStr) (Both (CellT g15 #[.slice da dL.length dc] tTxs) R0))))))) by ac_rfl)
                  have f9 := cell_at e9.cell.1 0
                  refine step_append_ex rfl _ _ 28 rfl pv _ rfl rfl (append_cell_run (R := (Both (CellT kx (wl8C b gv wv pv) tWl8) (Both (CellT (k8 + 1) #[du] tStr) (Both (RowG tStr 1 (.slice ao1 (l.length + 1) cp1) (l.length + 1) ((l.map Nd.u) ++ [du])) (Both (RowG tTxs 1 (.slice ao2 (l.length + 1) cp2) (l.length + 1) ((l.map Nd.wv) ++ [(.slice da dL.length dc)])) (Both (CellT g8 #[du] tStr) (Both (CellT g15 #[.slice da dL.length dc] tTxs) (Both (CellT g22 #[.int .i64 dp] tInt) R0)))))))) (xs := (wps l)) (u := (.int .i64 dp)) 28 28 tInt Tryz.underlying28 info_intN rfl (h8.perm (by ac_rfl)) ((CellT.stable _ _ _).both ((CellT.stable _ _ _).both ((RowG.stable _ _ _ _ _).both ((RowG.stable _ _ _ _ _).both ((CellT.stable _ _ _).both ((CellT.stable _ _ _).both ((CellT.stable _ _ _).both hR0s))))))) f9 rfl (by unfold maxLen; omega) (by omega)) ?_
                  rintro ao3 cp3 w9 ⟨q9, _⟩
                  have h9 := q9.perm (show _ = (Both (CellT kx (wl8C b gv wv pv) tWl8) (Both (CellT (k8 + 1) #[du] tStr) (Both (RowG tStr 1 (.slice ao1 (l.length + 1) cp1) (l.length + 1) ((l.map Nd.u) ++ [du])) (Both (RowG tTxs 1 (.slice ao2 (l.length + 1) cp2) (l.length + 1) ((l.map Nd.wv) ++ [(.slice da dL.length dc)])) (Both (RowG tInt 1 (.slice ao3 (l.length + 1) cp3) (l.length + 1) ((wps l) ++ [(.int .i64 dp)])) (Both (CellT g8 #[du] tStr) (Both (CellT g15 #[.slice da dL.length dc] tTxs) (Both (CellT g22 #[.int .i64 dp] tInt) R0)))))))) by ac_rfl)
                  clear e9 f9 q9 h8
                  refine hK.out _ _ ?_ (fun hH2 => ?_)
                  next => (try dsimp only); exact fun _ => spS h9
                  clear hK K hHeld
                  have hHeld := hH2
                  clear hH2
                  (try simp only [List.getElem_toArray, List.getElem_cons_zero, List.getElem_cons_succ, Act.put, List.setIfInBounds_toArray, List.set_cons_zero, List.set_cons_succ])
                  have hT := HT.out ⟨g8, g15, g22, ao1, cp1, ao2, cp2, ao3, cp3⟩ w9 h9 (fun _ => spS h9)
                  simp only [List.getElem_toArray, List.getElem_cons_zero, List.getElem_cons_succ, Act.put, List.setIfInBounds_toArray, List.set_cons_zero, List.set_cons_succ] at hT
                  exact wpL.castL hT (by kernel_rfl) rfl rfl
              · skip
                go_simp
                have e10 := h2.newCell ((CellT.stable _ _ _).both ((CellT.stable _ _ _).both ((RowG.stable _ _ _ _ _).both ((RowG.stable _ _ _ _ _).both ((RowG.stable _ _ _ _ _).both ((CellT.stable _ _ _).both hR0s)))))) #[.int .i64 dp] tInt
                have h10 := e10.perm (show Both (CellT w2.heap.size #[.int .i64 dp] tInt) _ = (Both (CellT kx (wl8C b gv wv pv) tWl8) (Both (CellT (k8 + 1) #[du] tStr) (Both (RowG tStr 1 (.slice ao1 (l.length + 1) cp1) (l.length + 1) ((l.map Nd.u) ++ [du])) (Both (RowG tTxs 1 wv l.length (l.map Nd.wv)) (Both (RowG tInt 1 pv l.length (wps l)) (Both (CellT g8 #[du] tStr) (Both (CellT w2.heap.size #[.int .i64 dp] tInt) R0))))))) by ac_rfl)
                clear e10 h2
                generalize w2.heap.size = g22 at *
                generalize World.alloc _ _ = w10 at *
                refine hK.out _ _ ?_ (fun hH2 => ?_)
                next => (try dsimp only); exact fun _ => spS h10
                clear hK K hHeld
                have hHeld := hH2
                clear hH2
                (try simp only [List.getElem_toArray, List.getElem_cons_zero, List.getElem_cons_succ, Act.put, List.setIfInBounds_toArray, List.set_cons_zero, List.set_cons_succ])
                refine wpL.ready (rs := [15]) (by kernel_rfl) (by simp) ?_
                refine AllL.cons rfl (fun K hK => ?_) AllL.nil
                go_simp
                have e11 := h10.newCell ((CellT.stable _ _ _).both ((CellT.stable _ _ _).both ((RowG.stable _ _ _ _ _).both ((RowG.stable _ _ _ _ _).both ((RowG.stable _ _ _ _ _).both ((CellT.stable _ _ _).both ((CellT.stable _ _ _).both hR0s))))))) #[.slice da dL.length dc] tTxs
                have h11 := e11.perm (show Both (CellT w10.heap.size #[.slice da dL.length dc] tTxs) _ = (Both (CellT kx (wl8C b gv wv pv) tWl8) (Both (CellT (k8 + 1) #[du] tStr) (Both (RowG tStr 1 (.slice ao1 (l.length + 1) cp1) (l.length + 1) ((l.map Nd.u) ++ [du])) (Both (RowG tTxs 1 wv l.length (l.map Nd.wv)) (Both (RowG tInt 1 pv l.length (wps l)) (Both (CellT g8 #[du] tStr) (Both (CellT w10.heap.size #[.slice da dL.length dc] tTxs) (Both (CellT g22 #[.int .i64 dp] tInt) R0)))))))) by ac_rfl)
                clear e11 h10
                generalize w10.heap.size = g15 at *
                generalize World.alloc _ _ = w11 at *
                refine hK.out _ _ ?_ (fun hH2 => ?_)
                next => (try dsimp only); exact fun _ => spS h11
                clear hK K hHeld
                have hHeld := hH2
                clear hH2
                (try simp only [List.getElem_toArray, List.getElem_cons_zero, List.getElem_cons_succ, Act.put, List.setIfInBounds_toArray, List.set_cons_zero, List.set_cons_succ])
                refine wpL.ready (rs := [16]) (by kernel_rfl) (by simp) ?_
                refine AllL.cons rfl (fun K hK => ?_) AllL.nil
                have e12 := h11.perm (show _ = Both (CellT g15 #[.slice da dL.length dc] tTxs) (Both (CellT kx (wl8C b gv wv pv) tWl8) (Both (CellT (k8 + 1) #[du] tStr) (Both (RowG tStr 1 (.slice ao1 (l.length + 1) cp1) (l.length + 1) ((l.map Nd.u) ++ [du])) (Both (RowG tTxs 1 wv l.length (l.map Nd.wv)) (Both (RowG tInt 1 pv l.length (wps l)) (Both (CellT g8 #[du] tStr) (Both (CellT g22 #[.int .i64 dp] tInt) R0))))))) by ac_rfl)
                have f12 := cell_at e12.cell.1 0
                refine step_append_ex rfl _ _ 27 rfl wv _ rfl rfl (append_cell_run (R := (Both (CellT kx (wl8C b gv wv pv) tWl8) (Both (CellT (k8 + 1) #[du] tStr) (Both (RowG tStr 1 (.slice ao1 (l.length + 1) cp1) (l.length + 1) ((l.map Nd.u) ++ [du])) (Both (RowG tInt 1 pv l.length (wps l)) (Both (CellT g8 #[du] tStr) (Both (CellT g15 #[.slice da dL.length dc] tTxs) (Both (CellT g22 #[.int .i64 dp] tInt) R0)))))))) (xs := (l.map Nd.wv)) (u := (.slice da dL.length dc)) 27 27 tTxs Tryz.underlying27 info_TxsN rfl (h11.perm (by ac_rfl)) ((CellT.stable _ _ _).both ((CellT.stable _ _ _).both ((RowG.stable _ _ _ _ _).both ((RowG.stable _ _ _ _ _).both ((CellT.stable _ _ _).both ((CellT.stable _ _ _).both ((CellT.stable _ _ _).both hR0s))))))) f12 rfl (by unfold maxLen; omega) (by omega)) ?_
                rintro ao2 cp2 w12 ⟨q12, _⟩
                have h12 := q12.perm (show _ = (Both (CellT kx (wl8C b gv wv pv) tWl8) (Both (CellT (k8 + 1) #[du] tStr) (Both (RowG tStr 1 (.slice ao1 (l.length + 1) cp1) (l.length + 1) ((l.map Nd.u) ++ [du])) (Both (RowG tTxs 1 (.slice ao2 (l.length + 1) cp2) (l.length + 1) ((l.map Nd.wv) ++ [(.slice da dL.length dc)])) (Both (RowG tInt 1 pv l.length (wps l)) (Both (CellT g8 #[du] tStr) (Both (CellT g15 #[.slice da dL.length dc] tTxs) (Both (CellT g22 #[.int .i64 dp] tInt) R0)))))))) by ac_rfl)
                clear e12 f12 q12 h11
                refine hK.out _ _ ?_ (fun hH2 => ?_)
                next => (try dsimp only); exact fun _ => spS h12
                clear hK K hHeld
                have hHeld := hH2
                clear hH2
                (try simp only [List.getElem_toArray, List.getElem_cons_zero, List.getElem_cons_succ, Act.put, List.setIfInBounds_toArray, List.set_cons_zero, List.set_cons_succ])
                refine wpL.ready (rs := [23]) (by kernel_rfl) (by simp) ?_
                refine AllL.cons rfl (fun K hK => ?_) AllL.nil
                have e13 := h12.perm (show _ = Both (CellT g22 #[.int .i64 dp] tInt) (Both (CellT kx (wl8C b gv wv pv) tWl8) (Both (CellT (k8 + 1) #[du] tStr) (Both (RowG tStr 1 (.slice ao1 (l.length + 1) cp1) (l.length + 1) ((l.map Nd.u) ++ [du])) (Both (RowG tTxs 1 (.slice ao2 (l.length + 1) cp2) (l.length + 1) ((l.map Nd.wv) ++ [(.slice da dL.length dc)])) (Both (RowG tInt 1 pv l.length (wps l)) (Both (CellT g8 #[du] tStr) (Both (CellT g15 #[.slice da dL.length dc] tTxs) R0))))))) by ac_rfl)
                have f13 := cell_at e13.cell.1 0
                refine step_append_ex rfl _ _ 28 rfl pv _ rfl rfl (append_cell_run (R := (Both (CellT kx (wl8C b gv wv pv) tWl8) (Both (CellT (k8 + 1) #[du] tStr) (Both (RowG tStr 1 (.slice ao1 (l.length + 1) cp1) (l.length + 1) ((l.map Nd.u) ++ [du])) (Both (RowG tTxs 1 (.slice ao2 (l.length + 1) cp2) (l.length + 1) ((l.map Nd.wv) ++ [(.slice da dL.length dc)])) (Both (CellT g8 #[du] tStr) (Both (CellT g15 #[.slice da dL.length dc] tTxs) (Both (CellT g22 #[.int .i64 dp] tInt) R0)))))))) (xs := (wps l)) (u := (.int .i64 dp)) 28 28 tInt Tryz.underlying28 info_intN rfl (h12.perm (by ac_rfl)) ((CellT.stable _ _ _).both ((CellT.stable _ _ _).both ((RowG.stable _ _ _ _ _).both ((RowG.stable _ _ _ _ _).both ((CellT.stable _ _ _).both ((CellT.stable _ _ _).both ((CellT.stable _ _ _).both hR0s))))))) f13 rfl (by unfold maxLen; omega) (by omega)) ?_
                rintro ao3 cp3 w13 ⟨q13, _⟩
                have h13 := q13.perm (show _ = (Both (CellT kx (wl8C b gv wv pv) tWl8) (Both (CellT (k8 + 1) #[du] tStr) (Both (RowG tStr 1 (.slice ao1 (l.length + 1) cp1) (l.length + 1) ((l.map Nd.u) ++ [du])) (Both (RowG tTxs 1 (.slice ao2 (l.length + 1) cp2) (l.length + 1) ((l.map Nd.wv) ++ [(.slice da dL.length dc)])) (Both (RowG tInt 1 (.slice ao3 (l.length + 1) cp3) (l.length + 1) ((wps l) ++ [(.int .i64 dp)])) (Both (CellT g8 #[du] tStr) (Both (CellT g15 #[.slice da dL.length dc] tTxs) (Both (CellT g22 #[.int .i64 dp] tInt) R0)))))))) by ac_rfl)
                clear e13 f13 q13 h12
                refine hK.out _ _ ?_ (fun hH2 => ?_)
                next => (try dsimp only); exact fun _ => spS h13
                clear hK K hHeld
                have hHeld := hH2
                clear hH2
                (try simp only [List.getElem_toArray, List.getElem_cons_zero, List.getElem_cons_succ, Act.put, List.setIfInBounds_toArray, List.set_cons_zero, List.set_cons_succ])
                have hT := HT.out ⟨g8, g15, g22, ao1, cp1, ao2, cp2, ao3, cp3⟩ w13 h13 (fun _ => spS h13)
                simp only [List.getElem_toArray, List.getElem_cons_zero, List.getElem_cons_succ, Act.put, List.setIfInBounds_toArray, List.set_cons_zero, List.set_cons_succ] at hT
                exact wpL.castL hT (by kernel_rfl) rfl rfl
            · skip
              go_simp
              have e14 := h1.newCell ((CellT.stable _ _ _).both ((CellT.stable _ _ _).both ((RowG.stable _ _ _ _ _).both ((RowG.stable _ _ _ _ _).both ((RowG.stable _ _ _ _ _).both ((CellT.stable _ _ _).both hR0s)))))) #[.slice da dL.length dc] tTxs
              have h14 := e14.perm (show Both (CellT w1.heap.size #[.slice da dL.length dc] tTxs) _ = (Both (CellT kx (wl8C b gv wv pv) tWl8) (Both (CellT (k8 + 1) #[du] tStr) (Both (RowG tStr 1 gv l.length (l.map Nd.u)) (Both (RowG tTxs 1 wv l.length (l.map Nd.wv)) (Both (RowG tInt 1 pv l.length (wps l)) (Both (CellT g8 #[du] tStr) (Both (CellT w1.heap.size #[.slice da dL.length dc] tTxs) R0))))))) by ac_rfl)
              clear e14 h1
              generalize w1.heap.size = g15 at *
              generalize World.alloc _ _ = w14 at *
              refine hK.out _ _ ?_ (fun hH2 => ?_)
              next => (try dsimp only); exact fun _ => spS h14
              clear hK K hHeld
              have hHeld := hH2
              clear hH2
              (try simp only [List.getElem_toArray, List.getElem_cons_zero, List.getElem_cons_succ, Act.put, List.setIfInBounds_toArray, List.set_cons_zero, List.set_cons_succ])
              refine wpL.ready (rs := [9, 22]) (by kernel_rfl) (by simp) ?_
              refine AllL.cons rfl (fun K hK => ?_) (AllL.cons rfl (fun K hK => ?_) AllL.nil)
              · skip
                have e15 := h14.perm (show _ = Both (CellT g8 #[du] tStr) (Both (CellT kx (wl8C b gv wv pv) tWl8) (Both (CellT (k8 + 1) #[du] tStr) (Both (RowG tStr 1 gv l.length (l.map Nd.u)) (Both (RowG tTxs 1 wv l.length (l.map Nd.wv)) (Both (RowG tInt 1 pv l.length (wps l)) (Both (CellT g15 #[.slice da dL.length dc] tTxs) R0)))))) by ac_rfl)
                have f15 := cell_at e15.cell.1 0
                refine step_append_ex rfl _ _ 26 rfl gv _ rfl rfl (append_cell_run (R := (Both (CellT kx (wl8C b gv wv pv) tWl8) (Both (CellT (k8 + 1) #[du] tStr) (Both (RowG tTxs 1 wv l.length (l.map Nd.wv)) (Both (RowG tInt 1 pv l.length (wps l)) (Both (CellT g8 #[du] tStr) (Both (CellT g15 #[.slice da dL.length dc] tTxs) R0))))))) (xs := (l.map Nd.u)) (u := du) 26 26 tStr Tryz.underlying26 info_St rfl (h14.perm (by ac_rfl)) ((CellT.stable _ _ _).both ((CellT.stable _ _ _).both ((RowG.stable _ _ _ _ _).both ((RowG.stable _ _ _ _ _).both ((CellT.stable _ _ _).both ((CellT.stable _ _ _).both hR0s)))))) f15 hfo (by unfold maxLen; omega) (by omega)) ?_
                rintro ao1 cp1 w15 ⟨q15, _⟩
                have h15 := q15.perm (show _ = (Both (CellT kx (wl8C b gv wv pv) tWl8) (Both (CellT (k8 + 1) #[du] tStr) (Both (RowG tStr 1 (.slice ao1 (l.length + 1) cp1) (l.length + 1) ((l.map Nd.u) ++ [du])) (Both (RowG tTxs 1 wv l.length (l.map Nd.wv)) (Both (RowG tInt 1 pv l.length (wps l)) (Both (CellT g8 #[du] tStr) (Both (CellT g15 #[.slice da dL.length dc] tTxs) R0))))))) by ac_rfl)
                clear e15 f15 q15 h14
                refine hK.out _ _ ?_ (fun hH2 => ?_)
                next => (try dsimp only); exact fun _ => spS h15
                clear hK K hHeld
                have hHeld := hH2
                clear hH2
                (try simp only [List.getElem_toArray, List.getElem_cons_zero, List.getElem_cons_succ, Act.put, List.setIfInBounds_toArray, List.set_cons_zero, List.set_cons_succ])
                refine wpL.ready (rs := [16, 22]) (by kernel_rfl) (by simp) ?_
                refine AllL.cons rfl (fun K hK => ?_) (AllL.cons rfl (fun K hK => ?_) AllL.nil)
                · skip
                  have e16 := h15.perm (show _ = Both (CellT g15 #[.slice da dL.length dc] tTxs) (Both (CellT kx (wl8C b gv wv pv) tWl8) (Both (CellT (k8 + 1) #[du] tStr) (Both (RowG tStr 1 (.slice ao1 (l.length + 1) cp1) (l.length + 1) ((l.map Nd.u) ++ [du])) (Both (RowG tTxs 1 wv l.length (l.map Nd.wv)) (Both (RowG tInt 1 pv l.length (wps l)) (Both (CellT g8 #[du] tStr) R0)))))) by ac_rfl)
                  have f16 := cell_at e16.cell.1 0
                  refine step_append_ex rfl _ _ 27 rfl wv _ rfl rfl (append_cell_run (R := (Both (CellT kx (wl8C b gv wv pv) tWl8) (Both (CellT (k8 + 1) #[du] tStr) (Both (RowG tStr 1 (.slice ao1 (l.length + 1) cp1) (l.length + 1) ((l.map Nd.u) ++ [du])) (Both (RowG tInt 1 pv l.length (wps l)) (Both (CellT g8 #[du] tStr) (Both (CellT g15 #[.slice da dL.length dc] tTxs) R0))))))) (xs := (l.map Nd.wv)) (u := (.slice da dL.length dc)) 27 27 tTxs Tryz.underlying27 info_TxsN rfl (h15.perm (by ac_rfl)) ((CellT.stable _ _ _).both ((CellT.stable _ _ _).both ((RowG.stable _ _ _ _ _).both ((RowG.stable _ _ _ _ _).both ((CellT.stable _ _ _).both ((CellT.stable _ _ _).both hR0s)))))) f16 rfl (by unfold maxLen; omega) (by omega)) ?_
                  rintro ao2 cp2 w16 ⟨q16, _⟩
                  have h16 := q16.perm (show _ = (Both (CellT kx (wl8C b gv wv pv) tWl8) (Both (CellT (k8 + 1) #[du] tStr) (Both (RowG tStr 1 (.slice ao1 (l.length + 1) cp1) (l.length + 1) ((l.map Nd.u) ++ [du])) (Both (RowG tTxs 1 (.slice ao2 (l.length + 1) cp2) (l.length + 1) ((l.map Nd.wv) ++ [(.slice da dL.length dc)])) (Both (RowG tInt 1 pv l.length (wps l)) (Both (CellT g8 #[du] tStr) (Both (CellT g15 #[.slice da dL.length dc] tTxs) R0))))))) by ac_rfl)
                  clear e16 f16 q16 h15
                  refine hK.out _ _ ?_ (fun hH2 => ?_)
                  next => (try dsimp only); exact fun _ => spS h16
                  clear hK K hHeld
                  have hHeld := hH2
                  clear hH2
                  (try simp only [List.getElem_toArray, List.getElem_cons_zero, List.getElem_cons_succ, Act.put, List.setIfInBounds_toArray, List.set_cons_zero, List.set_cons_succ])
                  refine wpL.ready (rs := [22]) (by kernel_rfl) (by simp) ?_
                  refine AllL.cons rfl (fun K hK => ?_) AllL.nil
                  go_simp
                  have e17 := h16.newCell ((CellT.stable _ _ _).both ((CellT.stable _ _ _).both ((RowG.stable _ _ _ _ _).both ((RowG.stable _ _ _ _ _).both ((RowG.stable _ _ _ _ _).both ((CellT.stable _ _ _).both ((CellT.stable _ _ _).both hR0s))))))) #[.int .i64 dp] tInt
                  have h17 := e17.perm (show Both (CellT w16.heap.size #[.int .i64 dp] tInt) _ = (Both (CellT kx (wl8C b gv wv pv) tWl8) (Both (CellT (k8 + 1) #[du] tStr) (Both (RowG tStr 1 (.slice ao1 (l.length + 1) cp1) (l.length + 1) ((l.map Nd.u) ++ [du])) (Both (RowG tTxs 1 (.slice ao2 (l.length + 1) cp2) (l.length + 1) ((l.map Nd.wv) ++ [(.slice da dL.length dc)])) (Both (RowG tInt 1 pv l.length (wps l)) (Both (CellT g8 #[du] tStr) (Both (CellT g15 #[.slice da dL.length dc] tTxs) (Both (CellT w16.heap.size #[.int .i64 dp] tInt) R0)))))))) by ac_rfl)
                  clear e17 h16
                  generalize w16.heap.size = g22 at *
                  generalize World.alloc _ _ = w17 at *
                  refine hK.out _ _ ?_ (fun hH2 => ?_)
                  next => (try dsimp only); exact fun _ => spS h17
                  clear hK K hHeld
                  have hHeld := hH2
                  clear hH2
                  (try simp only [List.getElem_toArray, List.getElem_cons_zero, List.getElem_cons_succ, Act.put, List.setIfInBounds_toArray, List.set_cons_zero, List.set_cons_succ])
                  refine wpL.ready (rs := [23]) (by kernel_rfl) (by simp) ?_
                  refine AllL.cons rfl (fun K hK => ?_) AllL.nil
                  have e18 := h17.perm (show _ = Both (CellT g22 #[.int .i64 dp] tInt) (Both (CellT kx (wl8C b gv wv pv) tWl8) (Both (CellT (k8 + 1) #[du] tStr) (Both (RowG tStr 1 (.slice ao1 (l.length + 1) cp1) (l.length + 1) ((l.map Nd.u) ++ [du])) (Both (RowG tTxs 1 (.slice ao2 (l.length + 1) cp2) (l.length + 1) ((l.map Nd.wv) ++ [(.slice da dL.length dc)])) (Both (RowG tInt 1 pv l.length (wps l)) (Both (CellT g8 #[du] tStr) (Both (CellT g15 #[.slice da dL.length dc] tTxs) R0))))))) by ac_rfl)
                  have f18 := cell_at e18.cell.1 0
                  refine step_append_ex rfl _ _ 28 rfl pv _ rfl rfl (append_cell_run (R := (Both (CellT kx (wl8C b gv wv pv) tWl8) (Both (CellT (k8 + 1) #[du] tStr) (Both (RowG tStr 1 (.slice ao1 (l.length + 1) cp1) (l.length + 1) ((l.map Nd.u) ++ [du])) (Both (RowG tTxs 1 (.slice ao2 (l.length + 1) cp2) (l.length + 1) ((l.map Nd.wv) ++ [(.slice da dL.length dc)])) (Both (CellT g8 #[du] tStr) (Both (CellT g15 #[.slice da dL.length dc] tTxs) (Both (CellT g22 #[.int .i64 dp] tInt) R0)))))))) (xs := (wps l)) (u := (.int .i64 dp)) 28 28 tInt Tryz.underlying28 info_intN rfl (h17.perm (by ac_rfl)) ((CellT.stable _ _ _).both ((CellT.stable _ _ _).both ((RowG.stable _ _ _ _ _).both ((RowG.stable _ _ _ _ _).both ((CellT.stable _ _ _).both ((CellT.stable _ _ _).both ((CellT.stable _ _ _).both hR0s))))))) f18 rfl (by unfold maxLen; omega) (by omega)) ?_
                  rintro ao3 cp3 w18 ⟨q18, _⟩
                  have h18 := q18.perm (show _ = (Both (CellT kx (wl8C b gv wv pv) tWl8) (Both (CellT (k8 + 1) #[du] tStr) (Both (RowG tStr 1 (.slice ao1 (l.length + 1) cp1) (l.length + 1) ((l.map Nd.u) ++ [du])) (Both (RowG tTxs 1 (.slice ao2 (l.length + 1) cp2) (l.length + 1) ((l.map Nd.wv) ++ [(.slice da dL.length dc)])) (Both (RowG tInt 1 (.slice ao3 (l.length + 1) cp3) (l.length + 1) ((wps l) ++ [(.int .i64 dp)])) (Both (CellT g8 #[du] tStr) (Both (CellT g15 #[.slice da dL.length dc] tTxs) (Both (CellT g22 #[.int .i64 dp] tInt) R0)))))))) by ac_rfl)
                  clear e18 f18 q18 h17
                  refine hK.out _ _ ?_ (fun hH2 => ?_)
                  next => (try dsimp only); exact fun _ => spS h18
                  clear hK K hHeld
                  have hHeld := hH2
                  clear hH2
                  (try simp only [List.getElem_toArray, List.getElem_cons_zero, List.getElem_cons_succ, Act.put, List.setIfInBounds_toArray, List.set_cons_zero, List.set_cons_succ])
                  have hT := HT.out ⟨g8, g15, g22, ao1, cp1, ao2, cp2, ao3, cp3⟩ w18 h18 (fun _ => spS h18)
                  simp only [List.getElem_toArray, List.getElem_cons_zero, List.getElem_cons_succ, Act.put, List.setIfInBounds_toArray, List.set_cons_zero, List.set_cons_succ] at hT
                  exact wpL.castL hT (by kernel_rfl) rfl rfl
                · skip
                  go_simp
                  have e19 := h15.newCell ((CellT.stable _ _ _).both ((CellT.stable _ _ _).both ((RowG.stable _ _ _ _ _).both ((RowG.stable _ _ _ _ _).both ((RowG.stable _ _ _ _ _).both ((CellT.stable _ _ _).both ((CellT.stable _ _ _).both hR0s))))))) #[.int .i64 dp] tInt
                  have h19 := e19.perm (show Both (CellT w15.heap.size #[.int .i64 dp] tInt) _ = (Both (CellT kx (wl8C b gv wv pv) tWl8) (Both (CellT (k8 + 1) #[du] tStr) (Both (RowG tStr 1 (.slice ao1 (l.length + 1) cp1) (l.length + 1) ((l.map Nd.u) ++ [du])) (Both (RowG tTxs 1 wv l.length (l.map Nd.wv)) (Both (RowG tInt 1 pv l.length (wps l)) (Both (CellT g8 #[du] tStr) (Both (CellT g15 #[.slice da dL.length dc] tTxs) (Both (CellT w15.heap.size #[.int .i64 dp] tInt) R0)))))))) by ac_rfl)
                  clear e19 h15
                  generalize w15.heap.size = g22 at *
                  generalize World.alloc _ _ = w19 at *
                  refine hK.out _ _ ?_ (fun hH2 => ?_)
                  next => (try dsimp only); exact fun _ => spS h19
                  clear hK K hHeld
                  have hHeld := hH2
                  clear hH2
                  (try simp only [List.getElem_toArray, List.getElem_cons_zero, List.getElem_cons_succ, Act.put, List.setIfInBounds_toArray, List.set_cons_zero, List.set_cons_succ])
                  refine wpL.ready (rs := [16]) (by kernel_rfl) (by simp) ?_
                  refine AllL.cons rfl (fun K hK => ?_) AllL.nil
                  have e20 := h19.perm (show _ = Both (CellT g15 #[.slice da dL.length dc] tTxs) (Both (CellT kx (wl8C b gv wv pv) tWl8) (Both (CellT (k8 + 1) #[du] tStr) (Both (RowG tStr 1 (.slice ao1 (l.length + 1) cp1) (l.length + 1) ((l.map Nd.u) ++ [du])) (Both (RowG tTxs 1 wv l.length (l.map Nd.wv)) (Both (RowG tInt 1 pv l.length (wps l)) (Both (CellT g8 #[du] tStr) (Both (CellT g22 #[.int .i64 dp] tInt) R0))))))) by ac_rfl)
                  have f20 := cell_at e20.cell.1 0
                  refine step_append_ex rfl _ _ 27 rfl wv _ rfl rfl (append_cell_run (R := (Both (CellT kx (wl8C b gv wv pv) tWl8) (Both (CellT (k8 + 1) #[du] tStr) (Both (RowG tStr 1 (.slice ao1 (l.length + 1) cp1) (l.length + 1) ((l.map Nd.u) ++ [du])) (Both (RowG tInt 1 pv l.length (wps l)) (Both (CellT g8 #[du] tStr) (Both (CellT g15 #[.slice da dL.length dc] tTxs) (Both (CellT g22 #[.int .i64 dp] tInt) R0)))))))) (xs := (l.map Nd.wv)) (u := (.slice da dL.length dc)) 27 27 tTxs Tryz.underlying27 info_TxsN rfl (h19.perm (by ac_rfl)) ((CellT.stable _ _ _).both ((CellT.stable _ _ _).both ((RowG.stable _ _ _ _ _).both ((RowG.stable _ _ _ _ _).both ((CellT.stable _ _ _).both ((CellT.stable _ _ _).both ((CellT.stable _ _ _).both hR0s))))))) f20 rfl (by unfold maxLen; omega) (by omega)) ?_
                  rintro ao2 cp2 w20 ⟨q20, _⟩
                  have h20 := q20.perm (show _ = (Both (CellT kx (wl8C b gv wv pv) tWl8) (Both (CellT (k8 + 1) #[du] tStr) (Both (RowG tStr 1 (.slice ao1 (l.length + 1) cp1) (l.length + 1) ((l.map Nd.u) ++ [du])) (Both (RowG tTxs 1 (.slice ao2 (l.length + 1) cp2) (l.length + 1) ((l.map Nd.wv) ++ [(.slice da dL.length dc)])) (Both (RowG tInt 1 pv l.length (wps l)) (Both (CellT g8 #[du] tStr) (Both (CellT g15 #[.slice da dL.length dc] tTxs) (Both (CellT g22 #[.int .i64 dp] tInt) R0)))))))) by ac_rfl)
                  clear e20 f20 q20 h19
                  refine hK.out _ _ ?_ (fun hH2 => ?_)
                  next => (try dsimp only); exact fun _ => spS h20
                  clear hK K hHeld
                  have hHeld := hH2
                  clear hH2
                  (try simp only [List.getElem_toArray, List.getElem_cons_zero, List.getElem_cons_succ, Act.put, List.setIfInBounds_toArray, List.set_cons_zero, List.set_cons_succ])
                  refine wpL.ready (rs := [23]) (by kernel_rfl) (by simp) ?_
                  refine AllL.cons rfl (fun K hK => ?_) AllL.nil
                  have e21 := h20.perm (show _ = Both (CellT g22 #[.int .i64 dp] tInt) (Both (CellT kx (wl8C b gv wv pv) tWl8) (Both (CellT (k8 + 1) #[du] tStr) (Both (RowG tStr 1 (.slice ao1 (l.length + 1) cp1) (l.length + 1) ((l.map Nd.u) ++ [du])) (Both (RowG tTxs 1 (.slice ao2 (l.length + 1) cp2) (l.length + 1) ((l.map Nd.wv) ++ [(.slice da dL.length dc)])) (Both (RowG tInt 1 pv l.length (wps l)) (Both (CellT g8 #[du] tStr) (Both (CellT g15 #[.slice da dL.length dc] tTxs) R0))))))) by ac_rfl)
                  have f21 := cell_at e21.cell.1 0
                  refine step_append_ex rfl _ _ 28 rfl pv _ rfl rfl (append_cell_run (R := (Both (CellT kx (wl8C b gv wv pv) tWl8) (Both (CellT (k8 + 1) #[du] tStr) (Both (RowG tStr 1 (.slice ao1 (l.length + 1) cp1) (l.length + 1) ((l.map Nd.u) ++ [du])) (Both (RowG tTxs 1 (.slice ao2 (l.length + 1) cp2) (l.length + 1) ((l.map Nd.wv) ++ [(.slice da dL.length dc)])) (Both (CellT g8 #[du] tStr) (Both (CellT g15 #[.slice da dL.length dc] tTxs) (Both (CellT g22 #[.int .i64 dp] tInt) R0)))))))) (xs := (wps l)) (u := (.int .i64 dp)) 28 28 tInt Tryz.underlying28 info_intN rfl (h20.perm (by ac_rfl)) ((CellT.stable _ _ _).both ((CellT.stable _ _ _).both ((RowG.stable _ _ _ _ _).both ((RowG.stable _ _ _ _ _).both ((CellT.stable _ _ _).both ((CellT.stable _ _ _).both ((CellT.stable _ _ _).both hR0s))))))) f21 rfl (by unfold maxLen; omega) (by omega)) ?_
                  rintro ao3 cp3 w21 ⟨q21, _⟩
                  have h21 := q21.perm (show _ = (Both (CellT kx (wl8C b gv wv pv) tWl8) (Both (CellT (k8 + 1) #[du] tStr) (Both (RowG tStr 1 (.slice ao1 (l.length + 1) cp1) (l.length + 1) ((l.map Nd.u) ++ [du])) (Both (RowG tTxs 1 (.slice ao2 (l.length + 1) cp2) (l.length + 1) ((l.map Nd.wv) ++ [(.slice da dL.length dc)])) (Both (RowG tInt 1 (.slice ao3 (l.length + 1) cp3) (l.length + 1) ((wps l) ++ [(.int .i64 dp)])) (Both (CellT g8 #[du] tStr) (Both (CellT g15 #[.slice da dL.length dc] tTxs) (Both (CellT g22 #[.int .i64 dp] tInt) R0)))))))) by ac_rfl)
                  clear e21 f21 q21 h20
                  refine hK.out _ _ ?_ (fun hH2 => ?_)
                  next => (try dsimp only); exact fun _ => spS h21
                  clear hK K hHeld
                  have hHeld := hH2
                  clear hH2
                  (try simp only [List.getElem_toArray, List.getElem_cons_zero, List.getElem_cons_succ, Act.put, List.setIfInBounds_toArray, List.set_cons_zero, List.set_cons_succ])
                  have hT := HT.out ⟨g8, g15, g22, ao1, cp1, ao2, cp2, ao3, cp3⟩ w21 h21 (fun _ => spS h21)
                  simp only [List.getElem_toArray, List.getElem_cons_zero, List.getElem_cons_succ, Act.put, List.setIfInBounds_toArray, List.set_cons_zero, List.set_cons_succ] at hT
                  exact wpL.castL hT (by kernel_rfl) rfl rfl
              · skip
                go_simp
                have e22 := h14.newCell ((CellT.stable _ _ _).both ((CellT.stable _ _ _).both ((RowG.stable _ _ _ _ _).both ((RowG.stable _ _ _ _ _).both ((RowG.stable _ _ _ _ _).both ((CellT.stable _ _ _).both ((CellT.stable _ _ _).both hR0s))))))) #[.int .i64 dp] tInt
                have h22 := e22.perm (show Both (CellT w14.heap.size #[.int .i64 dp] tInt) _ = (Both (CellT kx (wl8C b gv wv pv) tWl8) (Both (CellT (k8 + 1) #[du] tStr) (Both (RowG tStr 1 gv l.length (l.map Nd.u)) (Both (RowG tTxs 1 wv l.length (l.map Nd.wv)) (Both (RowG tInt 1 pv l.length (wps l)) (Both (CellT g8 #[du] tStr) (Both (CellT g15 #[.slice da dL.length dc] tTxs) (Both (CellT w14.heap.size #[.int .i64 dp] tInt) R0)))))))) by ac_rfl)
                clear e22 h14
                generalize w14.heap.size = g22 at *
                generalize World.alloc _ _ = w22 at *
                refine hK.out _ _ ?_ (fun hH2 => ?_)
                next => (try dsimp only); exact fun _ => spS h22
                clear hK K hHeld
                have hHeld := hH2
                clear hH2
                (try simp only [List.getElem_toArray, List.getElem_cons_zero, List.getElem_cons_succ, Act.put, List.setIfInBounds_toArray, List.set_cons_zero, List.set_cons_succ])
                refine wpL.ready (rs := [9]) (by kernel_rfl) (by simp) ?_
                refine AllL.cons rfl (fun K hK => ?_) AllL.nil
                have e23 := h22.perm (show _ = Both (CellT g8 #[du] tStr) (Both (CellT kx (wl8C b gv wv pv) tWl8) (Both (CellT (k8 + 1) #[du] tStr) (Both (RowG tStr 1 gv l.length (l.map Nd.u)) (Both (RowG tTxs 1 wv l.length (l.map Nd.wv)) (Both (RowG tInt 1 pv l.length (wps l)) (Both (CellT g15 #[.slice da dL.length dc] tTxs) (Both (CellT g22 #[.int .i64 dp] tInt) R0))))))) by ac_rfl)
                have f23 := cell_at e23.cell.1 0
                refine step_append_ex rfl _ _ 26 rfl gv _ rfl rfl (append_cell_run (R := (Both (CellT kx (wl8C b gv wv pv) tWl8) (Both (CellT (k8 + 1) #[du] tStr) (Both (RowG tTxs 1 wv l.length (l.map Nd.wv)) (Both (RowG tInt 1 pv l.length (wps l)) (Both (CellT g8 #[du] tStr) (Both (CellT g15 #[.slice da dL.length dc] tTxs) (Both (CellT g22 #[.int .i64 dp] tInt) R0)))))))) (xs := (l.map Nd.u)) (u := du) 26 26 tStr Tryz.underlying26 info_St rfl (h22.perm (by ac_rfl)) ((CellT.stable _ _ _).both ((CellT.stable _ _ _).both ((RowG.stable _ _ _ _ _).both ((RowG.stable _ _ _ _ _).both ((CellT.stable _ _ _).both ((CellT.stable _ _ _).both ((CellT.stable _ _ _).both hR0s))))))) f23 hfo (by unfold maxLen; omega) (by omega)) ?_
                rintro ao1 cp1 w23 ⟨q23, _⟩
                have h23 := q23.perm (show _ = (Both (CellT kx (wl8C b gv wv pv) tWl8) (Both (CellT (k8 + 1) #[du] tStr) (Both (RowG tStr 1 (.slice ao1 (l.length + 1) cp1) (l.length + 1) ((l.map Nd.u) ++ [du])) (Both (RowG tTxs 1 wv l.length (l.map Nd.wv)) (Both (RowG tInt 1 pv l.length (wps l)) (Both (CellT g8 #[du] tStr) (Both (CellT g15 #[.slice da dL.length dc] tTxs) (Both (CellT g22 #[.int .i64 dp] tInt) R0)))))))) by ac_rfl)
                clear e23 f23 q23 h22
                refine hK.out _ _ ?_ (fun hH2 => ?_)
                next => (try dsimp only); exact fun _ => spS h23
                clear hK K hHeld
                have hHeld := hH2
                clear hH2
                (try simp only [List.getElem_toArray, List.getElem_cons_zero, List.getElem_cons_succ, Act.put, List.setIfInBounds_toArray, List.set_cons_zero, List.set_cons_succ])
                refine wpL.ready (rs := [16]) (by kernel_rfl) (by simp) ?_
                refine AllL.cons rfl (fun K hK => ?_) AllL.nil
                have e24 := h23.perm (show _ = Both (CellT g15 #[.slice da dL.length dc] tTxs) (Both (CellT kx (wl8C b gv wv pv) tWl8) (Both (CellT (k8 + 1) #[du] tStr) (Both (RowG tStr 1 (.slice ao1 (l.length + 1) cp1) (l.length + 1) ((l.map Nd.u) ++ [du])) (Both (RowG tTxs 1 wv l.length (l.map Nd.wv)) (Both (RowG tInt 1 pv l.length (wps l)) (Both (CellT g8 #[du] tStr) (Both (CellT g22 #[.int .i64 dp] tInt) R0))))))) by ac_rfl)
                have f24 := cell_at e24.cell.1 0
                refine step_append_ex rfl _ _ 27 rfl wv _ rfl rfl (append_cell_run (R := (Both (CellT kx (wl8C b gv wv pv) tWl8) (Both (CellT (k8 + 1) #[du] tStr) (Both (RowG tStr 1 (.slice ao1 (l.length + 1) cp1) (l.length + 1) ((l.map Nd.u) ++ [du])) (Both (RowG tInt 1 pv l.length (wps l)) (Both (CellT g8 #[du] tStr) (Both (CellT g15 #[.slice da dL.length dc] tTxs) (Both (CellT g22 #[.int .i64 dp] tInt) R0)))))))) (xs := (l.map Nd.wv)) (u := (.slice da dL.length dc)) 27 27 tTxs Tryz.underlying27 info_TxsN rfl (h23.perm (by ac_rfl)) ((CellT.stable _ _ _).both ((CellT.stable _ _ _).both ((RowG.stable _ _ _ _ _).both ((RowG.stable _ _ _ _ _).both ((CellT.stable _ _ _).both ((CellT.stable _ _ _).both ((CellT.stable _ _ _).both hR0s))))))) f24 rfl (by unfold maxLen; omega) (by omega)) ?_
                rintro ao2 cp2 w24 ⟨q24, _⟩
                have h24 := q24.perm (show _ = (Both (CellT kx (wl8C b gv wv pv) tWl8) (Both (CellT (k8 + 1) #[du] tStr) (Both (RowG tStr 1 (.slice ao1 (l.length + 1) cp1) (l.length + 1) ((l.map Nd.u) ++ [du])) (Both (RowG tTxs 1 (.slice ao2 (l.length + 1) cp2) (l.length + 1) ((l.map Nd.wv) ++ [(.slice da dL.length dc)])) (Both (RowG tInt 1 pv l.length (wps l)) (Both (CellT g8 #[du] tStr) (Both (CellT g15 #[.slice da dL.length dc] tTxs) (Both (CellT g22 #[.int .i64 dp] tInt) R0)))))))) by ac_rfl)
                clear e24 f24 q24 h23
                refine hK.out _ _ ?_ (fun hH2 => ?_)
                next => (try dsimp only); exact fun _ => spS h24
                clear hK K hHeld
                have hHeld := hH2
                clear hH2
                (try simp only [List.getElem_toArray, List.getElem_cons_zero, List.getElem_cons_succ, Act.put, List.setIfInBounds_toArray, List.set_cons_zero, List.set_cons_succ])
                refine wpL.ready (rs := [23]) (by kernel_rfl) (by simp) ?_
                refine AllL.cons rfl (fun K hK => ?_) AllL.nil
                have e25 := h24.perm (show _ = Both (CellT g22 #[.int .i64 dp] tInt) (Both (CellT kx (wl8C b gv wv pv) tWl8) (Both (CellT (k8 + 1) #[du] tStr) (Both (RowG tStr 1 (.slice ao1 (l.length + 1) cp1) (l.length + 1) ((l.map Nd.u) ++ [du])) (Both (RowG tTxs 1 (.slice ao2 (l.length + 1) cp2) (l.length + 1) ((l.map Nd.wv) ++ [(.slice da dL.length dc)])) (Both (RowG tInt 1 pv l.length (wps l)) (Both (CellT g8 #[du] tStr) (Both (CellT g15 #[.slice da dL.length dc] tTxs) R0))))))) by ac_rfl)
                have f25 := cell_at e25.cell.1 0
                refine step_append_ex rfl _ _ 28 rfl pv _ rfl rfl (append_cell_run (R := (Both (CellT kx (wl8C b gv wv pv) tWl8) (Both (CellT (k8 + 1) #[du] tStr) (Both (RowG tStr 1 (.slice ao1 (l.length + 1) cp1) (l.length + 1) ((l.map Nd.u) ++ [du])) (Both (RowG tTxs 1 (.slice ao2 (l.length + 1) cp2) (l.length + 1) ((l.map Nd.wv) ++ [(.slice da dL.length dc)])) (Both (CellT g8 #[du] tStr) (Both (CellT g15 #[.slice da dL.length dc] tTxs) (Both (CellT g22 #[.int .i64 dp] tInt) R0)))))))) (xs := (wps l)) (u := (.int .i64 dp)) 28 28 tInt Tryz.underlying28 info_intN rfl (h24.perm (by ac_rfl)) ((CellT.stable _ _ _).both ((CellT.stable _ _ _).both ((RowG.stable _ _ _ _ _).both ((RowG.stable _ _ _ _ _).both ((CellT.stable _ _ _).both ((CellT.stable _ _ _).both ((CellT.stable _ _ _).both hR0s))))))) f25 rfl (by unfold maxLen; omega) (by omega)) ?_
                rintro ao3 cp3 w25 ⟨q25, _⟩
                have h25 := q25.perm (show _ = (Both (CellT kx (wl8C b gv wv pv) tWl8) (Both (CellT (k8 + 1) #[du] tStr) (Both (RowG tStr 1 (.slice ao1 (l.length + 1) cp1) (l.length + 1) ((l.map Nd.u) ++ [du])) (Both (RowG tTxs 1 (.slice ao2 (l.length + 1) cp2) (l.length + 1) ((l.map Nd.wv) ++ [(.slice da dL.length dc)])) (Both (RowG tInt 1 (.slice ao3 (l.length + 1) cp3) (l.length + 1) ((wps l) ++ [(.int .i64 dp)])) (Both (CellT g8 #[du] tStr) (Both (CellT g15 #[.slice da dL.length dc] tTxs) (Both (CellT g22 #[.int .i64 dp] tInt) R0)))))))) by ac_rfl)
                clear e25 f25 q25 h24
                refine hK.out _ _ ?_ (fun hH2 => ?_)
                next => (try dsimp only); exact fun _ => spS h25
                clear hK K hHeld
                have hHeld := hH2
                clear hH2
                (try simp only [List.getElem_toArray, List.getElem_cons_zero, List.getElem_cons_succ, Act.put, List.setIfInBounds_toArray, List.set_cons_zero, List.set_cons_succ])
                have hT := HT.out ⟨g8, g15, g22, ao1, cp1, ao2, cp2, ao3, cp3⟩ w25 h25 (fun _ => spS h25)
                simp only [List.getElem_toArray, List.getElem_cons_zero, List.getElem_cons_succ, Act.put, List.setIfInBounds_toArray, List.set_cons_zero, List.set_cons_succ] at hT
                exact wpL.castL hT (by kernel_rfl) rfl rfl
            · skip
              go_simp
              have e26 := h1.newCell ((CellT.stable _ _ _).both ((CellT.stable _ _ _).both ((RowG.stable _ _ _ _ _).both ((RowG.stable _ _ _ _ _).both ((RowG.stable _ _ _ _ _).both ((CellT.stable _ _ _).both hR0s)))))) #[.int .i64 dp] tInt
              have h26 := e26.perm (show Both (CellT w1.heap.size #[.int .i64 dp] tInt) _ = (Both (CellT kx (wl8C b gv wv pv) tWl8) (Both (CellT (k8 + 1) #[du] tStr) (Both (RowG tStr 1 gv l.length (l.map Nd.u)) (Both (RowG tTxs 1 wv l.length (l.map Nd.wv)) (Both (RowG tInt 1 pv l.length (wps l)) (Both (CellT g8 #[du] tStr) (Both (CellT w1.heap.size #[.int .i64 dp] tInt) R0))))))) by ac_rfl)
              clear e26 h1
              generalize w1.heap.size = g22 at *
              generalize World.alloc _ _ = w26 at *
              refine hK.out _ _ ?_ (fun hH2 => ?_)
              next => (try dsimp only); exact fun _ => spS h26
              clear hK K hHeld
              have hHeld := hH2
              clear hH2
              (try simp only [List.getElem_toArray, List.getElem_cons_zero, List.getElem_cons_succ, Act.put, List.setIfInBounds_toArray, List.set_cons_zero, List.set_cons_succ])
              refine wpL.ready (rs := [9, 15]) (by kernel_rfl) (by simp) ?_
              refine AllL.cons rfl (fun K hK => ?_) (AllL.cons rfl (fun K hK => ?_) AllL.nil)
              · skip
                have e27 := h26.perm (show _ = Both (CellT g8 #[du] tStr) (Both (CellT kx (wl8C b gv wv pv) tWl8) (Both (CellT (k8 + 1) #[du] tStr) (Both (RowG tStr 1 gv l.length (l.map Nd.u)) (Both (RowG tTxs 1 wv l.length (l.map Nd.wv)) (Both (RowG tInt 1 pv l.length (wps l)) (Both (CellT g22 #[.int .i64 dp] tInt) R0)))))) by ac_rfl)
                have f27 := cell_at e27.cell.1 0
                refine step_append_ex rfl _ _ 26 rfl gv _ rfl rfl (append_cell_run (R := (Both (CellT kx (wl8C b gv wv pv) tWl8) (Both (CellT (k8 + 1) #[du] tStr) (Both (RowG tTxs 1 wv l.length (l.map Nd.wv)) (Both (RowG tInt 1 pv l.length (wps l)) (Both (CellT g8 #[du] tStr) (Both (CellT g22 #[.int .i64 dp] tInt) R0))))))) (xs := (l.map Nd.u)) (u := du) 26 26 tStr Tryz.underlying26 info_St rfl (h26.perm (by ac_rfl)) ((CellT.stable _ _ _).both ((CellT.stable _ _ _).both ((RowG.stable _ _ _ _ _).both ((RowG.stable _ _ _ _ _).both ((CellT.stable _ _ _).both ((CellT.stable _ _ _).both hR0s)))))) f27 hfo (by unfold maxLen; omega) (by omega)) ?_
                rintro ao1 cp1 w27 ⟨q27, _⟩
                have h27 := q27.perm (show _ = (Both (CellT kx (wl8C b gv wv pv) tWl8) (Both (CellT (k8 + 1) #[du] tStr) (Both (RowG tStr 1 (.slice ao1 (l.length + 1) cp1) (l.length + 1) ((l.map Nd.u) ++ [du])) (Both (RowG tTxs 1 wv l.length (l.map Nd.wv)) (Both (RowG tInt 1 pv l.length (wps l)) (Both (CellT g8 #[du] tStr) (Both (CellT g22 #[.int .i64 dp] tInt) R0))))))) by ac_rfl)
                clear e27 f27 q27 h26
                refine hK.out _ _ ?_ (fun hH2 => ?_)
                next => (try dsimp only); exact fun _ => spS h27
                clear hK K hHeld
                have hHeld := hH2
                clear hH2
                (try simp only [List.getElem_toArray, List.getElem_cons_zero, List.getElem_cons_succ, Act.put, List.setIfInBounds_toArray, List.set_cons_zero, List.set_cons_succ])
                refine wpL.ready (rs := [15]) (by kernel_rfl) (by simp) ?_
                refine AllL.cons rfl (fun K hK => ?_) AllL.nil
                go_simp
                have e28 := h27.newCell ((CellT.stable _ _ _).both ((CellT.stable _ _ _).both ((RowG.stable _ _ _ _ _).both ((RowG.stable _ _ _ _ _).both ((RowG.stable _ _ _ _ _).both ((CellT.stable _ _ _).both ((CellT.stable _ _ _).both hR0s))))))) #[.slice da dL.length dc] tTxs
                have h28 := e28.perm (show Both (CellT w27.heap.size #[.slice da dL.length dc] tTxs) _ = (Both (CellT kx (wl8C b gv wv pv) tWl8) (Both (CellT (k8 + 1) #[du] tStr) (Both (RowG tStr 1 (.slice ao1 (l.length + 1) cp1) (l.length + 1) ((l.map Nd.u) ++ [du])) (Both (RowG tTxs 1 wv l.length (l.map Nd.wv)) (Both (RowG tInt 1 pv l.length (wps l)) (Both (CellT g8 #[du] tStr) (Both (CellT w27.heap.size #[.slice da dL.length dc] tTxs) (Both (CellT g22 #[.int .i64 dp] tInt) R0)))))))) by ac_rfl)
                clear e28 h27
                generalize w27.heap.size = g15 at *
                generalize World.alloc _ _ = w28 at *
                refine hK.out _ _ ?_ (fun hH2 => ?_)
                next => (try dsimp only); exact fun _ => spS h28
                clear hK K hHeld
                have hHeld := hH2
                clear hH2
                (try simp only [List.getElem_toArray, List.getElem_cons_zero, List.getElem_cons_succ, Act.put, List.setIfInBounds_toArray, List.set_cons_zero, List.set_cons_succ])
                refine wpL.ready (rs := [16]) (by kernel_rfl) (by simp) ?_
                refine AllL.cons rfl (fun K hK => ?_) AllL.nil
                have e29 := h28.perm (show _ = Both (CellT g15 #[.slice da dL.length dc] tTxs) (Both (CellT kx (wl8C b gv wv pv) tWl8) (Both (CellT (k8 + 1) #[du] tStr) (Both (RowG tStr 1 (.slice ao1 (l.length + 1) cp1) (l.length + 1) ((l.map Nd.u) ++ [du])) (Both (RowG tTxs 1 wv l.length (l.map Nd.wv)) (Both (RowG tInt 1 pv l.length (wps l)) (Both (CellT g8 #[du] tStr) (Both (CellT g22 #[.int .i64 dp] tInt) R0))))))) by ac_rfl)
                have f29 := cell_at e29.cell.1 0
                refine step_append_ex rfl _ _ 27 rfl wv _ rfl rfl (append_cell_run (R := (Both (CellT kx (wl8C b gv wv pv) tWl8) (Both (CellT (k8 + 1) #[du] tStr) (Both (RowG tStr 1 (.slice ao1 (l.length + 1) cp1) (l.length + 1) ((l.map Nd.u) ++ [du])) (Both (RowG tInt 1 pv l.length (wps l)) (Both (CellT g8 #[du] tStr) (Both (CellT g15 #[.slice da dL.length dc] tTxs) (Both (CellT g22 #[.int .i64 dp] tInt) R0)))))))) (xs := (l.map Nd.wv)) (u := (.slice da dL.length dc)) 27 27 tTxs Tryz.underlying27 info_TxsN rfl (h28.perm (by ac_rfl)) ((CellT.stable _ _ _).both ((CellT.stable _ _ _).both ((RowG.stable _ _ _ _ _).both ((RowG.stable _ _ _ _ _).both ((CellT.stable _ _ _).both ((CellT.stable _ _ _).both ((CellT.stable _ _ _).both hR0s))))))) f29 rfl (by unfold maxLen; omega) (by omega)) ?_
                rintro ao2 cp2 w29 ⟨q29, _⟩
                have h29 := q29.perm (show _ = (Both (CellT kx (wl8C b gv wv pv) tWl8) (Both (CellT (k8 + 1) #[du] tStr) (Both (RowG tStr 1 (.slice ao1 (l.length + 1) cp1) (l.length + 1) ((l.map Nd.u) ++ [du])) (Both (RowG tTxs 1 (.slice ao2 (l.length + 1) cp2) (l.length + 1) ((l.map Nd.wv) ++ [(.slice da dL.length dc)])) (Both (RowG tInt 1 pv l.length (wps l)) (Both (CellT g8 #[du] tStr) (Both (CellT g15 #[.slice da dL.length dc] tTxs) (Both (CellT g22 #[.int .i64 dp] tInt) R0)))))))) by ac_rfl)
                clear e29 f29 q29 h28
                refine hK.out _ _ ?_ (fun hH2 => ?_)
                next => (try dsimp only); exact fun _ => spS h29
                clear hK K hHeld
                have hHeld := hH2
                clear hH2
                (try simp only [List.getElem_toArray, List.getElem_cons_zero, List.getElem_cons_succ, Act.put, List.setIfInBounds_toArray, List.set_cons_zero, List.set_cons_succ])
                refine wpL.ready (rs := [23]) (by kernel_rfl) (by simp) ?_
                refine AllL.cons rfl (fun K hK => ?_) AllL.nil
                have e30 := h29.perm (show _ = Both (CellT g22 #[.int .i64 dp] tInt) (Both (CellT kx (wl8C b gv wv pv) tWl8) (Both (CellT (k8 + 1) #[du] tStr) (Both (RowG tStr 1 (.slice ao1 (l.length + 1) cp1) (l.length + 1) ((l.map Nd.u) ++ [du])) (Both (RowG tTxs 1 (.slice ao2 (l.length + 1) cp2) (l.length + 1) ((l.map Nd.wv) ++ [(.slice da dL.length dc)])) (Both (RowG tInt 1 pv l.length (wps l)) (Both (CellT g8 #[du] tStr) (Both (CellT g15 #[.slice da dL.length dc] tTxs) R0))))))) by ac_rfl)
                have f30 := cell_at e30.cell.1 0
                refine step_append_ex rfl _ _ 28 rfl pv _ rfl rfl (append_cell_run (R := (Both (CellT kx (wl8C b gv wv pv) tWl8) (Both (CellT (k8 + 1) #[du] tStr) (Both (RowG tStr 1 (.slice ao1 (l.length + 1) cp1) (l.length + 1) ((l.map Nd.u) ++ [du])) (Both (RowG tTxs 1 (.slice ao2 (l.length + 1) cp2) (l.length + 1) ((l.map Nd.wv) ++ [(.slice da dL.length dc)])) (Both (CellT g8 #[du] tStr) (Both (CellT g15 #[.slice da dL.length dc] tTxs) (Both (CellT g22 #[.int .i64 dp] tInt) R0)))))))) (xs := (wps l)) (u := (.int .i64 dp)) 28 28 tInt Tryz.underlying28 info_intN rfl (h29.perm (by ac_rfl)) ((CellT.stable _ _ _).both ((CellT.stable _ _ _).both ((RowG.stable _ _ _ _ _).both ((RowG.stable _ _ _ _ _).both ((CellT.stable _ _ _).both ((CellT.stable _ _ _).both ((CellT.stable _ _ _).both hR0s))))))) f30 rfl (by unfold maxLen; omega) (by omega)) ?_
                rintro ao3 cp3 w30 ⟨q30, _⟩
                have h30 := q30.perm (show _ = (Both (CellT kx (wl8C b gv wv pv) tWl8) (Both (CellT (k8 + 1) #[du] tStr) (Both (RowG tStr 1 (.slice ao1 (l.length + 1) cp1) (l.length + 1) ((l.map Nd.u) ++ [du])) (Both (RowG tTxs 1 (.slice ao2 (l.length + 1) cp2) (l.length + 1) ((l.map Nd.wv) ++ [(.slice da dL.length dc)])) (Both (RowG tInt 1 (.slice ao3 (l.length + 1) cp3) (l.length + 1) ((wps l) ++ [(.int .i64 dp)])) (Both (CellT g8 #[du] tStr) (Both (CellT g15 #[.slice da dL.length dc] tTxs) (Both (CellT g22 #[.int .i64 dp] tInt) R0)))))))) by ac_rfl)
                clear e30 f30 q30 h29
                refine hK.out _ _ ?_ (fun hH2 => ?_)
                next => (try dsimp only); exact fun _ => spS h30
                clear hK K hHeld
                have hHeld := hH2
                clear hH2
                (try simp only [List.getElem_toArray, List.getElem_cons_zero, List.getElem_cons_succ, Act.put, List.setIfInBounds_toArray, List.set_cons_zero, List.set_cons_succ])
                have hT := HT.out ⟨g8, g15, g22, ao1, cp1, ao2, cp2, ao3, cp3⟩ w30 h30 (fun _ => spS h30)
                simp only [List.getElem_toArray, List.getElem_cons_zero, List.getElem_cons_succ, Act.put, List.setIfInBounds_toArray, List.set_cons_zero, List.set_cons_succ] at hT
                exact wpL.castL hT (by kernel_rfl) rfl rfl
              · skip
                go_simp
                have e31 := h26.newCell ((CellT.stable _ _ _).both ((CellT.stable _ _ _).both ((RowG.stable _ _ _ _ _).both ((RowG.stable _ _ _ _ _).both ((RowG.stable _ _ _ _ _).both ((CellT.stable _ _ _).both ((CellT.stable _ _ _).both hR0s))))))) #[.slice da dL.length dc] tTxs
                have h31 := e31.perm (show Both (CellT w26.heap.size #[.slice da dL.length dc] tTxs) _ = (Both (CellT kx (wl8C b gv wv pv) tWl8) (Both (CellT (k8 + 1) #[du] tStr) (Both (RowG tStr 1 gv l.length (l.map Nd.u)) (Both (RowG tTxs 1 wv l.length (l.map Nd.wv)) (Both (RowG tInt 1 pv l.length (wps l)) (Both (CellT g8 #[du] tStr) (Both (CellT w26.heap.size #[.slice da dL.length dc] tTxs) (Both (CellT g22 #[.int .i64 dp] tInt) R0)))))))) by ac_rfl)
                clear e31 h26
                generalize w26.heap.size = g15 at *
                generalize World.alloc _ _ = w31 at *
                refine hK.out _ _ ?_ (fun hH2 => ?_)
                next => (try dsimp only); exact fun _ => spS h31
                clear hK K hHeld
                have hHeld := hH2
                clear hH2
                (try simp only [List.getElem_toArray, List.getElem_cons_zero, List.getElem_cons_succ, Act.put, List.setIfInBounds_toArray, List.set_cons_zero, List.set_cons_succ])
                refine wpL.ready (rs := [9]) (by kernel_rfl) (by simp) ?_
                refine AllL.cons rfl (fun K hK => ?_) AllL.nil
                have e32 := h31.perm (show _ = Both (CellT g8 #[du] tStr) (Both (CellT kx (wl8C b gv wv pv) tWl8) (Both (CellT (k8 + 1) #[du] tStr) (Both (RowG tStr 1 gv l.length (l.map Nd.u)) (Both (RowG tTxs 1 wv l.length (l.map Nd.wv)) (Both (RowG tInt 1 pv l.length (wps l)) (Both (CellT g15 #[.slice da dL.length dc] tTxs) (Both (CellT g22 #[.int .i64 dp] tInt) R0))))))) by ac_rfl)
                have f32 := cell_at e32.cell.1 0
                refine step_append_ex rfl _ _ 26 rfl gv _ rfl rfl (append_cell_run (R := (Both (CellT kx (wl8C b gv wv pv) tWl8) (Both (CellT (k8 + 1) #[du] tStr) (Both (RowG tTxs 1 wv l.length (l.map Nd.wv)) (Both (RowG tInt 1 pv l.length (wps l)) (Both (CellT g8 #[du] tStr) (Both (CellT g15 #[.slice da dL.length dc] tTxs) (Both (CellT g22 #[.int .i64 dp] tInt) R0)))))))) (xs := (l.map Nd.u)) (u := du) 26 26 tStr Tryz.underlying26 info_St rfl (h31.perm (by ac_rfl)) ((CellT.stable _ _ _).both ((CellT.stable _ _ _).both ((RowG.stable _ _ _ _ _).both ((RowG.stable _ _ _ _ _).both ((CellT.stable _ _ _).both ((CellT.stable _ _ _).both ((CellT.stable _ _ _).both hR0s))))))) f32 hfo (by unfold maxLen; omega) (by omega)) ?_
                rintro ao1 cp1 w32 ⟨q32, _⟩
                have h32 := q32.perm (show _ = (Both (CellT kx (wl8C b gv wv pv) tWl8) (Both (CellT (k8 + 1) #[du] tStr) (Both (RowG tStr 1 (.slice ao1 (l.length + 1) cp1) (l.length + 1) ((l.map Nd.u) ++ [du])) (Both (RowG tTxs 1 wv l.length (l.map Nd.wv)) (Both (RowG tInt 1 pv l.length (wps l)) (Both (CellT g8 #[du] tStr) (Both (CellT g15 #[.slice da dL.length dc] tTxs) (Both (CellT g22 #[.int .i64 dp] tInt) R0)))))))) by ac_rfl)
                clear e32 f32 q32 h31
                refine hK.out _ _ ?_ (fun hH2 => ?_)
                next => (try dsimp only); exact fun _ => spS h32
                clear hK K hHeld
                have hHeld := hH2
                clear hH2
                (try simp only [List.getElem_toArray, List.getElem_cons_zero, List.getElem_cons_succ, Act.put, List.setIfInBounds_toArray, List.set_cons_zero, List.set_cons_succ])
                refine wpL.ready (rs := [16]) (by kernel_rfl) (by simp) ?_
                refine AllL.cons rfl (fun K hK => ?_) AllL.nil
                have e33 := h32.perm (show _ = Both (CellT g15 #[.slice da dL.length dc] tTxs) (Both (CellT kx (wl8C b gv wv pv) tWl8) (Both (CellT (k8 + 1) #[du] tStr) (Both (RowG tStr 1 (.slice ao1 (l.length + 1) cp1) (l.length + 1) ((l.map Nd.u) ++ [du])) (Both (RowG tTxs 1 wv l.length (l.map Nd.wv)) (Both (RowG tInt 1 pv l.length (wps l)) (Both (CellT g8 #[du] tStr) (Both (CellT g22 #[.int .i64 dp] tInt) R0))))))) by ac_rfl)
                have f33 := cell_at e33.cell.1 0
                refine step_append_ex rfl _ _ 27 rfl wv _ rfl rfl (append_cell_run (R := (Both (CellT kx (wl8C b gv wv pv) tWl8) (Both (CellT (k8 + 1) #[du] tStr) (Both (RowG tStr 1 (.slice ao1 (l.length + 1) cp1) (l.length + 1) ((l.map Nd.u) ++ [du])) (Both (RowG tInt 1 pv l.length (wps l)) (Both (CellT g8 #[du] tStr) (Both (CellT g15 #[.slice da dL.length dc] tTxs) (Both (CellT g22 #[.int .i64 dp] tInt) R0)))))))) (xs := (l.map Nd.wv)) (u := (.slice da dL.length dc)) 27 27 tTxs Tryz.underlying27 info_TxsN rfl (h32.perm (by ac_rfl)) ((CellT.stable _ _ _).both ((CellT.stable _ _ _).both ((RowG.stable _ _ _ _ _).both ((RowG.stable _ _ _ _ _).both ((CellT.stable _ _ _).both ((CellT.stable _ _ _).both ((CellT.stable _ _ _).both hR0s))))))) f33 rfl (by unfold maxLen; omega) (by omega)) ?_
                rintro ao2 cp2 w33 ⟨q33, _⟩
                have h33 := q33.perm (show _ = (Both (CellT kx (wl8C b gv wv pv) tWl8) (Both (CellT (k8 + 1) #[du] tStr) (Both (RowG tStr 1 (.slice ao1 (l.length + 1) cp1) (l.length + 1) ((l.map Nd.u) ++ [du])) (Both (RowG tTxs 1 (.slice ao2 (l.length + 1) cp2) (l.length + 1) ((l.map Nd.wv) ++ [(.slice da dL.length dc)])) (Both (RowG tInt 1 pv l.length (wps l)) (Both (CellT g8 #[du] tStr) (Both (CellT g15 #[.slice da dL.length dc] tTxs) (Both (CellT g22 #[.int .i64 dp] tInt) R0)))))))) by ac_rfl)
                clear e33 f33 q33 h32
                refine hK.out _ _ ?_ (fun hH2 => ?_)
                next => (try dsimp only); exact fun _ => spS h33
                clear hK K hHeld
                have hHeld := hH2
                clear hH2
                (try simp only [List.getElem_toArray, List.getElem_cons_zero, List.getElem_cons_succ, Act.put, List.setIfInBounds_toArray, List.set_cons_zero, List.set_cons_succ])
                refine wpL.ready (rs := [23]) (by kernel_rfl) (by simp) ?_
                refine AllL.cons rfl (fun K hK => ?_) AllL.nil
                have e34 := h33.perm (show _ = Both (CellT g22 #[.int .i64 dp] tInt) (Both (CellT kx (wl8C b gv wv pv) tWl8) (Both (CellT (k8 + 1) #[du] tStr) (Both (RowG tStr 1 (.slice ao1 (l.length + 1) cp1) (l.length + 1) ((l.map Nd.u) ++ [du])) (Both (RowG tTxs 1 (.slice ao2 (l.length + 1) cp2) (l.length + 1) ((l.map Nd.wv) ++ [(.slice da dL.length dc)])) (Both (RowG tInt 1 pv l.length (wps l)) (Both (CellT g8 #[du] tStr) (Both (CellT g15 #[.slice da dL.length dc] tTxs) R0))))))) by ac_rfl)
                have f34 := cell_at e34.cell.1 0
                refine step_append_ex rfl _ _ 28 rfl pv _ rfl rfl (append_cell_run (R := (Both (CellT kx (wl8C b gv wv pv) tWl8) (Both (CellT (k8 + 1) #[du] tStr) (Both (RowG tStr 1 (.slice ao1 (l.length + 1) cp1) (l.length + 1) ((l.map Nd.u) ++ [du])) (Both (RowG tTxs 1 (.slice ao2 (l.length + 1) cp2) (l.length + 1) ((l.map Nd.wv) ++ [(.slice da dL.length dc)])) (Both (CellT g8 #[du] tStr) (Both (CellT g15 #[.slice da dL.length dc] tTxs) (Both (CellT g22 #[.int .i64 dp] tInt) R0)))))))) (xs := (wps l)) (u := (.int .i64 dp)) 28 28 tInt Tryz.underlying28 info_intN rfl (h33.perm (by ac_rfl)) ((CellT.stable _ _ _).both ((CellT.stable _ _ _).both ((RowG.stable _ _ _ _ _).both ((RowG.stable _ _ _ _ _).both ((CellT.stable _ _ _).both ((CellT.stable _ _ _).both ((CellT.stable _ _ _).both hR0s))))))) f34 rfl (by unfold maxLen; omega) (by omega)) ?_
                rintro ao3 cp3 w34 ⟨q34, _⟩
                have h34 := q34.perm (show _ = (Both (CellT kx (wl8C b gv wv pv) tWl8) (Both (CellT (k8 + 1) #[du] tStr) (Both (RowG tStr 1 (.slice ao1 (l.length + 1) cp1) (l.length + 1) ((l.map Nd.u) ++ [du])) (Both (RowG tTxs 1 (.slice ao2 (l.length + 1) cp2) (l.length + 1) ((l.map Nd.wv) ++ [(.slice da dL.length dc)])) (Both (RowG tInt 1 (.slice ao3 (l.length + 1) cp3) (l.length + 1) ((wps l) ++ [(.int .i64 dp)])) (Both (CellT g8 #[du] tStr) (Both (CellT g15 #[.slice da dL.length dc] tTxs) (Both (CellT g22 #[.int .i64 dp] tInt) R0)))))))) by ac_rfl)
                clear e34 f34 q34 h33
                refine hK.out _ _ ?_ (fun hH2 => ?_)
                next => (try dsimp only); exact fun _ => spS h34
                clear hK K hHeld
                have hHeld := hH2
                clear hH2
                (try simp only [List.getElem_toArray, List.getElem_cons_zero, List.getElem_cons_succ, Act.put, List.setIfInBounds_toArray, List.set_cons_zero, List.set_cons_succ])
                have hT := HT.out ⟨g8, g15, g22, ao1, cp1, ao2, cp2, ao3, cp3⟩ w34 h34 (fun _ => spS h34)
                simp only [List.getElem_toArray, List.getElem_cons_zero, List.getElem_cons_succ, Act.put, List.setIfInBounds_toArray, List.set_cons_zero, List.set_cons_succ] at hT
                exact wpL.castL hT (by kernel_rfl) rfl rfl
          · skip
            go_simp
            have e35 := h12.newCell ((CellT.stable _ _ _).both ((CellT.stable _ _ _).both ((RowG.stable _ _ _ _ _).both ((RowG.stable _ _ _ _ _).both ((RowG.stable _ _ _ _ _).both hR0s))))) #[.slice da dL.length dc] tTxs
            have h35 := e35.perm (show Both (CellT w12.heap.size #[.slice da dL.length dc] tTxs) _ = (Both (CellT kx (wl8C b gv wv pv) tWl8) (Both (CellT (k8 + 1) #[du] tStr) (Both (RowG tStr 1 gv l.length (l.map Nd.u)) (Both (RowG tTxs 1 wv l.length (l.map Nd.wv)) (Both (RowG tInt 1 pv l.length (wps l)) (Both (CellT w12.heap.size #[.slice da dL.length dc] tTxs) R0)))))) by ac_rfl)
            clear e35 h12
            generalize w12.heap.size = g15 at *
            generalize World.alloc _ _ = w35 at *
            refine hK.out _ _ ?_ (fun hH2 => ?_)
            next => (try dsimp only); exact fun _ => spS h35
            clear hK K hHeld
            have hHeld := hH2
            clear hH2
            (try simp only [List.getElem_toArray, List.getElem_cons_zero, List.getElem_cons_succ, Act.put, List.setIfInBounds_toArray, List.set_cons_zero, List.set_cons_succ])
            refine wpL.ready (rs := [8, 22]) (by kernel_rfl) (by simp) ?_
            refine AllL.cons rfl (fun K hK => ?_) (AllL.cons rfl (fun K hK => ?_) AllL.nil)
            · skip
              go_simp
              have e36 := h35.newCell ((CellT.stable _ _ _).both ((CellT.stable _ _ _).both ((RowG.stable _ _ _ _ _).both ((RowG.stable _ _ _ _ _).both ((RowG.stable _ _ _ _ _).both ((CellT.stable _ _ _).both hR0s)))))) #[du] tStr
              have h36 := e36.perm (show Both (CellT w35.heap.size #[du] tStr) _ = (Both (CellT kx (wl8C b gv wv pv) tWl8) (Both (CellT (k8 + 1) #[du] tStr) (Both (RowG tStr 1 gv l.length (l.map Nd.u)) (Both (RowG tTxs 1 wv l.length (l.map Nd.wv)) (Both (RowG tInt 1 pv l.length (wps l)) (Both (CellT w35.heap.size #[du] tStr) (Both (CellT g15 #[.slice da dL.length dc] tTxs) R0))))))) by ac_rfl)
              clear e36 h35
              generalize w35.heap.size = g8 at *
              generalize World.alloc _ _ = w36 at *
              refine hK.out _ _ ?_ (fun hH2 => ?_)
              next => (try dsimp only); exact fun _ => spS h36
              clear hK K hHeld
              have hHeld := hH2
              clear hH2
              (try simp only [List.getElem_toArray, List.getElem_cons_zero, List.getElem_cons_succ, Act.put, List.setIfInBounds_toArray, List.set_cons_zero, List.set_cons_succ])
              refine wpL.ready (rs := [9, 22]) (by kernel_rfl) (by simp) ?_
              refine AllL.cons rfl (fun K hK => ?_) (AllL.cons rfl (fun K hK => ?_) AllL.nil)
              · skip
                have e37 := h36.perm (show _ = Both (CellT g8 #[du] tStr) (Both (CellT kx (wl8C b gv wv pv) tWl8) (Both (CellT (k8 + 1) #[du] tStr) (Both (RowG tStr 1 gv l.length (l.map Nd.u)) (Both (RowG tTxs 1 wv l.length (l.map Nd.wv)) (Both (RowG tInt 1 pv l.length (wps l)) (Both (CellT g15 #[.slice da dL.length dc] tTxs) R0)))))) by ac_rfl)
                have f37 := cell_at e37.cell.1 0
                refine step_append_ex rfl _ _ 26 rfl gv _ rfl rfl (append_cell_run (R := (Both (CellT kx (wl8C b gv wv pv) tWl8) (Both (CellT (k8 + 1) #[du] tStr) (Both (RowG tTxs 1 wv l.length (l.map Nd.wv)) (Both (RowG tInt 1 pv l.length (wps l)) (Both (CellT g8 #[du] tStr) (Both (CellT g15 #[.slice da dL.length dc] tTxs) R0))))))) (xs := (l.map Nd.u)) (u := du) 26 26 tStr Tryz.underlying26 info_St rfl (h36.perm (by ac_rfl)) ((CellT.stable _ _ _).both ((CellT.stable _ _ _).both ((RowG.stable _ _ _ _ _).both ((RowG.stable _ _ _ _ _).both ((CellT.stable _ _ _).both ((CellT.stable _ _ _).both hR0s)))))) f37 hfo (by unfold maxLen; omega) (by omega)) ?_
                rintro ao1 cp1 w37 ⟨q37, _⟩
                have h37 := q37.perm (show _ = (Both (CellT kx (wl8C b gv wv pv) tWl8) (Both (CellT (k8 + 1) #[du] tStr) (Both (RowG tStr 1 (.slice ao1 (l.length + 1) cp1) (l.length + 1) ((l.map Nd.u) ++ [du])) (Both (RowG tTxs 1 wv l.length (l.map Nd.wv)) (Both (RowG tInt 1 pv l.length (wps l)) (Both (CellT g8 #[du] tStr) (Both (CellT g15 #[.slice da dL.length dc] tTxs) R0))))))) by ac_rfl)
                clear e37 f37 q37 h36
                refine hK.out _ _ ?_ (fun hH2 => ?_)
                next => (try dsimp only); exact fun _ => spS h37
                clear hK K hHeld
                have hHeld := hH2
                clear hH2
                (try simp only [List.getElem_toArray, List.getElem_cons_zero, List.getElem_cons_succ, Act.put, List.setIfInBounds_toArray, List.set_cons_zero, List.set_cons_succ])
                refine wpL.ready (rs := [16, 22]) (by kernel_rfl) (by simp) ?_
                refine AllL.cons rfl (fun K hK => ?_) (AllL.cons rfl (fun K hK => ?_) AllL.nil)
                · skip
                  have e38 := h37.perm (show _ = Both (CellT g15 #[.slice da dL.length dc] tTxs) (Both (CellT kx (wl8C b gv wv pv) tWl8) (Both (CellT (k8 + 1) #[du] tStr) (Both (RowG tStr 1 (.slice ao1 (l.length + 1) cp1) (l.length + 1) ((l.map Nd.u) ++ [du])) (Both (RowG tTxs 1 wv l.length (l.map Nd.wv)) (Both (RowG tInt 1 pv l.length (wps l)) (Both (CellT g8 #[du] tStr) R0)))))) by ac_rfl)
                  have f38 := cell_at e38.cell.1 0
                  refine step_append_ex rfl _ _ 27 rfl wv _ rfl rfl (append_cell_run (R := (Both (CellT kx (wl8C b gv wv pv) tWl8) (Both (CellT (k8 + 1) #[du] tStr) (Both (RowG tStr 1 (.slice ao1 (l.length + 1) cp1) (l.length + 1) ((l.map Nd.u) ++ [du])) (Both (RowG tInt 1 pv l.length (wps l)) (Both (CellT g8 #[du] tStr) (Both (CellT g15 #[.slice da dL.length dc] tTxs) R0))))))) (xs := (l.map Nd.wv)) (u := (.slice da dL.length dc)) 27 27 tTxs Tryz.underlying27 info_TxsN rfl (h37.perm (by ac_rfl)) ((CellT.stable _ _ _).both ((CellT.stable _ _ _).both ((RowG.stable _ _ _ _ _).both ((RowG.stable _ _ _ _ _).both ((CellT.stable _ _ _).both ((CellT.stable _ _ _).both hR0s)))))) f38 rfl (by unfold maxLen; omega) (by omega)) ?_
                  rintro ao2 cp2 w38 ⟨q38, _⟩
                  have h38 := q38.perm (show _ = (Both (CellT kx (wl8C b gv wv pv) tWl8) (Both (CellT (k8 + 1) #[du] tStr) (Both (RowG tStr 1 (.slice ao1 (l.length + 1) cp1) (l.length + 1) ((l.map Nd.u) ++ [du])) (Both (RowG tTxs 1 (.slice ao2 (l.length + 1) cp2) (l.length + 1) ((l.map Nd.wv) ++ [(.slice da dL.length dc)])) (Both (RowG tInt 1 pv l.length (wps l)) (Both (CellT g8 #[du] tStr) (Both (CellT g15 #[.slice da dL.length dc] tTxs) R0))))))) by ac_rfl)
                  clear e38 f38 q38 h37
                  refine hK.out _ _ ?_ (fun hH2 => ?_)
                  next => (try dsimp only); exact fun _ => spS h38
                  clear hK K hHeld
                  have hHeld := hH2
                  clear hH2
                  (try simp only [List.getElem_toArray, List.getElem_cons_zero, List.getElem_cons_succ, Act.put, List.setIfInBounds_toArray, List.set_cons_zero, List.set_cons_succ])
                  refine wpL.ready (rs := [22]) (by kernel_rfl) (by simp) ?_
                  refine AllL.cons rfl (fun K hK => ?_) AllL.nil
                  go_simp
                  have e39 := h38.newCell ((CellT.stable _ _ _).both ((CellT.stable _ _ _).both ((RowG.stable _ _ _ _ _).both ((RowG.stable _ _ _ _ _).both ((RowG.stable _ _ _ _ _).both ((CellT.stable _ _ _).both ((CellT.stable _ _ _).both hR0s))))))) #[.int .i64 dp] tInt
                  have h39 := e39.perm (show Both (CellT w38.heap.size #[.int .i64 dp] tInt) _ = (Both (CellT kx (wl8C b gv wv pv) tWl8) (Both (CellT (k8 + 1) #[du] tStr) (Both (RowG tStr 1 (.slice ao1 (l.length + 1) cp1) (l.length + 1) ((l.map Nd.u) ++ [du])) (Both (RowG tTxs 1 (.slice ao2 (l.length + 1) cp2) (l.length + 1) ((l.map Nd.wv) ++ [(.slice da dL.length dc)])) (Both (RowG tInt 1 pv l.length (wps l)) (Both (CellT g8 #[du] tStr) (Both (CellT g15 #[.slice da dL.length dc] tTxs) (Both (CellT w38.heap.size #[.int .i64 dp] tInt) R0)))))))) by ac_rfl)
                  clear e39 h38
                  generalize w38.heap.size = g22 at *
                  generalize World.alloc _ _ = w39 at *
                  refine hK.out _ _ ?_ (fun hH2 => ?_)
                  next => (try dsimp only); exact fun _ => spS h39
                  clear hK K hHeld
                  have hHeld := hH2
                  clear hH2
                  (try simp only [List.getElem_toArray, List.getElem_cons_zero, List.getElem_cons_succ, Act.put, List.setIfInBounds_toArray, List.set_cons_zero, List.set_cons_succ])
                  refine wpL.ready (rs := [23]) (by kernel_rfl) (by simp) ?_
                  refine AllL.cons rfl (fun K hK => ?_) AllL.nil
                  have e40 := h39.perm (show _ = Both (CellT g22 #[.int .i64 dp] tInt) (Both (CellT kx (wl8C b gv wv pv) tWl8) (Both (CellT (k8 + 1) #[du] tStr) (Both (RowG tStr 1 (.slice ao1 (l.length + 1) cp1) (l.length + 1) ((l.map Nd.u) ++ [du])) (Both (RowG tTxs 1 (.slice ao2 (l.length + 1) cp2) (l.length + 1) ((l.map Nd.wv) ++ [(.slice da dL.length dc)])) (Both (RowG tInt 1 pv l.length (wps l)) (Both (CellT g8 #[du] tStr) (Both (CellT g15 #[.slice da dL.length dc] tTxs) R0))))))) by ac_rfl)
                  have f40 := cell_at e40.cell.1 0
                  refine step_append_ex rfl _ _ 28 rfl pv _ rfl rfl (append_cell_run (R := (Both (CellT kx (wl8C b gv wv pv) tWl8) (Both (CellT (k8 + 1) #[du] tStr) (Both (RowG tStr 1 (.slice ao1 (l.length + 1) cp1) (l.length + 1) ((l.map Nd.u) ++ [du])) (Both (RowG tTxs 1 (.slice ao2 (l.length + 1) cp2) (l.length + 1) ((l.map Nd.wv) ++ [(.slice da dL.length dc)])) (Both (CellT g8 #[du] tStr) (Both (CellT g15 #[.slice da dL.length dc] tTxs) (Both (CellT g22 #[.int .i64 dp] tInt) R0)))))))) (xs := (wps l)) (u := (.int .i64 dp)) 28 28 tInt Tryz.underlying28 info_intN rfl (h39.perm (by ac_rfl)) ((CellT.stable _ _ _).both ((CellT.stable _ _ _).both ((RowG.stable _ _ _ _ _).both ((RowG.stable _ _ _ _ _).both ((CellT.stable _ _ _).both ((CellT.stable _ _ _).both ((CellT.stable _ _ _).both hR0s))))))) f40 rfl (by unfold maxLen; omega) (by omega)) ?_
                  rintro ao3 cp3 w40 ⟨q40, _⟩
                  have h40 := q40.perm (show _ = (Both (CellT kx (wl8C b gv wv pv) tWl8) (Both (CellT (k8 + 1) #[du] tStr) (Both (RowG tStr 1 (.slice ao1 (l.length + 1) cp1) (l.length + 1) ((l.map Nd.u) ++ [du])) (Both (RowG tTxs 1 (.slice ao2 (l.length + 1) cp2) (l.length + 1) ((l.map Nd.wv) ++ [(.slice da dL.length dc)])) (Both (RowG tInt 1 (.slice ao3 (l.length + 1) cp3) (l.length + 1) ((wps l) ++ [(.int .i64 dp)])) (Both (CellT g8 #[du] tStr) (Both (CellT g15 #[.slice da dL.length dc] tTxs) (Both (CellT g22 #[.int .i64 dp] tInt) R0)))))))) by ac_rfl)
                  clear e40 f40 q40 h39
                  refine hK.out _ _ ?_ (fun hH2 => ?_)
                  next => (try dsimp only); exact fun _ => spS h40
                  clear hK K hHeld
                  have hHeld := hH2
                  clear hH2
                  (try simp only [List.getElem_toArray, List.getElem_cons_zero, List.getElem_cons_succ, Act.put, List.setIfInBounds_toArray, List.set_cons_zero, List.set_cons_succ])
                  have hT := HT.out ⟨g8, g15, g22, ao1, cp1, ao2, cp2, ao3, cp3⟩ w40 h40 (fun _ => spS h40)
                  simp only [List.getElem_toArray, List.getElem_cons_zero, List.getElem_cons_succ, Act.put, List.setIfInBounds_toArray, List.set_cons_zero, List.set_cons_succ] at hT
                  exact wpL.castL hT (by kernel_rfl) rfl rfl
                · skip
                  go_simp
                  have e41 := h37.newCell ((CellT.stable _ _ _).both ((CellT.stable _ _ _).both ((RowG.stable _ _ _ _ _).both ((RowG.stable _ _ _ _ _).both ((RowG.stable _ _ _ _ _).both ((CellT.stable _ _ _).both ((CellT.stable _ _ _).both hR0s))))))) #[.int .i64 dp] tInt
                  have h41 := e41.perm (show Both (CellT w37.heap.size #[.int .i64 dp] tInt) _ = (Both (CellT kx (wl8C b gv wv pv) tWl8) (Both (CellT (k8 + 1) #[du] tStr) (Both (RowG tStr 1 (.slice ao1 (l.length + 1) cp1) (l.length + 1) ((l.map Nd.u) ++ [du])) (Both (RowG tTxs 1 wv l.length (l.map Nd.wv)) (Both (RowG tInt 1 pv l.length (wps l)) (Both (CellT g8 #[du] tStr) (Both (CellT g15 #[.slice da dL.length dc] tTxs) (Both (CellT w37.heap.size #[.int .i64 dp] tInt) R0)))))))) by ac_rfl)
                  clear e41 h37
                  generalize w37.heap.size = g22 at *
                  generalize World.alloc _ _ = w41 at *
                  refine hK.out _ _ ?_ (fun hH2 => ?_)
                  next => (try dsimp only); exact fun _ => spS h41
                  clear hK K hHeld
                  have hHeld := hH2
                  clear hH2
                  (try simp only [List.getElem_toArray, List.getElem_cons_zero, List.getElem_cons_succ, Act.put, List.setIfInBounds_toArray, List.set_cons_zero, List.set_cons_succ])
                  refine wpL.ready (rs := [16]) (by kernel_rfl) (by simp) ?_
                  refine AllL.cons rfl (fun K hK => ?_) AllL.nil
                  have e42 := h41.perm (show _ = Both (CellT g15 #[.slice da dL.length dc] tTxs) (Both (CellT kx (wl8C b gv wv pv) tWl8) (Both (CellT (k8 + 1) #[du] tStr) (Both (RowG tStr 1 (.slice ao1 (l.length + 1) cp1) (l.length + 1) ((l.map Nd.u) ++ [du])) (Both (RowG tTxs 1 wv l.length (l.map Nd.wv)) (Both (RowG tInt 1 pv l.length (wps l)) (Both (CellT g8 #[du] tStr) (Both (CellT g22 #[.int .i64 dp] tInt) R0))))))) by ac_rfl)
                  have f42 := cell_at e42.cell.1 0
                  refine step_append_ex rfl _ _ 27 rfl wv _ rfl rfl (append_cell_run (R := (Both (CellT kx (wl8C b gv wv pv) tWl8) (Both (CellT (k8 + 1) #[du] tStr) (Both (RowG tStr 1 (.slice ao1 (l.length + 1) cp1) (l.length + 1) ((l.map Nd.u) ++ [du])) (Both (RowG tInt 1 pv l.length (wps l)) (Both (CellT g8 #[du] tStr) (Both (CellT g15 #[.slice da dL.length dc] tTxs) (Both (CellT g22 #[.int .i64 dp] tInt) R0)))))))) (xs := (l.map Nd.wv)) (u := (.slice da dL.length dc)) 27 27 tTxs Tryz.underlying27 info_TxsN rfl (h41.perm (by ac_rfl)) ((CellT.stable _ _ _).both ((CellT.stable _ _ _).both ((RowG.stable _ _ _ _ _).both ((RowG.stable _ _ _ _ _).both ((CellT.stable _ _ _).both ((CellT.stable _ _ _).both ((CellT.stable _ _ _).both hR0s))))))) f42 rfl (by unfold maxLen; omega) (by omega)) ?_
                  rintro ao2 cp2 w42 ⟨q42, _⟩
                  have h42 := q42.perm (show _ = (Both (CellT kx (wl8C b gv wv pv) tWl8) (Both (CellT (k8 + 1) #[du] tStr) (Both (RowG tStr 1 (.slice ao1 (l.length + 1) cp1) (l.length + 1) ((l.map Nd.u) ++ [du])) (Both (RowG tTxs 1 (.slice ao2 (l.length + 1) cp2) (l.length + 1) ((l.map Nd.wv) ++ [(.slice da dL.length dc)])) (Both (RowG tInt 1 pv l.length (wps l)) (Both (CellT g8 #[du] tStr) (Both (CellT g15 #[.slice da dL.length dc] tTxs) (Both (CellT g22 #[.int .i64 dp] tInt) R0)))))))) by ac_rfl)
                  clear e42 f42 q42 h41
                  refine hK.out _ _ ?_ (fun hH2 => ?_)
                  next => (try dsimp only); exact fun _ => spS h42
                  clear hK K hHeld
                  have hHeld := hH2
                  clear hH2
                  (try simp only [List.getElem_toArray, List.getElem_cons_zero, List.getElem_cons_succ, Act.put, List.setIfInBounds_toArray, List.set_cons_zero, List.set_cons_succ])
                  refine wpL.ready (rs := [23]) (by kernel_rfl) (by simp) ?_
                  refine AllL.cons rfl (fun K hK => ?_) AllL.nil
                  have e43 := h42.perm (show _ = Both (CellT g22 #[.int .i64 dp] tInt) (Both (CellT kx (wl8C b gv wv pv) tWl8) (Both (CellT (k8 + 1) #[du] tStr) (Both (RowG tStr 1 (.slice ao1 (l.length + 1) cp1) (l.length + 1) ((l.map Nd.u) ++ [du])) (Both (RowG tTxs 1 (.slice ao2 (l.length + 1) cp2) (l.length + 1) ((l.map Nd.wv) ++ [(.slice da dL.length dc)])) (Both (RowG tInt 1 pv l.length (wps l)) (Both (CellT g8 #[du] tStr) (Both (CellT g15 #[.slice da dL.length dc] tTxs) R0))))))) by ac_rfl)
                  have f43 := cell_at e43.cell.1 0
                  refine step_append_ex rfl _ _ 28 rfl pv _ rfl rfl (append_cell_run (R := (Both (CellT kx (wl8C b gv wv pv) tWl8) (Both (CellT (k8 + 1) #[du] tStr) (Both (RowG tStr 1 (.slice ao1 (l.length + 1) cp1) (l.length + 1) ((l.map Nd.u) ++ [du])) (Both (RowG tTxs 1 (.slice ao2 (l.length + 1) cp2) (l.length + 1) ((l.map Nd.wv) ++ [(.slice da dL.length dc)])) (Both (CellT g8 #[du] tStr) (Both (CellT g15 #[.slice da dL.length dc] tTxs) (Both (CellT g22 #[.int .i64 dp] tInt) R0)))))))) (xs := (wps l)) (u := (.int .i64 dp)) 28 28 tInt Tryz.underlying28 info_intN rfl (h42.perm (by ac_rfl)) ((CellT.stable _ _ _).both ((CellT.stable _ _ _).both ((RowG.stable _ _ _ _ _).both ((RowG.stable _ _ _ _ _).both ((CellT.stable _ _ _).both ((CellT.stable _ _ _).both ((CellT.stable _ _ _).both hR0s))))))) f43 rfl (by unfold maxLen; omega) (by omega)) ?_
                  rintro ao3 cp3 w43 ⟨q43, _⟩
                  have h43 := q43.perm (show _ = (Both (CellT kx (wl8C b gv wv pv) tWl8) (Both (CellT (k8 + 1) #[du] tStr) (Both (RowG tStr 1 (.slice ao1 (l.length + 1) cp1) (l.length + 1) ((l.map Nd.u) ++ [du])) (Both (RowG tTxs 1 (.slice ao2 (l.length + 1) cp2) (l.length + 1) ((l.map Nd.wv) ++ [(.slice da dL.length dc)])) (Both (RowG tInt 1 (.slice ao3 (l.length + 1) cp3) (l.length + 1) ((wps l) ++ [(.int .i64 dp)])) (Both (CellT g8 #[du] tStr) (Both (CellT g15 #[.slice da dL.length dc] tTxs) (Both (CellT g22 #[.int .i64 dp] tInt) R0)))))))) by ac_rfl)
                  clear e43 f43 q43 h42
                  refine hK.out _ _ ?_ (fun hH2 => ?_)
                  next => (try dsimp only); exact fun _ => spS h43
                  clear hK K hHeld
                  have hHeld := hH2
                  clear hH2
                  (try simp only [List.getElem_toArray, List.getElem_cons_zero, List.getElem_cons_succ, Act.put, List.setIfInBounds_toArray, List.set_cons_zero, List.set_cons_succ])
                  have hT := HT.out ⟨g8, g15, g22, ao1, cp1, ao2, cp2, ao3, cp3⟩ w43 h43 (fun _ => spS h43)
                  simp only [List.getElem_toArray, List.getElem_cons_zero, List.getElem_cons_succ, Act.put, List.setIfInBounds_toArray, List.set_cons_zero, List.set_cons_succ] at hT
                  exact wpL.castL hT (by kernel_rfl) rfl rfl
              · skip
                go_simp
                have e44 := h36.newCell ((CellT.stable _ _ _).both ((CellT.stable _ _ _).both ((RowG.stable _ _ _ _ _).both ((RowG.stable _ _ _ _ _).both ((RowG.stable _ _ _ _ _).both ((CellT.stable _ _ _).both ((CellT.stable _ _ _).both hR0s))))))) #[.int .i64 dp] tInt
                have h44 := e44.perm (show Both (CellT w36.heap.size #[.int .i64 dp] tInt) _ = (Both (CellT kx (wl8C b gv wv pv) tWl8) (Both (CellT (k8 + 1) #[du] tStr) (Both (RowG tStr 1 gv l.length (l.map Nd.u)) (Both (RowG tTxs 1 wv l.length (l.map Nd.wv)) (Both (RowG tInt 1 pv l.length (wps l)) (Both (CellT g8 #[du] tStr) (Both (CellT g15 #[.slice da dL.length dc] tTxs) (Both (CellT w36.heap.size #[.int .i64 dp] tInt) R0)))))))) by ac_rfl)
                clear e44 h36
                generalize w36.heap.size = g22 at *
                generalize World.alloc _ _ = w44 at *
                refine hK.out _ _ ?_ (fun hH2 => ?_)
                next => (try dsimp only); exact fun _ => spS h44
                clear hK K hHeld
                have hHeld := hH2
                clear hH2
                (try simp only [List.getElem_toArray, List.getElem_cons_zero, List.getElem_cons_succ, Act.put, List.setIfInBounds_toArray, List.set_cons_zero, List.set_cons_succ])
                refine wpL.ready (rs := [9]) (by kernel_rfl) (by simp) ?_
                refine AllL.cons rfl (fun K hK => ?_) AllL.nil
                have e45 := h44.perm (show _ = Both (CellT g8 #[du] tStr) (Both (CellT kx (wl8C b gv wv pv) tWl8) (Both (CellT (k8 + 1) #[du] tStr) (Both (RowG tStr 1 gv l.length (l.map Nd.u)) (Both (RowG tTxs 1 wv l.length (l.map Nd.wv)) (Both (RowG tInt 1 pv l.length (wps l)) (Both (CellT g15 #[.slice da dL.length dc] tTxs) (Both (CellT g22 #[.int .i64 dp] tInt) R0))))))) by ac_rfl)
                have f45 := cell_at e45.cell.1 0
                refine step_append_ex rfl _ _ 26 rfl gv _ rfl rfl (append_cell_run (R := (Both (CellT kx (wl8C b gv wv pv) tWl8) (Both (CellT (k8 + 1) #[du] tStr) (Both (RowG tTxs 1 wv l.length (l.map Nd.wv)) (Both (RowG tInt 1 pv l.length (wps l)) (Both (CellT g8 #[du] tStr) (Both (CellT g15 #[.slice da dL.length dc] tTxs) (Both (CellT g22 #[.int .i64 dp] tInt) R0)))))))) (xs := (l.map Nd.u)) (u := du) 26 26 tStr Tryz.underlying26 info_St rfl (h44.perm (by ac_rfl)) ((CellT.stable _ _ _).both ((CellT.stable _ _ _).both ((RowG.stable _ _ _ _ _).both ((RowG.stable _ _ _ _ _).both ((CellT.stable _ _ _).both ((CellT.stable _ _ _).both ((CellT.stable _ _ _).both hR0s))))))) f45 hfo (by unfold maxLen; omega) (by omega)) ?_
                rintro ao1 cp1 w45 ⟨q45, _⟩
                have h45 := q45.perm (show _ = (Both (CellT kx (wl8C b gv wv pv) tWl8) (Both (CellT (k8 + 1) #[du] tStr) (Both (RowG tStr 1 (.slice ao1 (l.length + 1) cp1) (l.length + 1) ((l.map Nd.u) ++ [du])) (Both (RowG tTxs 1 wv l.length (l.map Nd.wv)) (Both (RowG tInt 1 pv l.length (wps l)) (Both (CellT g8 #[du] tStr) (Both (CellT g15 #[.slice da dL.length dc] tTxs) (Both (CellT g22 #[.int .i64 dp] tInt) R0)))))))) by ac_rfl)
                clear e45 f45 q45 h44
                refine hK.out _ _ ?_ (fun hH2 => ?_)
                next => (try dsimp only); exact fun _ => spS h45
                clear hK K hHeld
                have hHeld := hH2
                clear hH2
                (try simp only [List.getElem_toArray, List.getElem_cons_zero, List.getElem_cons_succ, Act.put, List.setIfInBounds_toArray, List.set_cons_zero, List.set_cons_succ])
                refine wpL.ready (rs := [16]) (by kernel_rfl) (by simp) ?_
                refine AllL.cons rfl (fun K hK => ?_) AllL.nil
                have e46 := h45.perm (show _ = Both (CellT g15 #[.slice da dL.length dc] tTxs) (Both (CellT kx (wl8C b gv wv pv) tWl8) (Both (CellT (k8 + 1) #[du] tStr) (Both (RowG tStr 1 (.slice ao1 (l.length + 1) cp1) (l.length + 1) ((l.map Nd.u) ++ [du])) (Both (RowG tTxs 1 wv l.length (l.map Nd.wv)) (Both (RowG tInt 1 pv l.length (wps l)) (Both (CellT g8 #[du] tStr) (Both (CellT g22 #[.int .i64 dp] tInt) R0))))))) by ac_rfl)
                have f46 := cell_at e46.cell.1 0
                refine step_append_ex rfl _ _ 27 rfl wv _ rfl rfl (append_cell_run (R := (Both (CellT kx (wl8C b gv wv pv) tWl8) (Both (CellT (k8 + 1) #[du] tStr) (Both (RowG tStr 1 (.slice ao1 (l.length + 1) cp1) (l.length + 1) ((l.map Nd.u) ++ [du])) (Both (RowG tInt 1 pv l.length (wps l)) (Both (CellT g8 #[du] tStr) (Both (CellT g15 #[.slice da dL.length dc] tTxs) (Both (CellT g22 #[.int .i64 dp] tInt) R0)))))))) (xs := (l.map Nd.wv)) (u := (.slice da dL.length dc)) 27 27 tTxs Tryz.underlying27 info_TxsN rfl (h45.perm (by ac_rfl)) ((CellT.stable _ _ _).both ((CellT.stable _ _ _).both ((RowG.stable _ _ _ _ _).both ((RowG.stable _ _ _ _ _).both ((CellT.stable _ _ _).both ((CellT.stable _ _ _).both ((CellT.stable _ _ _).both hR0s))))))) f46 rfl (by unfold maxLen; omega) (by omega)) ?_
                rintro ao2 cp2 w46 ⟨q46, _⟩
                have h46 := q46.perm (show _ = (Both (CellT kx (wl8C b gv wv pv) tWl8) (Both (CellT (k8 + 1) #[du] tStr) (Both (RowG tStr 1 (.slice ao1 (l.length + 1) cp1) (l.length + 1) ((l.map Nd.u) ++ [du])) (Both (RowG tTxs 1 (.slice ao2 (l.length + 1) cp2) (l.length + 1) ((l.map Nd.wv) ++ [(.slice da dL.length dc)])) (Both (RowG tInt 1 pv l.length (wps l)) (Both (CellT g8 #[du] tStr) (Both (CellT g15 #[.slice da dL.length dc] tTxs) (Both (CellT g22 #[.int .i64 dp] tInt) R0)))))))) by ac_rfl)
                clear e46 f46 q46 h45
                refine hK.out _ _ ?_ (fun hH2 => ?_)
                next => (try dsimp only); exact fun _ => spS h46
                clear hK K hHeld
                have hHeld := hH2
                clear hH2
                (try simp only [List.getElem_toArray, List.getElem_cons_zero, List.getElem_cons_succ, Act.put, List.setIfInBounds_toArray, List.set_cons_zero, List.set_cons_succ])
                refine wpL.ready (rs := [23]) (by kernel_rfl) (by simp) ?_
                refine AllL.cons rfl (fun K hK => ?_) AllL.nil
                have e47 := h46.perm (show _ = Both (CellT g22 #[.int .i64 dp] tInt) (Both (CellT kx (wl8C b gv wv pv) tWl8) (Both (CellT (k8 + 1) #[du] tStr) (Both (RowG tStr 1 (.slice ao1 (l.length + 1) cp1) (l.length + 1) ((l.map Nd.u) ++ [du])) (Both (RowG tTxs 1 (.slice ao2 (l.length + 1) cp2) (l.length + 1) ((l.map Nd.wv) ++ [(.slice da dL.length dc)])) (Both (RowG tInt 1 pv l.length (wps l)) (Both (CellT g8 #[du] tStr) (Both (CellT g15 #[.slice da dL.length dc] tTxs) R0))))))) by ac_rfl)
                have f47 := cell_at e47.cell.1 0
                refine step_append_ex rfl _ _ 28 rfl pv _ rfl rfl (append_cell_run (R := (Both (CellT kx (wl8C b gv wv pv) tWl8) (Both (CellT (k8 + 1) #[du] tStr) (Both (RowG tStr 1 (.slice ao1 (l.length + 1) cp1) (l.length + 1) ((l.map Nd.u) ++ [du])) (Both (RowG tTxs 1 (.slice ao2 (l.length + 1) cp2) (l.length + 1) ((l.map Nd.wv) ++ [(.slice da dL.length dc)])) (Both (CellT g8 #[du] tStr) (Both (CellT g15 #[.slice da dL.length dc] tTxs) (Both (CellT g22 #[.int .i64 dp] tInt) R0)))))))) (xs := (wps l)) (u := (.int .i64 dp)) 28 28 tInt Tryz.underlying28 info_intN rfl (h46.perm (by ac_rfl)) ((CellT.stable _ _ _).both ((CellT.stable _ _ _).both ((RowG.stable _ _ _ _ _).both ((RowG.stable _ _ _ _ _).both ((CellT.stable _ _ _).both ((CellT.stable _ _ _).both ((CellT.stable _ _ _).both hR0s))))))) f47 rfl (by unfold maxLen; omega) (by omega)) ?_
                rintro ao3 cp3 w47 ⟨q47, _⟩
                have h47 := q47.perm (show _ = (Both (CellT kx (wl8C b gv wv pv) tWl8) (Both (CellT (k8 + 1) #[du] tStr) (Both (RowG tStr 1 (.slice ao1 (l.length + 1) cp1) (l.length + 1) ((l.map Nd.u) ++ [du])) (Both (RowG tTxs 1 (.slice ao2 (l.length + 1) cp2) (l.length + 1) ((l.map Nd.wv) ++ [(.slice da dL.length dc)])) (Both (RowG tInt 1 (.slice ao3 (l.length + 1) cp3) (l.length + 1) ((wps l) ++ [(.int .i64 dp)])) (Both (CellT g8 #[du] tStr) (Both (CellT g15 #[.slice da dL.length dc] tTxs) (Both (CellT g22 #[.int .i64 dp] tInt) R0)))))))) by ac_rfl)
                clear e47 f47 q47 h46
                refine hK.out _ _ ?_ (fun hH2 => ?_)
                next => (try dsimp only); exact fun _ => spS h47
                clear hK K hHeld
                have hHeld := hH2
                clear hH2
                (try simp only [List.getElem_toArray, List.getElem_cons_zero, List.getElem_cons_succ, Act.put, List.setIfInBounds_toArray, List.set_cons_zero, List.set_cons_succ])
                have hT := HT.out ⟨g8, g15, g22, ao1, cp1, ao2, cp2, ao3, cp3⟩ w47 h47 (fun _ => spS h47)
                simp only [List.getElem_toArray, List.getElem_cons_zero, List.getElem_cons_succ, Act.put, List.setIfInBounds_toArray, List.set_cons_zero, List.set_cons_succ] at hT
                exact wpL.castL hT (by kernel_rfl) rfl rfl
            · skip
              go_simp
              have e48 := h35.newCell ((CellT.stable _ _ _).both ((CellT.stable _ _ _).both ((RowG.stable _ _ _ _ _).both ((RowG.stable _ _ _ _ _).both ((RowG.stable _ _ _ _ _).both ((CellT.stable _ _ _).both hR0s)))))) #[.int .i64 dp] tInt
              have h48 := e48.perm (show Both (CellT w35.heap.size #[.int .i64 dp] tInt) _ = (Both (CellT kx (wl8C b gv wv pv) tWl8) (Both (CellT (k8 + 1) #[du] tStr) (Both (RowG tStr 1 gv l.length (l.map Nd.u)) (Both (RowG tTxs 1 wv l.length (l.map Nd.wv)) (Both (RowG tInt 1 pv l.length (wps l)) (Both (CellT g15 #[.slice da dL.length dc] tTxs) (Both (CellT w35.heap.size #[.int .i64 dp] tInt) R0))))))) by ac_rfl)
              clear e48 h35
              generalize w35.heap.size = g22 at *
              generalize World.alloc _ _ = w48 at *
              refine hK.out _ _ ?_ (fun hH2 => ?_)
              next => (try dsimp only); exact fun _ => spS h48
              clear hK K hHeld
              have hHeld := hH2
              clear hH2
              (try simp only [List.getElem_toArray, List.getElem_cons_zero, List.getElem_cons_succ, Act.put, List.setIfInBounds_toArray, List.set_cons_zero, List.set_cons_succ])
              refine wpL.ready (rs := [8]) (by kernel_rfl) (by simp) ?_
              refine AllL.cons rfl (fun K hK => ?_) AllL.nil
              go_simp
              have e49 := h48.newCell ((CellT.stable _ _ _).both ((CellT.stable _ _ _).both ((RowG.stable _ _ _ _ _).both ((RowG.stable _ _ _ _ _).both ((RowG.stable _ _ _ _ _).both ((CellT.stable _ _ _).both ((CellT.stable _ _ _).both hR0s))))))) #[du] tStr
              have h49 := e49.perm (show Both (CellT w48.heap.size #[du] tStr) _ = (Both (CellT kx (wl8C b gv wv pv) tWl8) (Both (CellT (k8 + 1) #[du] tStr) (Both (RowG tStr 1 gv l.length (l.map Nd.u)) (Both (RowG tTxs 1 wv l.length (l.map Nd.wv)) (Both (RowG tInt 1 pv l.length (wps l)) (Both (CellT w48.heap.size #[du] tStr) (Both (CellT g15 #[.slice da dL.length dc] tTxs) (Both (CellT g22 #[.int .i64 dp] tInt) R0)))))))) by ac_rfl)
              clear e49 h48
              generalize w48.heap.size = g8 at *
              generalize World.alloc _ _ = w49 at *
              refine hK.out _ _ ?_ (fun hH2 => ?_)
              next => (try dsimp only); exact fun _ => spS h49
              clear hK K hHeld
              have hHeld := hH2
              clear hH2
              (try simp only [List.getElem_toArray, List.getElem_cons_zero, List.getElem_cons_succ, Act.put, List.setIfInBounds_toArray, List.set_cons_zero, List.set_cons_succ])
              refine wpL.ready (rs := [9]) (by kernel_rfl) (by simp) ?_
              refine AllL.cons rfl (fun K hK => ?_) AllL.nil
              have e50 := h49.perm (show _ = Both (CellT g8 #[du] tStr) (Both (CellT kx (wl8C b gv wv pv) tWl8) (Both (CellT (k8 + 1) #[du] tStr) (Both (RowG tStr 1 gv l.length (l.map Nd.u)) (Both (RowG tTxs 1 wv l.length (l.map Nd.wv)) (Both (RowG tInt 1 pv l.length (wps l)) (Both (CellT g15 #[.slice da dL.length dc] tTxs) (Both (CellT g22 #[.int .i64 dp] tInt) R0))))))) by ac_rfl)
              have f50 := cell_at e50.cell.1 0
              refine step_append_ex rfl _ _ 26 rfl gv _ rfl rfl (append_cell_run (R := (Both (CellT kx (wl8C b gv wv pv) tWl8) (Both (CellT (k8 + 1) #[du] tStr) (Both (RowG tTxs 1 wv l.length (l.map Nd.wv)) (Both (RowG tInt 1 pv l.length (wps l)) (Both (CellT g8 #[du] tStr) (Both (CellT g15 #[.slice da dL.length dc] tTxs) (Both (CellT g22 #[.int .i64 dp] tInt) R0)))))))) (xs := (l.map Nd.u)) (u := du) 26 26 tStr Tryz.underlying26 info_St rfl (h49.perm (by ac_rfl)) ((CellT.stable _ _ _).both ((CellT.stable _ _ _).both ((RowG.stable _ _ _ _ _).both ((RowG.stable _ _ _ _ _).both ((CellT.stable _ _ _).both ((CellT.stable _ _ _).both ((CellT.stable _ _ _).both hR0s))))))) f50 hfo (by unfold maxLen; omega) (by omega)) ?_
              rintro ao1 cp1 w50 ⟨q50, _⟩
              have h50 := q50.perm (show _ = (Both (CellT kx (wl8C b gv wv pv) tWl8) (Both (CellT (k8 + 1) #[du] tStr) (Both (RowG tStr 1 (.slice ao1 (l.length + 1) cp1) (l.length + 1) ((l.map Nd.u) ++ [du])) (Both (RowG tTxs 1 wv l.length (l.map Nd.wv)) (Both (RowG tInt 1 pv l.length (wps l)) (Both (CellT g8 #[du] tStr) (Both (CellT g15 #[.slice da dL.length dc] tTxs) (Both (CellT g22 #[.int .i64 dp] tInt) R0)))))))) by ac_rfl)
              clear e50 f50 q50 h49
              refine hK.out _ _ ?_ (fun hH2 => ?_)
              next => (try dsimp only); exact fun _ => spS h50
              clear hK K hHeld
              have hHeld := hH2
              clear hH2
              (try simp only [List.getElem_toArray, List.getElem_cons_zero, List.getElem_cons_succ, Act.put, List.setIfInBounds_toArray, List.set_cons_zero, List.set_cons_succ])
              refine wpL.ready (rs := [16]) (by kernel_rfl) (by simp) ?_
              refine AllL.cons rfl (fun K hK => ?_) AllL.nil
              have e51 := h50.perm (show _ = Both (CellT g15 #[.slice da dL.length dc] tTxs) (Both (CellT kx (wl8C b gv wv pv) tWl8) (Both (CellT (k8 + 1) #[du] tStr) (Both (RowG tStr 1 (.slice ao1 (l.length + 1) cp1) (l.length + 1) ((l.map Nd.u) ++ [du])) (Both (RowG tTxs 1 wv l.length (l.map Nd.wv)) (Both (RowG tInt 1 pv l.length (wps l)) (Both (CellT g8 #[du] tStr) (Both (CellT g22 #[.int .i64 dp] tInt) R0))))))) by ac_rfl)
              have f51 := cell_at e51.cell.1 0
              refine step_append_ex rfl _ _ 27 rfl wv _ rfl rfl (append_cell_run (R := (Both (CellT kx (wl8C b gv wv pv) tWl8) (Both (CellT (k8 + 1) #[du] tStr) (Both (RowG tStr 1 (.slice ao1 (l.length + 1) cp1) (l.length + 1) ((l.map Nd.u) ++ [du])) (Both (RowG tInt 1 pv l.length (wps l)) (Both (CellT g8 #[du] tStr) (Both (CellT g15 #[.slice da dL.length dc] tTxs) (Both (CellT g22 #[.int .i64 dp] tInt) R0)))))))) (xs := (l.map Nd.wv)) (u := (.slice da dL.length dc)) 27 27 tTxs Tryz.underlying27 info_TxsN rfl (h50.perm (by ac_rfl)) ((CellT.stable _ _ _).both ((CellT.stable _ _ _).both ((RowG.stable _ _ _ _ _).both ((RowG.stable _ _ _ _ _).both ((CellT.stable _ _ _).both ((CellT.stable _ _ _).both ((CellT.stable _ _ _).both hR0s))))))) f51 rfl (by unfold maxLen; omega) (by omega)) ?_
              rintro ao2 cp2 w51 ⟨q51, _⟩
              have h51 := q51.perm (show _ = (Both (CellT kx (wl8C b gv wv pv) tWl8) (Both (CellT (k8 + 1) #[du] tStr) (Both (RowG tStr 1 (.slice ao1 (l.length + 1) cp1) (l.length + 1) ((l.map Nd.u) ++ [du])) (Both (RowG tTxs 1 (.slice ao2 (l.length + 1) cp2) (l.length + 1) ((l.map Nd.wv) ++ [(.slice da dL.length dc)])) (Both (RowG tInt 1 pv l.length (wps l)) (Both (CellT g8 #[du] tStr) (Both (CellT g15 #[.slice da dL.length dc] tTxs) (Both (CellT g22 #[.int .i64 dp] tInt) R0)))))))) by ac_rfl)
              clear e51 f51 q51 h50
              refine hK.out _ _ ?_ (fun hH2 => ?_)
              next => (try dsimp only); exact fun _ => spS h51
              clear hK K hHeld
              have hHeld := hH2
              clear hH2
              (try simp only [List.getElem_toArray, List.getElem_cons_zero, List.getElem_cons_succ, Act.put, List.setIfInBounds_toArray, List.set_cons_zero, List.set_cons_succ])
              refine wpL.ready (rs := [23]) (by kernel_rfl) (by simp) ?_
              refine AllL.cons rfl (fun K hK => ?_) AllL.nil
              have e52 := h51.perm (show _ = Both (CellT g22 #[.int .i64 dp] tInt) (Both (CellT kx (wl8C b gv wv pv) tWl8) (Both (CellT (k8 + 1) #[du] tStr) (Both (RowG tStr 1 (.slice ao1 (l.length + 1) cp1) (l.length + 1) ((l.map Nd.u) ++ [du])) (Both (RowG tTxs 1 (.slice ao2 (l.length + 1) cp2) (l.length + 1) ((l.map Nd.wv) ++ [(.slice da dL.length dc)])) (Both (RowG tInt 1 pv l.length (wps l)) (Both (CellT g8 #[du] tStr) (Both (CellT g15 #[.slice da dL.length dc] tTxs) R0))))))) by ac_rfl)
              have f52 := cell_at e52.cell.1 0
              refine step_append_ex rfl _ _ 28 rfl pv _ rfl rfl (append_cell_run (R := (Both (CellT kx (wl8C b gv wv pv) tWl8) (Both (CellT (k8 + 1) #[du] tStr) (Both (RowG tStr 1 (.slice ao1 (l.length + 1) cp1) (l.length + 1) ((l.map Nd.u) ++ [du])) (Both (RowG tTxs 1 (.slice ao2 (l.length + 1) cp2) (l.length + 1) ((l.map Nd.wv) ++ [(.slice da dL.length dc)])) (Both (CellT g8 #[du] tStr) (Both (CellT g15 #[.slice da dL.length dc] tTxs) (Both (CellT g22 #[.int .i64 dp] tInt) R0)))))))) (xs := (wps l)) (u := (.int .i64 dp)) 28 28 tInt Tryz.underlying28 info_intN rfl (h51.perm (by ac_rfl)) ((CellT.stable _ _ _).both ((CellT.stable _ _ _).both ((RowG.stable _ _ _ _ _).both ((RowG.stable _ _ _ _ _).both ((CellT.stable _ _ _).both ((CellT.stable _ _ _).both ((CellT.stable _ _ _).both hR0s))))))) f52 rfl (by unfold maxLen; omega) (by omega)) ?_
              rintro ao3 cp3 w52 ⟨q52, _⟩
              have h52 := q52.perm (show _ = (Both (CellT kx (wl8C b gv wv pv) tWl8) (Both (CellT (k8 + 1) #[du] tStr) (Both (RowG tStr 1 (.slice ao1 (l.length + 1) cp1) (l.length + 1) ((l.map Nd.u) ++ [du])) (Both (RowG tTxs 1 (.slice ao2 (l.length + 1) cp2) (l.length + 1) ((l.map Nd.wv) ++ [(.slice da dL.length dc)])) (Both (RowG tInt 1 (.slice ao3 (l.length + 1) cp3) (l.length + 1) ((wps l) ++ [(.int .i64 dp)])) (Both (CellT g8 #[du] tStr) (Both (CellT g15 #[.slice da dL.length dc] tTxs) (Both (CellT g22 #[.int .i64 dp] tInt) R0)))))))) by ac_rfl)
              clear e52 f52 q52 h51
              refine hK.out _ _ ?_ (fun hH2 => ?_)
              next => (try dsimp only); exact fun _ => spS h52
              clear hK K hHeld
              have hHeld := hH2
              clear hH2
              (try simp only [List.getElem_toArray, List.getElem_cons_zero, List.getElem_cons_succ, Act.put, List.setIfInBounds_toArray, List.set_cons_zero, List.set_cons_succ])
              have hT := HT.out ⟨g8, g15, g22, ao1, cp1, ao2, cp2, ao3, cp3⟩ w52 h52 (fun _ => spS h52)
              simp only [List.getElem_toArray, List.getElem_cons_zero, List.getElem_cons_succ, Act.put, List.setIfInBounds_toArray, List.set_cons_zero, List.set_cons_succ] at hT
              exact wpL.castL hT (by kernel_rfl) rfl rfl
          · skip
            go_simp
            have e53 := h12.newCell ((CellT.stable _ _ _).both ((CellT.stable _ _ _).both ((RowG.stable _ _ _ _ _).both ((RowG.stable _ _ _ _ _).both ((RowG.stable _ _ _ _ _).both hR0s))))) #[.int .i64 dp] tInt
            have h53 := e53.perm (show Both (CellT w12.heap.size #[.int .i64 dp] tInt) _ = (Both (CellT kx (wl8C b gv wv pv) tWl8) (Both (CellT (k8 + 1) #[du] tStr) (Both (RowG tStr 1 gv l.length (l.map Nd.u)) (Both (RowG tTxs 1 wv l.length (l.map Nd.wv)) (Both (RowG tInt 1 pv l.length (wps l)) (Both (CellT w12.heap.size #[.int .i64 dp] tInt) R0)))))) by ac_rfl)
            clear e53 h12
            generalize w12.heap.size = g22 at *
            generalize World.alloc _ _ = w53 at *
            refine hK.out _ _ ?_ (fun hH2 => ?_)
            next => (try dsimp only); exact fun _ => spS h53
            clear hK K hHeld
            have hHeld := hH2
            clear hH2
            (try simp only [List.getElem_toArray, List.getElem_cons_zero, List.getElem_cons_succ, Act.put, List.setIfInBounds_toArray, List.set_cons_zero, List.set_cons_succ])
            refine wpL.ready (rs := [8, 15]) (by kernel_rfl) (by simp) ?_
            refine AllL.cons rfl (fun K hK => ?_) (AllL.cons rfl (fun K hK => ?_) AllL.nil)
            · skip
              go_simp
              have e54 := h53.newCell ((CellT.stable _ _ _).both ((CellT.stable _ _ _).both ((RowG.stable _ _ _ _ _).both ((RowG.stable _ _ _ _ _).both ((RowG.stable _ _ _ _ _).both ((CellT.stable _ _ _).both hR0s)))))) #[du] tStr
              have h54 := e54.perm (show Both (CellT w53.heap.size #[du] tStr) _ = (Both (CellT kx (wl8C b gv wv pv) tWl8) (Both (CellT (k8 + 1) #[du] tStr) (Both (RowG tStr 1 gv l.length (l.map Nd.u)) (Both (RowG tTxs 1 wv l.length (l.map Nd.wv)) (Both (RowG tInt 1 pv l.length (wps l)) (Both (CellT w53.heap.size #[du] tStr) (Both (CellT g22 #[.int .i64 dp] tInt) R0))))))) by ac_rfl)
              clear e54 h53
              generalize w53.heap.size = g8 at *
              generalize World.alloc _ _ = w54 at *
              refine hK.out _ _ ?_ (fun hH2 => ?_)
              next => (try dsimp only); exact fun _ => spS h54
              clear hK K hHeld
              have hHeld := hH2
              clear hH2
              (try simp only [List.getElem_toArray, List.getElem_cons_zero, List.getElem_cons_succ, Act.put, List.setIfInBounds_toArray, List.set_cons_zero, List.set_cons_succ])
              refine wpL.ready (rs := [9, 15]) (by kernel_rfl) (by simp) ?_
              refine AllL.cons rfl (fun K hK => ?_) (AllL.cons rfl (fun K hK => ?_) AllL.nil)
              · skip
                have e55 := h54.perm (show _ = Both (CellT g8 #[du] tStr) (Both (CellT kx (wl8C b gv wv pv) tWl8) (Both (CellT (k8 + 1) #[du] tStr) (Both (RowG tStr 1 gv l.length (l.map Nd.u)) (Both (RowG tTxs 1 wv l.length (l.map Nd.wv)) (Both (RowG tInt 1 pv l.length (wps l)) (Both (CellT g22 #[.int .i64 dp] tInt) R0)))))) by ac_rfl)
                have f55 := cell_at e55.cell.1 0
                refine step_append_ex rfl _ _ 26 rfl gv _ rfl rfl (append_cell_run (R := (Both (CellT kx (wl8C b gv wv pv) tWl8) (Both (CellT (k8 + 1) #[du] tStr) (Both (RowG tTxs 1 wv l.length (l.map Nd.wv)) (Both (RowG tInt 1 pv l.length (wps l)) (Both (CellT g8 #[du] tStr) (Both (CellT g22 #[.int .i64 dp] tInt) R0))))))) (xs := (l.map Nd.u)) (u := du) 26 26 tStr Tryz.underlying26 info_St rfl (h54.perm (by ac_rfl)) ((CellT.stable _ _ _).both ((CellT.stable _ _ _).both ((RowG.stable _ _ _ _ _).both ((RowG.stable _ _ _ _ _).both ((CellT.stable _ _ _).both ((CellT.stable _ _ _).both hR0s)))))) f55 hfo (by unfold maxLen; omega) (by omega)) ?_
                rintro ao1 cp1 w55 ⟨q55, _⟩
                have h55 := q55.perm (show _ = (Both (CellT kx (wl8C b gv wv pv) tWl8) (Both (CellT (k8 + 1) #[du] tStr) (Both (RowG tStr 1 (.slice ao1 (l.length + 1) cp1) (l.length + 1) ((l.map Nd.u) ++ [du])) (Both (RowG tTxs 1 wv l.length (l.map Nd.wv)) (Both (RowG tInt 1 pv l.length (wps l)) (Both (CellT g8 #[du] tStr) (Both (CellT g22 #[.int .i64 dp] tInt) R0))))))) by ac_rfl)
                clear e55 f55 q55 h54
                refine hK.out _ _ ?_ (fun hH2 => ?_)
                next => (try dsimp only); exact fun _ => spS h55
                clear hK K hHeld
                have hHeld := hH2
                clear hH2
                (try simp only [List.getElem_toArray, List.getElem_cons_zero, List.getElem_cons_succ, Act.put, List.setIfInBounds_toArray, List.set_cons_zero, List.set_cons_succ])
                refine wpL.ready (rs := [15]) (by kernel_rfl) (by simp) ?_
                refine AllL.cons rfl (fun K hK => ?_) AllL.nil
                go_simp
                have e56 := h55.newCell ((CellT.stable _ _ _).both ((CellT.stable _ _ _).both ((RowG.stable _ _ _ _ _).both ((RowG.stable _ _ _ _ _).both ((RowG.stable _ _ _ _ _).both ((CellT.stable _ _ _).both ((CellT.stable _ _ _).both hR0s))))))) #[.slice da dL.length dc] tTxs
                have h56 := e56.perm (show Both (CellT w55.heap.size #[.slice da dL.length dc] tTxs) _ = (Both (CellT kx (wl8C b gv wv pv) tWl8) (Both (CellT (k8 + 1) #[du] tStr) (Both (RowG tStr 1 (.slice ao1 (l.length + 1) cp1) (l.length + 1) ((l.map Nd.u) ++ [du])) (Both (RowG tTxs 1 wv l.length (l.map Nd.wv)) (Both (RowG tInt 1 pv l.length (wps l)) (Both (CellT g8 #[du] tStr) (Both (CellT w55.heap.size #[.slice da dL.length dc] tTxs) (Both (CellT g22 #[.int .i64 dp] tInt) R0)))))))) by ac_rfl)
                clear e56 h55
                generalize w55.heap.size = g15 at *
                generalize World.alloc _ _ = w56 at *
                refine hK.out _ _ ?_ (fun hH2 => ?_)
                next => (try dsimp only); exact fun _ => spS h56
                clear hK K hHeld
                have hHeld := hH2
                clear hH2
                (try simp only [List.getElem_toArray, List.getElem_cons_zero, List.getElem_cons_succ, Act.put, List.setIfInBounds_toArray, List.set_cons_zero, List.set_cons_succ])
                refine wpL.ready (rs := [16]) (by kernel_rfl) (by simp) ?_
                refine AllL.cons rfl (fun K hK => ?_) AllL.nil
                have e57 := h56.perm (show _ = Both (CellT g15 #[.slice da dL.length dc] tTxs) (Both (CellT kx (wl8C b gv wv pv) tWl8) (Both (CellT (k8 + 1) #[du] tStr) (Both (RowG tStr 1 (.slice ao1 (l.length + 1) cp1) (l.length + 1) ((l.map Nd.u) ++ [du])) (Both (RowG tTxs 1 wv l.length (l.map Nd.wv)) (Both (RowG tInt 1 pv l.length (wps l)) (Both (CellT g8 #[du] tStr) (Both (CellT g22 #[.int .i64 dp] tInt) R0))))))) by ac_rfl)
                have f57 := cell_at e57.cell.1 0
                refine step_append_ex rfl _ _ 27 rfl wv _ rfl rfl (append_cell_run (R := (Both (CellT kx (wl8C b gv wv pv) tWl8) (Both (CellT (k8 + 1) #[du] tStr) (Both (RowG tStr 1 (.slice ao1 (l.length + 1) cp1) (l.length + 1) ((l.map Nd.u) ++ [du])) (Both (RowG tInt 1 pv l.length (wps l)) (Both (CellT g8 #[du] tStr) (Both (CellT g15 #[.slice da dL.length dc] tTxs) (Both (CellT g22 #[.int .i64 dp] tInt) R0)))))))) (xs := (l.map Nd.wv)) (u := (.slice da dL.length dc)) 27 27 tTxs Tryz.underlying27 info_TxsN rfl (h56.perm (by ac_rfl)) ((CellT.stable _ _ _).both ((CellT.stable _ _ _).both ((RowG.stable _ _ _ _ _).both ((RowG.stable _ _ _ _ _).both ((CellT.stable _ _ _).both ((CellT.stable _ _ _).both ((CellT.stable _ _ _).both hR0s))))))) f57 rfl (by unfold maxLen; omega) (by omega)) ?_
                rintro ao2 cp2 w57 ⟨q57, _⟩
                have h57 := q57.perm (show _ = (Both (CellT kx (wl8C b gv wv pv) tWl8) (Both (CellT (k8 + 1) #[du] tStr) (Both (RowG tStr 1 (.slice ao1 (l.length + 1) cp1) (l.length + 1) ((l.map Nd.u) ++ [du])) (Both (RowG tTxs 1 (.slice ao2 (l.length + 1) cp2) (l.length + 1) ((l.map Nd.wv) ++ [(.slice da dL.length dc)])) (Both (RowG tInt 1 pv l.length (wps l)) (Both (CellT g8 #[du] tStr) (Both (CellT g15 #[.slice da dL.length dc] tTxs) (Both (CellT g22 #[.int .i64 dp] tInt) R0)))))))) by ac_rfl)
                clear e57 f57 q57 h56
                refine hK.out _ _ ?_ (fun hH2 => ?_)
                next => (try dsimp only); exact fun _ => spS h57
                clear hK K hHeld
                have hHeld := hH2
                clear hH2
                (try simp only [List.getElem_toArray, List.getElem_cons_zero, List.getElem_cons_succ, Act.put, List.setIfInBounds_toArray, List.set_cons_zero, List.set_cons_succ])
                refine wpL.ready (rs := [23]) (by kernel_rfl) (by simp) ?_
                refine AllL.cons rfl (fun K hK => ?_) AllL.nil
                have e58 := h57.perm (show _ = Both (CellT g22 #[.int .i64 dp] tInt) (Both (CellT kx (wl8C b gv wv pv) tWl8) (Both (CellT (k8 + 1) #[du] tStr) (Both (RowG tStr 1 (.slice ao1 (l.length + 1) cp1) (l.length + 1) ((l.map Nd.u) ++ [du])) (Both (RowG tTxs 1 (.slice ao2 (l.length + 1) cp2) (l.length + 1) ((l.map Nd.wv) ++ [(.slice da dL.length dc)])) (Both (RowG tInt 1 pv l.length (wps l)) (Both (CellT g8 #[du] tStr) (Both (CellT g15 #[.slice da dL.length dc] tTxs) R0))))))) by ac_rfl)
                have f58 := cell_at e58.cell.1 0
                refine step_append_ex rfl _ _ 28 rfl pv _ rfl rfl (append_cell_run (R := (Both (CellT kx (wl8C b gv wv pv) tWl8) (Both (CellT (k8 + 1) #[du] tStr) (Both (RowG tStr 1 (.slice ao1 (l.length + 1) cp1) (l.length + 1) ((l.map Nd.u) ++ [du])) (Both (RowG tTxs 1 (.slice ao2 (l.length + 1) cp2) (l.length + 1) ((l.map Nd.wv) ++ [(.slice da dL.length dc)])) (Both (CellT g8 #[du] tStr) (Both (CellT g15 #[.slice da dL.length dc] tTxs) (Both (CellT g22 #[.int .i64 dp] tInt) R0)))))))) (xs := (wps l)) (u := (.int .i64 dp)) 28 28 tInt Tryz.underlying28 info_intN rfl (h57.perm (by ac_rfl)) ((CellT.stable _ _ _).both ((CellT.stable _ _ _).both ((RowG.stable _ _ _ _ _).both ((RowG.stable _ _ _ _ _).both ((CellT.stable _ _ _).both ((CellT.stable _ _ _).both ((CellT.stable _ _ _).both hR0s))))))) f58 rfl (by unfold maxLen; omega) (by omega)) ?_
                rintro ao3 cp3 w58 ⟨q58, _⟩
                have h58 := q58.perm (show _ = (Both (CellT kx (wl8C b gv wv pv) tWl8) (Both (CellT (k8 + 1) #[du] tStr) (Both (RowG tStr 1 (.slice ao1 (l.length + 1) cp1) (l.length + 1) ((l.map Nd.u) ++ [du])) (Both (RowG tTxs 1 (.slice ao2 (l.length + 1) cp2) (l.length + 1) ((l.map Nd.wv) ++ [(.slice da dL.length dc)])) (Both (RowG tInt 1 (.slice ao3 (l.length + 1) cp3) (l.length + 1) ((wps l) ++ [(.int .i64 dp)])) (Both (CellT g8 #[du] tStr) (Both (CellT g15 #[.slice da dL.length dc] tTxs) (Both (CellT g22 #[.int .i64 dp] tInt) R0)))))))) by ac_rfl)
                clear e58 f58 q58 h57
                refine hK.out _ _ ?_ (fun hH2 => ?_)
                next => (try dsimp only); exact fun _ => spS h58
                clear hK K hHeld
                have hHeld := hH2
                clear hH2
                (try simp only [List.getElem_toArray, List.getElem_cons_zero, List.getElem_cons_succ, Act.put, List.setIfInBounds_toArray, List.set_cons_zero, List.set_cons_succ])
                have hT := HT.out ⟨g8, g15, g22, ao1, cp1, ao2, cp2, ao3, cp3⟩ w58 h58 (fun _ => spS h58)
                simp only [List.getElem_toArray, List.getElem_cons_zero, List.getElem_cons_succ, Act.put, List.setIfInBounds_toArray, List.set_cons_zero, List.set_cons_succ] at hT
                exact wpL.castL hT (by kernel_rfl) rfl rfl
              · skip
                go_simp
                have e59 := h54.newCell ((CellT.stable _ _ _).both ((CellT.stable _ _ _).both ((RowG.stable _ _ _ _ _).both ((RowG.stable _ _ _ _ _).both ((RowG.stable _ _ _ _ _).both ((CellT.stable _ _ _).both ((CellT.stable _ _ _).both hR0s))))))) #[.slice da dL.length dc] tTxs
                have h59 := e59.perm (show Both (CellT w54.heap.size #[.slice da dL.length dc] tTxs) _ = (Both (CellT kx (wl8C b gv wv pv) tWl8) (Both (CellT (k8 + 1) #[du] tStr) (Both (RowG tStr 1 gv l.length (l.map Nd.u)) (Both (RowG tTxs 1 wv l.length (l.map Nd.wv)) (Both (RowG tInt 1 pv l.length (wps l)) (Both (CellT g8 #[du] tStr) (Both (CellT w54.heap.size #[.slice da dL.length dc] tTxs) (Both (CellT g22 #[.int .i64 dp] tInt) R0)))))))) by ac_rfl)
                clear e59 h54
                generalize w54.heap.size = g15 at *
                generalize World.alloc _ _ = w59 at *
                refine hK.out _ _ ?_ (fun hH2 => ?_)
                next => (try dsimp only); exact fun _ => spS h59
                clear hK K hHeld
                have hHeld := hH2
                clear hH2
                (try simp only [List.getElem_toArray, List.getElem_cons_zero, List.getElem_cons_succ, Act.put, List.setIfInBounds_toArray, List.set_cons_zero, List.set_cons_succ])
                refine wpL.ready (rs := [9]) (by kernel_rfl) (by simp) ?_
                refine AllL.cons rfl (fun K hK => ?_) AllL.nil
                have e60 := h59.perm (show _ = Both (CellT g8 #[du] tStr) (Both (CellT kx (wl8C b gv wv pv) tWl8) (Both (CellT (k8 + 1) #[du] tStr) (Both (RowG tStr 1 gv l.length (l.map Nd.u)) (Both (RowG tTxs 1 wv l.length (l.map Nd.wv)) (Both (RowG tInt 1 pv l.length (wps l)) (Both (CellT g15 #[.slice da dL.length dc] tTxs) (Both (CellT g22 #[.int .i64 dp] tInt) R0))))))) by ac_rfl)
                have f60 := cell_at e60.cell.1 0
                refine step_append_ex rfl _ _ 26 rfl gv _ rfl rfl (append_cell_run (R := (Both (CellT kx (wl8C b gv wv pv) tWl8) (Both (CellT (k8 + 1) #[du] tStr) (Both (RowG tTxs 1 wv l.length (l.map Nd.wv)) (Both (RowG tInt 1 pv l.length (wps l)) (Both (CellT g8 #[du] tStr) (Both (CellT g15 #[.slice da dL.length dc] tTxs) (Both (CellT g22 #[.int .i64 dp] tInt) R0)))))))) (xs := (l.map Nd.u)) (u := du) 26 26 tStr Tryz.underlying26 info_St rfl (h59.perm (by ac_rfl)) ((CellT.stable _ _ _).both ((CellT.stable _ _ _).both ((RowG.stable _ _ _ _ _).both ((RowG.stable _ _ _ _ _).both ((CellT.stable _ _ _).both ((CellT.stable _ _ _).both ((CellT.stable _ _ _).both hR0s))))))) f60 hfo (by unfold maxLen; omega) (by omega)) ?_
                rintro ao1 cp1 w60 ⟨q60, _⟩
                have h60 := q60.perm (show _ = (Both (CellT kx (wl8C b gv wv pv) tWl8) (Both (CellT (k8 + 1) #[du] tStr) (Both (RowG tStr 1 (.slice ao1 (l.length + 1) cp1) (l.length + 1) ((l.map Nd.u) ++ [du])) (Both (RowG tTxs 1 wv l.length (l.map Nd.wv)) (Both (RowG tInt 1 pv l.length (wps l)) (Both (CellT g8 #[du] tStr) (Both (CellT g15 #[.slice da dL.length dc] tTxs) (Both (CellT g22 #[.int .i64 dp] tInt) R0)))))))) by ac_rfl)
                clear e60 f60 q60 h59
                refine hK.out _ _ ?_ (fun hH2 => ?_)
                next => (try dsimp only); exact fun _ => spS h60
                clear hK K hHeld
                have hHeld := hH2
                clear hH2
                (try simp only [List.getElem_toArray, List.getElem_cons_zero, List.getElem_cons_succ, Act.put, List.setIfInBounds_toArray, List.set_cons_zero, List.set_cons_succ])
                refine wpL.ready (rs := [16]) (by kernel_rfl) (by simp) ?_
                refine AllL.cons rfl (fun K hK => ?_) AllL.nil
                have e61 := h60.perm (show _ = Both (CellT g15 #[.slice da dL.length dc] tTxs) (Both (CellT kx (wl8C b gv wv pv) tWl8) (Both (CellT (k8 + 1) #[du] tStr) (Both (RowG tStr 1 (.slice ao1 (l.length + 1) cp1) (l.length + 1) ((l.map Nd.u) ++ [du])) (Both (RowG tTxs 1 wv l.length (l.map Nd.wv)) (Both (RowG tInt 1 pv l.length (wps l)) (Both (CellT g8 #[du] tStr) (Both (CellT g22 #[.int .i64 dp] tInt) R0))))))) by ac_rfl)
                have f61 := cell_at e61.cell.1 0
                refine step_append_ex rfl _ _ 27 rfl wv _ rfl rfl (append_cell_run (R := (Both (CellT kx (wl8C b gv wv pv) tWl8) (Both (CellT (k8 + 1) #[du] tStr) (Both (RowG tStr 1 (.slice ao1 (l.length + 1) cp1) (l.length + 1) ((l.map Nd.u) ++ [du])) (Both (RowG tInt 1 pv l.length (wps l)) (Both (CellT g8 #[du] tStr) (Both (CellT g15 #[.slice da dL.length dc] tTxs) (Both (CellT g22 #[.int .i64 dp] tInt) R0)))))))) (xs := (l.map Nd.wv)) (u := (.slice da dL.length dc)) 27 27 tTxs Tryz.underlying27 info_TxsN rfl (h60.perm (by ac_rfl)) ((CellT.stable _ _ _).both ((CellT.stable _ _ _).both ((RowG.stable _ _ _ _ _).both ((RowG.stable _ _ _ _ _).both ((CellT.stable _ _ _).both ((CellT.stable _ _ _).both ((CellT.stable _ _ _).both hR0s))))))) f61 rfl (by unfold maxLen; omega) (by omega)) ?_
                rintro ao2 cp2 w61 ⟨q61, _⟩
                have h61 := q61.perm (show _ = (Both (CellT kx (wl8C b gv wv pv) tWl8) (Both (CellT (k8 + 1) #[du] tStr) (Both (RowG tStr 1 (.slice ao1 (l.length + 1) cp1) (l.length + 1) ((l.map Nd.u) ++ [du])) (Both (RowG tTxs 1 (.slice ao2 (l.length + 1) cp2) (l.length + 1) ((l.map Nd.wv) ++ [(.slice da dL.length dc)])) (Both (RowG tInt 1 pv l.length (wps l)) (Both (CellT g8 #[du] tStr) (Both (CellT g15 #[.slice da dL.length dc] tTxs) (Both (CellT g22 #[.int .i64 dp] tInt) R0)))))))) by ac_rfl)
                clear e61 f61 q61 h60
                refine hK.out _ _ ?_ (fun hH2 => ?_)
                next => (try dsimp only); exact fun _ => spS h61
                clear hK K hHeld
                have hHeld := hH2
                clear hH2
                (try simp only [List.getElem_toArray, List.getElem_cons_zero, List.getElem_cons_succ, Act.put, List.setIfInBounds_toArray, List.set_cons_zero, List.set_cons_succ])
                refine wpL.ready (rs := [23]) (by kernel_rfl) (by simp) ?_
                refine AllL.cons rfl (fun K hK => ?_) AllL.nil
                have e62 := h61.perm (show _ = Both (CellT g22 #[.int .i64 dp] tInt) (Both (CellT kx (wl8C b gv wv pv) tWl8) (Both (CellT (k8 + 1) #[du] tStr) (Both (RowG tStr 1 (.slice ao1 (l.length + 1) cp1) (l.length + 1) ((l.map Nd.u) ++ [du])) (Both (RowG tTxs 1 (.slice ao2 (l.length + 1) cp2) (l.length + 1) ((l.map Nd.wv) ++ [(.slice da dL.length dc)])) (Both (RowG tInt 1 pv l.length (wps l)) (Both (CellT g8 #[du] tStr) (Both (CellT g15 #[.slice da dL.length dc] tTxs) R0))))))) by ac_rfl)
                have f62 := cell_at e62.cell.1 0
                refine step_append_ex rfl _ _ 28 rfl pv _ rfl rfl (append_cell_run (R := (Both (CellT kx (wl8C b gv wv pv) tWl8) (Both (CellT (k8 + 1) #[du] tStr) (Both (RowG tStr 1 (.slice ao1 (l.length + 1) cp1) (l.length + 1) ((l.map Nd.u) ++ [du])) (Both (RowG tTxs 1 (.slice ao2 (l.length + 1) cp2) (l.length + 1) ((l.map Nd.wv) ++ [(.slice da dL.length dc)])) (Both (CellT g8 #[du] tStr) (Both (CellT g15 #[.slice da dL.length dc] tTxs) (Both (CellT g22 #[.int .i64 dp] tInt) R0)))))))) (xs := (wps l)) (u := (.int .i64 dp)) 28 28 tInt Tryz.underlying28 info_intN rfl (h61.perm (by ac_rfl)) ((CellT.stable _ _ _).both ((CellT.stable _ _ _).both ((RowG.stable _ _ _ _ _).both ((RowG.stable _ _ _ _ _).both ((CellT.stable _ _ _).both ((CellT.stable _ _ _).both ((CellT.stable _ _ _).both hR0s))))))) f62 rfl (by unfold maxLen; omega) (by omega)) ?_
                rintro ao3 cp3 w62 ⟨q62, _⟩
                have h62 := q62.perm (show _ = (Both (CellT kx (wl8C b gv wv pv) tWl8) (Both (CellT (k8 + 1) #[du] tStr) (Both (RowG tStr 1 (.slice ao1 (l.length + 1) cp1) (l.length + 1) ((l.map Nd.u) ++ [du])) (Both (RowG tTxs 1 (.slice ao2 (l.length + 1) cp2) (l.length + 1) ((l.map Nd.wv) ++ [(.slice da dL.length dc)])) (Both (RowG tInt 1 (.slice ao3 (l.length + 1) cp3) (l.length + 1) ((wps l) ++ [(.int .i64 dp)])) (Both (CellT g8 #[du] tStr) (Both (CellT g15 #[.slice da dL.length dc] tTxs) (Both (CellT g22 #[.int .i64 dp] tInt) R0)))))))) by ac_rfl)
                clear e62 f62 q62 h61
                refine hK.out _ _ ?_ (fun hH2 => ?_)
                next => (try dsimp only); exact fun _ => spS h62
                clear hK K hHeld
                have hHeld := hH2
                clear hH2
                (try simp only [List.getElem_toArray, List.getElem_cons_zero, List.getElem_cons_succ, Act.put, List.setIfInBounds_toArray, List.set_cons_zero, List.set_cons_succ])
                have hT := HT.out ⟨g8, g15, g22, ao1, cp1, ao2, cp2, ao3, cp3⟩ w62 h62 (fun _ => spS h62)
                simp only [List.getElem_toArray, List.getElem_cons_zero, List.getElem_cons_succ, Act.put, List.setIfInBounds_toArray, List.set_cons_zero, List.set_cons_succ] at hT
                exact wpL.castL hT (by kernel_rfl) rfl rfl
            · skip
              go_simp
              have e63 := h53.newCell ((CellT.stable _ _ _).both ((CellT.stable _ _ _).both ((RowG.stable _ _ _ _ _).both ((RowG.stable _ _ _ _ _).both ((RowG.stable _ _ _ _ _).both ((CellT.stable _ _ _).both hR0s)))))) #[.slice da dL.length dc] tTxs
              have h63 := e63.perm (show Both (CellT w53.heap.size #[.slice da dL.length dc] tTxs) _ = (Both (CellT kx (wl8C b gv wv pv) tWl8) (Both (CellT (k8 + 1) #[du] tStr) (Both (RowG tStr 1 gv l.length (l.map Nd.u)) (Both (RowG tTxs 1 wv l.length (l.map Nd.wv)) (Both (RowG tInt 1 pv l.length (wps l)) (Both (CellT w53.heap.size #[.slice da dL.length dc] tTxs) (Both (CellT g22 #[.int .i64 dp] tInt) R0))))))) by ac_rfl)
              clear e63 h53
              generalize w53.heap.size = g15 at *
              generalize World.alloc _ _ = w63 at *
              refine hK.out _ _ ?_ (fun hH2 => ?_)
              next => (try dsimp only); exact fun _ => spS h63
              clear hK K hHeld
              have hHeld := hH2
              clear hH2
              (try simp only [List.getElem_toArray, List.getElem_cons_zero, List.getElem_cons_succ, Act.put, List.setIfInBounds_toArray, List.set_cons_zero, List.set_cons_succ])
              refine wpL.ready (rs := [8]) (by kernel_rfl) (by simp) ?_
              refine AllL.cons rfl (fun K hK => ?_) AllL.nil
              go_simp
              have e64 := h63.newCell ((CellT.stable _ _ _).both ((CellT.stable _ _ _).both ((RowG.stable _ _ _ _ _).both ((RowG.stable _ _ _ _ _).both ((RowG.stable _ _ _ _ _).both ((CellT.stable _ _ _).both ((CellT.stable _ _ _).both hR0s))))))) #[du] tStr
              have h64 := e64.perm (show Both (CellT w63.heap.size #[du] tStr) _ = (Both (CellT kx (wl8C b gv wv pv) tWl8) (Both (CellT (k8 + 1) #[du] tStr) (Both (RowG tStr 1 gv l.length (l.map Nd.u)) (Both (RowG tTxs 1 wv l.length (l.map Nd.wv)) (Both (RowG tInt 1 pv l.length (wps l)) (Both (CellT w63.heap.size #[du] tStr) (Both (CellT g15 #[.slice da dL.length dc] tTxs) (Both (CellT g22 #[.int .i64 dp] tInt) R0)))))))) by ac_rfl)
              clear e64 h63
              generalize w63.heap.size = g8 at *
              generalize World.alloc _ _ = w64 at *
              refine hK.out _ _ ?_ (fun hH2 => ?_)
              next => (try dsimp only); exact fun _ => spS h64
              clear hK K hHeld
              have hHeld := hH2
              clear hH2
              (try simp only [List.getElem_toArray, List.getElem_cons_zero, List.getElem_cons_succ, Act.put, List.setIfInBounds_toArray, List.set_cons_zero, List.set_cons_succ])
              refine wpL.ready (rs := [9]) (by kernel_rfl) (by simp) ?_
              refine AllL.cons rfl (fun K hK => ?_) AllL.nil
              have e65 := h64.perm (show _ = Both (CellT g8 #[du] tStr) (Both (CellT kx (wl8C b gv wv pv) tWl8) (Both (CellT (k8 + 1) #[du] tStr) (Both (RowG tStr 1 gv l.length (l.map Nd.u)) (Both (RowG tTxs 1 wv l.length (l.map Nd.wv)) (Both (RowG tInt 1 pv l.length (wps l)) (Both (CellT g15 #[.slice da dL.length dc] tTxs) (Both (CellT g22 #[.int .i64 dp] tInt) R0))))))) by ac_rfl)
              have f65 := cell_at e65.cell.1 0
              refine step_append_ex rfl _ _ 26 rfl gv _ rfl rfl (append_cell_run (R := (Both (CellT kx (wl8C b gv wv pv) tWl8) (Both (CellT (k8 + 1) #[du] tStr) (Both (RowG tTxs 1 wv l.length (l.map Nd.wv)) (Both (RowG tInt 1 pv l.length (wps l)) (Both (CellT g8 #[du] tStr) (Both (CellT g15 #[.slice da dL.length dc] tTxs) (Both (CellT g22 #[.int .i64 dp] tInt) R0)))))))) (xs := (l.map Nd.u)) (u := du) 26 26 tStr Tryz.underlying26 info_St rfl (h64.perm (by ac_rfl)) ((CellT.stable _ _ _).both ((CellT.stable _ _ _).both ((RowG.stable _ _ _ _ _).both ((RowG.stable _ _ _ _ _).both ((CellT.stable _ _ _).both ((CellT.stable _ _ _).both ((CellT.stable _ _ _).both hR0s))))))) f65 hfo (by unfold maxLen; omega) (by omega)) ?_
              rintro ao1 cp1 w65 ⟨q65, _⟩
              have h65 := q65.perm (show _ = (Both (CellT kx (wl8C b gv wv pv) tWl8) (Both (CellT (k8 + 1) #[du] tStr) (Both (RowG tStr 1 (.slice ao1 (l.length + 1) cp1) (l.length + 1) ((l.map Nd.u) ++ [du])) (Both (RowG tTxs 1 wv l.length (l.map Nd.wv)) (Both (RowG tInt 1 pv l.length (wps l)) (Both (CellT g8 #[du] tStr) (Both (CellT g15 #[.slice da dL.length dc] tTxs) (Both (CellT g22 #[.int .i64 dp] tInt) R0)))))))) by ac_rfl)
              clear e65 f65 q65 h64
              refine hK.out _ _ ?_ (fun hH2 => ?_)
              next => (try dsimp only); exact fun _ => spS h65
              clear hK K hHeld
              have hHeld := hH2
              clear hH2
              (try simp only [List.getElem_toArray, List.getElem_cons_zero, List.getElem_cons_succ, Act.put, List.setIfInBounds_toArray, List.set_cons_zero, List.set_cons_succ])
              refine wpL.ready (rs := [16]) (by kernel_rfl) (by simp) ?_
              refine AllL.cons rfl (fun K hK => ?_) AllL.nil
              have e66 := h65.perm (show _ = Both (CellT g15 #[.slice da dL.length dc] tTxs) (Both (CellT kx (wl8C b gv wv pv) tWl8) (Both (CellT (k8 + 1) #[du] tStr) (Both (RowG tStr 1 (.slice ao1 (l.length + 1) cp1) (l.length + 1) ((l.map Nd.u) ++ [du])) (Both (RowG tTxs 1 wv l.length (l.map Nd.wv)) (Both (RowG tInt 1 pv l.length (wps l)) (Both (CellT g8 #[du] tStr) (Both (CellT g22 #[.int .i64 dp] tInt) R0))))))) by ac_rfl)
              have f66 := cell_at e66.cell.1 0
              refine step_append_ex rfl _ _ 27 rfl wv _ rfl rfl (append_cell_run (R := (Both (CellT kx (wl8C b gv wv pv) tWl8) (Both (CellT (k8 + 1) #[du] tStr) (Both (RowG tStr 1 (.slice ao1 (l.length + 1) cp1) (l.length + 1) ((l.map Nd.u) ++ [du])) (Both (RowG tInt 1 pv l.length (wps l)) (Both (CellT g8 #[du] tStr) (Both (CellT g15 #[.slice da dL.length dc] tTxs) (Both (CellT g22 #[.int .i64 dp] tInt) R0)))))))) (xs := (l.map Nd.wv)) (u := (.slice da dL.length dc)) 27 27 tTxs Tryz.underlying27 info_TxsN rfl (h65.perm (by ac_rfl)) ((CellT.stable _ _ _).both ((CellT.stable _ _ _).both ((RowG.stable _ _ _ _ _).both ((RowG.stable _ _ _ _ _).both ((CellT.stable _ _ _).both ((CellT.stable _ _ _).both ((CellT.stable _ _ _).both hR0s))))))) f66 rfl (by unfold maxLen; omega) (by omega)) ?_
              rintro ao2 cp2 w66 ⟨q66, _⟩
              have h66 := q66.perm (show _ = (Both (CellT kx (wl8C b gv wv pv) tWl8) (Both (CellT (k8 + 1) #[du] tStr) (Both (RowG tStr 1 (.slice ao1 (l.length + 1) cp1) (l.length + 1) ((l.map Nd.u) ++ [du])) (Both (RowG tTxs 1 (.slice ao2 (l.length + 1) cp2) (l.length + 1) ((l.map Nd.wv) ++ [(.slice da dL.length dc)])) (Both (RowG tInt 1 pv l.length (wps l)) (Both (CellT g8 #[du] tStr) (Both (CellT g15 #[.slice da dL.length dc] tTxs) (Both (CellT g22 #[.int .i64 dp] tInt) R0)))))))) by ac_rfl)
              clear e66 f66 q66 h65
              refine hK.out _ _ ?_ (fun hH2 => ?_)
              next => (try dsimp only); exact fun _ => spS h66
              clear hK K hHeld
              have hHeld := hH2
              clear hH2
              (try simp only [List.getElem_toArray, List.getElem_cons_zero, List.getElem_cons_succ, Act.put, List.setIfInBounds_toArray, List.set_cons_zero, List.set_cons_succ])
              refine wpL.ready (rs := [23]) (by kernel_rfl) (by simp) ?_
              refine AllL.cons rfl (fun K hK => ?_) AllL.nil
              have e67 := h66.perm (show _ = Both (CellT g22 #[.int .i64 dp] tInt) (Both (CellT kx (wl8C b gv wv pv) tWl8) (Both (CellT (k8 + 1) #[du] tStr) (Both (RowG tStr 1 (.slice ao1 (l.length + 1) cp1) (l.length + 1) ((l.map Nd.u) ++ [du])) (Both (RowG tTxs 1 (.slice ao2 (l.length + 1) cp2) (l.length + 1) ((l.map Nd.wv) ++ [(.slice da dL.length dc)])) (Both (RowG tInt 1 pv l.length (wps l)) (Both (CellT g8 #[du] tStr) (Both (CellT g15 #[.slice da dL.length dc] tTxs) R0))))))) by ac_rfl)
              have f67 := cell_at e67.cell.1 0
              refine step_append_ex rfl _ _ 28 rfl pv _ rfl rfl (append_cell_run (R := (Both (CellT kx (wl8C b gv wv pv) tWl8) (Both (CellT (k8 + 1) #[du] tStr) (Both (RowG tStr 1 (.slice ao1 (l.length + 1) cp1) (l.length + 1) ((l.map Nd.u) ++ [du])) (Both (RowG tTxs 1 (.slice ao2 (l.length + 1) cp2) (l.length + 1) ((l.map Nd.wv) ++ [(.slice da dL.length dc)])) (Both (CellT g8 #[du] tStr) (Both (CellT g15 #[.slice da dL.length dc] tTxs) (Both (CellT g22 #[.int .i64 dp] tInt) R0)))))))) (xs := (wps l)) (u := (.int .i64 dp)) 28 28 tInt Tryz.underlying28 info_intN rfl (h66.perm (by ac_rfl)) ((CellT.stable _ _ _).both ((CellT.stable _ _ _).both ((RowG.stable _ _ _ _ _).both ((RowG.stable _ _ _ _ _).both ((CellT.stable _ _ _).both ((CellT.stable _ _ _).both ((CellT.stable _ _ _).both hR0s))))))) f67 rfl (by unfold maxLen; omega) (by omega)) ?_
              rintro ao3 cp3 w67 ⟨q67, _⟩
              have h67 := q67.perm (show _ = (Both (CellT kx (wl8C b gv wv pv) tWl8) (Both (CellT (k8 + 1) #[du] tStr) (Both (RowG tStr 1 (.slice ao1 (l.length + 1) cp1) (l.length + 1) ((l.map Nd.u) ++ [du])) (Both (RowG tTxs 1 (.slice ao2 (l.length + 1) cp2) (l.length + 1) ((l.map Nd.wv) ++ [(.slice da dL.length dc)])) (Both (RowG tInt 1 (.slice ao3 (l.length + 1) cp3) (l.length + 1) ((wps l) ++ [(.int .i64 dp)])) (Both (CellT g8 #[du] tStr) (Both (CellT g15 #[.slice da dL.length dc] tTxs) (Both (CellT g22 #[.int .i64 dp] tInt) R0)))))))) by ac_rfl)
              clear e67 f67 q67 h66
              refine hK.out _ _ ?_ (fun hH2 => ?_)
              next => (try dsimp only); exact fun _ => spS h67
              clear hK K hHeld
              have hHeld := hH2
              clear hH2
              (try simp only [List.getElem_toArray, List.getElem_cons_zero, List.getElem_cons_succ, Act.put, List.setIfInBounds_toArray, List.set_cons_zero, List.set_cons_succ])
              have hT := HT.out ⟨g8, g15, g22, ao1, cp1, ao2, cp2, ao3, cp3⟩ w67 h67 (fun _ => spS h67)
              simp only [List.getElem_toArray, List.getElem_cons_zero, List.getElem_cons_succ, Act.put, List.setIfInBounds_toArray, List.set_cons_zero, List.set_cons_succ] at hT
              exact wpL.castL hT (by kernel_rfl) rfl rfl
      case rest =>
        obtain ⟨ao1, cp1, ao2, cp2, ao3, cp3, h13⟩ := hcut
        rw [← HR0.out] at h13
        have h14 : At W wc (Both (WlI kx b (l ++ [⟨du, .slice da dL.length dc, dL, dp⟩]) (.slice ao1 (l.length + 1) cp1) (.slice ao2 (l.length + 1) cp2) (.slice ao3 (l.length + 1) cp3)) (Both (StoreT b S') N')) := by
          unfold WlI wps
          rw [List.length_append, List.map_append, List.map_append, List.map_append]
          exact (h13.perm (show _ = Both (CellT kn #[.int .i64 kk, .int .i64 oa, .int .i64 ob, .slice av ss.length cv] tNode) (Both (CellT k5 #[d1.u] tStr) (Both (CellT k8 #[d2.u] tStr) (Both (Both (CellT kx (wl8C b (.slice ao1 (l.length + 1) cp1) (.slice ao2 (l.length + 1) cp2) (.slice ao3 (l.length + 1) cp3)) tWl8) (Both (RowG tStr 1 (.slice ao1 (l.length + 1) cp1) (l.length + 1) ((l.map Nd.u) ++ [du])) (Both (RowG tTxs 1 (.slice ao2 (l.length + 1) cp2) (l.length + 1) ((l.map Nd.wv) ++ [.slice da dL.length dc])) (RowG tInt 1 (.slice ao3 (l.length + 1) cp3) (l.length + 1) ((wps l) ++ [.int .i64 dp]))))) (Both (StoreT b S') N')))) by ac_rfl)).drop.drop.drop
        have H14 := Lib.hid h14
        clear h13 h14 h12
        (repeat' (first | (go_big_may; fail) | go_values | go_skip | go_guarded | go_step | go_upon | go_back | dsimp only))
        go_ret
        refine ⟨rfl, l ++ [⟨du, .slice da dL.length dc, dL, dp⟩], S', rs', N', _, _, _, by simp, ⟨HLS2.out.st, fun d hd => ?_, fun d hd => ?_, fun d hd => ?_, HLS2.out.good, HLS2.out.holds⟩, H14.out⟩
        · rcases List.mem_append.1 hd with h | h
          · exact HLS2.out.fn d h
          · cases List.mem_singleton.1 h; exact HFN.out
        · rcases List.mem_append.1 hd with h | h
          · exact HLS2.out.p d h
          · cases List.mem_singleton.1 h; exact hp
        · rcases List.mem_append.1 hd with h | h
          · exact HLS2.out.ok d h
          · cases List.mem_singleton.1 h; exact HND.out
end
end Go.Proofs.YtgeabmmicofanaaGreatDoor
