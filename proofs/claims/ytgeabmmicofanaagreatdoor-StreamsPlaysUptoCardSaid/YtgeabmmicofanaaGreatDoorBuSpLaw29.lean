/- StreamsPlays: (*world).at walked. -/
import Derived.Test.YtgeabmmicofanaaGreatDoorBuSpLaw24
import Derived.Test.YtgeabmmicofanaaGreatDoorBuSpLaw28
set_option linter.unusedSimpArgs false
set_option linter.unusedVariables false
namespace Go.Proofs.YtgeabmmicofanaaGreatDoor
open Go.RowKit

abbrev tWl8 : TypeId := 30
abbrev wl8C (b : Nat) (gv wv pv : Value) : Array Value := #[.pointer (some ⟨b, 0, none⟩), gv, wv, pv]
abbrev wps (l : List Nd) : List Value := l.map fun d => .int .i64 d.p
/-- The world of a script but its store: the streams made up to now, and the document's. -/
abbrev WlI (kx b : Nat) (l : List Nd) (gv wv pv : Value) : Thing := Both (CellT kx (wl8C b gv wv pv) tWl8) (Both (RowG tStr 1 gv l.length (l.map Nd.u)) (Both (RowG tTxs 1 wv l.length (l.map Nd.wv)) (RowG tInt 1 pv l.length (wps l))))
theorem WlI.stable (kx b : Nat) (l : List Nd) (gv wv pv : Value) : Stable (WlI kx b l gv wv pv) := (CellT.stable _ _ _).both ((RowG.stable _ _ _ _ _).both ((RowG.stable _ _ _ _ _).both (RowG.stable _ _ _ _ _)))
/-- A stream's function, by its shape. -/
def FnV (u : Value) : Prop := u = .nilFunc ∨ ∃ gf lb, u = .func (.func gf) #[] lb
theorem FnV.one {u : Value} (h : FnV u) : u.oneCell' = true := by
  rcases h with rfl | ⟨gf, lb, rfl⟩ <;> rfl
theorem results_cellAt3 {P : Program} {fn : Func} {p q r : Tmp} {ty : TypeId} (h : fn.results = #[.cell p ty, .tmp q, .tmp r]) (tmps : Array Value) (w : World) (g : Nat) (t : TypeId) (cs : Array Value) (fr : Nat × Nat) (d : TypeDesc) {v v2 : Value}
    (hp : tmps.getD p undef = .pointer (some ⟨g, 0, none⟩)) (hg : w.heap[g]? = some (.cells cs t fr))
    (hu : P.underlying ty = some d) (hd : (match d with | .struct _ | .array _ _ => true | _ => false) = true) (hi : (P.info? ty).map (·.size) = some cs.size) (hq : tmps.getD q undef = v) (hr : tmps.getD r undef = v2) :
    (results fn tmps).run P w = .ok (.tuple #[.agg cs, v, v2]) w := by
  have hp' : tmps[p]?.getD undef = .pointer (some ⟨g, 0, none⟩) := by simpa using hp
  have hq' : tmps[q]?.getD undef = v := by simpa using hq
  have hr' : tmps[r]?.getD undef = v2 := by simpa using hr
  simp [results, h, hp', hq', hr', asAddr, run_loadVar_row w g t ty cs fr d hg hu hd hi]
theorem cell_old1 {w : World} {p : Addr} {o : Obj} {u : Value} (h : w.cell? p = some u) : (w.alloc o).cell? p = some u := by
  rw [World.cell?_alloc_lt _ _ _ (World.block_lt_of_cell? w _ h)]; exact h
theorem cell_setO {w : World} {g s o : Nat} {u : Option Value} {v : Value} (hne : g ≠ s) (h : w.cell? ⟨g, o, none⟩ = u) : (w.setCell ⟨s, 0, none⟩ v).drew.cell? ⟨g, o, none⟩ = u := by
  show (w.setCell ⟨s, 0, none⟩ v).cell? ⟨g, o, none⟩ = u
  rw [← h]
  simp [World.cell?, World.setCell, Array.getElem?_modify, Ne.symm hne]
section
variable {W w : World} {R : Thing} {kx b : Nat} {l : List Nd} {gv wv pv : Value}
set_option maxRecDepth 100000 in
set_option maxHeartbeats 1600000 in
theorem at_calls (h : At W w (Both (WlI kx b l gv wv pv) R)) (hR : Stable R) (hsh : ∀ d ∈ l, FnV d.u) (i : Int) :
    Calls Tryz.prog 9 #[.pointer (some ⟨kx, 0, none⟩), .int .i64 i] w fun e w' => ∃ d, (d = Nd.zero ∨ d ∈ l) ∧ e = .returned (.tuple #[.agg #[d.u], d.wv, .int .i64 d.p]) ∧ At W w' (Both (WlI kx b l gv wv pv) R) := by
  have hst := (WlI.stable kx b l gv wv pv).both hR
  have h1 := h.newCell hst #[.nilFunc] tStr
  have H0 := Lib.hid h1
  have k0 := h.toR.cell.1
  have lk0 := lt_of_heap k0
  have k1 := cell_old1 (o := .cells #[.nilFunc] tStr) (show w.cell? ⟨kx, 1, none⟩ = some gv from cell_at k0 1)
  have k2 := cell_old1 (o := .cells #[.nilFunc] tStr) (show w.cell? ⟨kx, 2, none⟩ = some wv from cell_at k0 2)
  have k3 := cell_old1 (o := .cells #[.nilFunc] tStr) (show w.cell? ⟨kx, 3, none⟩ = some pv from cell_at k0 3)
  have r1 := h.toR.drop.toR.rowG
  have r2 := h.toR.drop.toR.drop.toR.rowG
  have r3 := h.toR.drop.toR.drop.toR.drop.rowG
  have c4 := h1.cellF (o := 0) (u := .nilFunc) rfl
  have c4a := c4.1
  have c4b := c4.2.1
  have l4 := lt_of_heap h1.cell.1
  have HST := Lib.hid fun x y z => (WlI.stable kx b l x y z).both hR
  clear h k0 c4
  by_cases hin : 0 ≤ i ∧ i < l.length
  · obtain ⟨k, rfl⟩ : ∃ k : Nat, i = k := ⟨i.toNat, by omega⟩
    have hk : k < l.length := by omega
    obtain ⟨d, hd⟩ : ∃ d, l[k]? = some d := ⟨_, List.getElem?_eq_getElem hk⟩
    have hm := List.mem_of_getElem? hd
    obtain ⟨g1, p1, rfl, _, _, _⟩ := own_cut r1 (by omega)
    obtain ⟨g2, p2, rfl, _, _, _⟩ := own_cut r2 (by omega)
    obtain ⟨g3, p3, rfl, _, _, _⟩ := own_cut r3 (by omega)
    have c1 := r1.cellAt k (by omega)
    have c2 := r2.cellAt k (by omega)
    have c3 := r3.cellAt k (by omega)
    simp only [wps, List.getElem?_map, hd, Option.map_some] at c1 c2 c3
    clear r1 r2 r3 hd
    have hi0 : (0 : Int) ≤ k := by omega
    have hi1 : (k : Int) < l.length := by omega
    have hi2 : ¬ (l.length : Int) ≤ k := by omega
    have hi3 : ¬ (k : Int) < 0 := by omega
    have hne1 := Nat.ne_of_lt (World.block_lt_of_cell? w _ c1)
    have hne2 := Nat.ne_of_lt (World.block_lt_of_cell? w _ c2)
    have hne3 := Nat.ne_of_lt (World.block_lt_of_cell? w _ c3)
    have hne0 := Nat.ne_of_lt lk0
    have c1 := cell_old1 (o := .cells #[.nilFunc] tStr) c1
    have c2 := cell_old1 (o := .cells #[.nilFunc] tStr) c2
    have c3 := cell_old1 (o := .cells #[.nilFunc] tStr) c3
    have lk := World.block_lt_of_cell? _ _ k1
    have lg1 := World.block_lt_of_cell? _ _ c1
    have lg2 := World.block_lt_of_cell? _ _ c2
    have lg3 := World.block_lt_of_cell? _ _ c3
    clear lk0
    obtain ⟨n, hn⟩ : ∃ n, l.length = n := ⟨_, rfl⟩
    have hfn := hsh _ hm
    obtain ⟨du, dw, dL, dp⟩ := d
    dsimp only at c1 c2 c3 hfn
    have H1 := Lib.hid fun u : Value => h1.setCell hst 0 u
    rw [hn] at k1 k2 k3 hi1 hi2 h1
    clear hsh h1
    rcases hfn with rfl | ⟨gf, lb, rfl⟩
    · skip
      go_enter Tryz.func9, Tryz.ntmps9
      (repeat' (first | (go_big_may; fail) | go_values | go_skip | go_guarded | go_step | go_upon | go_back | dsimp only))
      generalize w.alloc _ = w1 at *
      generalize w.heap.size = s at *
      have hst := store_one (P := Tryz.prog) (v := .nilFunc) (w := w1.drew) rfl (c4a) (c4b)
      go_region_held3 (fun wx => wx.cell? ⟨kx, 1, none⟩ = some (Value.slice (some ⟨g1, 0, none⟩) n p1) ∧ wx.cell? ⟨kx, 2, none⟩ = some (Value.slice (some ⟨g2, 0, none⟩) n p2) ∧ wx.cell? ⟨kx, 3, none⟩ = some (Value.slice (some ⟨g3, 0, none⟩) n p3) ∧ wx.cell? ⟨g1, k, none⟩ = some (.nilFunc) ∧ wx.cell? ⟨g2, k, none⟩ = some dw ∧ wx.cell? ⟨g3, k, none⟩ = some (Value.int IntKind.i64 (dp : Nat))) (first | assumption | (exact cell_setO (by assumption) (by assumption)) | (refine ⟨cell_setO (by assumption) (by assumption), cell_setO (by assumption) (by assumption), cell_setO (by assumption) (by assumption), cell_setO (by assumption) (by assumption), cell_setO (by assumption) (by assumption), cell_setO (by assumption) (by assumption)⟩) | go_keep) (fail)
      (repeat' (first | (go_big_may; fail) | go_values | go_skip | go_guarded | go_step | go_upon | go_back | dsimp only))
      (try simp only [Exit.inBlock, Exit.then])
      have h5 := (H1.out (.nilFunc)).drew ((CellT.stable _ _ _).both (HST.out _ _ _))
      refine bodyPost_ret (results_cellAt3 rfl _ _ s tStr #[.nilFunc] (0, 0) _ rfl h5.cell.1 Tryz.underlying40 rfl (by kernel_rfl) rfl rfl) rfl ?_
      exact ⟨⟨.nilFunc, dw, dL, dp⟩, .inr hm, rfl, h5.drop⟩
    · skip
      go_enter Tryz.func9, Tryz.ntmps9
      (repeat' (first | (go_big_may; fail) | go_values | go_skip | go_guarded | go_step | go_upon | go_back | dsimp only))
      generalize w.alloc _ = w1 at *
      generalize w.heap.size = s at *
      have hst := store_one (P := Tryz.prog) (v := .func (.func gf) #[] lb) (w := w1.drew) rfl (c4a) (c4b)
      go_region_held3 (fun wx => wx.cell? ⟨kx, 1, none⟩ = some (Value.slice (some ⟨g1, 0, none⟩) n p1) ∧ wx.cell? ⟨kx, 2, none⟩ = some (Value.slice (some ⟨g2, 0, none⟩) n p2) ∧ wx.cell? ⟨kx, 3, none⟩ = some (Value.slice (some ⟨g3, 0, none⟩) n p3) ∧ wx.cell? ⟨g1, k, none⟩ = some (.func (.func gf) #[] lb) ∧ wx.cell? ⟨g2, k, none⟩ = some dw ∧ wx.cell? ⟨g3, k, none⟩ = some (Value.int IntKind.i64 (dp : Nat))) (first | assumption | (exact cell_setO (by assumption) (by assumption)) | (refine ⟨cell_setO (by assumption) (by assumption), cell_setO (by assumption) (by assumption), cell_setO (by assumption) (by assumption), cell_setO (by assumption) (by assumption), cell_setO (by assumption) (by assumption), cell_setO (by assumption) (by assumption)⟩) | go_keep) (fail)
      (repeat' (first | (go_big_may; fail) | go_values | go_skip | go_guarded | go_step | go_upon | go_back | dsimp only))
      (try simp only [Exit.inBlock, Exit.then])
      have h5 := (H1.out (.func (.func gf) #[] lb)).drew ((CellT.stable _ _ _).both (HST.out _ _ _))
      refine bodyPost_ret (results_cellAt3 rfl _ _ s tStr #[.func (.func gf) #[] lb] (0, 0) _ rfl h5.cell.1 Tryz.underlying40 rfl (by kernel_rfl) rfl rfl) rfl ?_
      exact ⟨⟨.func (.func gf) #[] lb, dw, dL, dp⟩, .inr hm, rfl, h5.drop⟩
  · obtain ⟨ao, cp, rfl, _, _⟩ := own_shape r1
    clear hsh r1 r2 r3
    have H5 := Lib.hid h1
    clear h1
    by_cases hneg : i < 0
    · skip
      go_enter Tryz.func9, Tryz.ntmps9
      (repeat' (first | (go_big_may; fail) | go_values | go_skip | go_guarded | go_step | go_upon | go_back | dsimp only))
      (try simp only [Exit.inBlock, Exit.then])
      refine bodyPost_ret (results_cellAt3 rfl _ _ w.heap.size tStr #[.nilFunc] (0, 0) _ rfl H5.out.cell.1 Tryz.underlying40 rfl (by kernel_rfl) rfl rfl) rfl ?_
      exact ⟨Nd.zero, .inl rfl, rfl, H5.out.drop⟩
    · have hge : (l.length : Int) ≤ i := by omega
      go_enter Tryz.func9, Tryz.ntmps9
      (repeat' (first | (go_big_may; fail) | go_values | go_skip | go_guarded | go_step | go_upon | go_back | dsimp only))
      (try simp only [Exit.inBlock, Exit.then])
      refine bodyPost_ret (results_cellAt3 rfl _ _ w.heap.size tStr #[.nilFunc] (0, 0) _ rfl H5.out.cell.1 Tryz.underlying40 rfl (by kernel_rfl) rfl rfl) rfl ?_
      exact ⟨Nd.zero, .inl rfl, rfl, H5.out.drop⟩
end
end Go.Proofs.YtgeabmmicofanaaGreatDoor
