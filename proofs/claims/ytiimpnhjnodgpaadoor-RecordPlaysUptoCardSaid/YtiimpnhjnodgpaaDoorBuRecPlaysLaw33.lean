/- (*hornbooklaw06.world).step walked: Open. -/
import Derived.Test.YtiimpnhjnodgpaaDoorBuRecPlaysLaw32
import Derived.Test.YtiimpnhjnodgpaaDoorBuRecPlaysLaw38
set_option linter.unusedSimpArgs false
set_option linter.unusedVariables false
namespace Go.Proofs.YtiimpnhjnodgpaaDoor
open Go.RowKit

theorem append_cell_run {P : Program} {W w : World} {R : Thing} (t ty e : TypeId) (ht : P.underlying t = some (.slice e)) {z : Value} {bytes : Nat} (hinfo : (P.info? e).map (fun i => (i.zero, i.size, i.bytes)) = some (some z, 1, bytes)) (hzs : z.cells.size = 1)
    {v : Value} {n : Nat} {xs : List Value} (hat : At W w (Both (RowG e 1 v n xs) R)) (hR : Stable R) {g : Nat} {u : Value} (hc : w.cell? ⟨g, 0, none⟩ = some u) (h1 : u.oneCell' = true) (h63 : n + 1 ≤ maxLen) (hbytes : (n + 1) * bytes ≤ 140737488355328) :
    ∃ ao cap w', (Builtin.append_ #[t, t] ty #[v, .slice (some ⟨g, 0, none⟩) 1 1]).run P w = .ok (.slice ao (n + 1) cap) w' ∧ At W w' (Both (RowG e 1 (.slice ao (n + 1) cap) (n + 1) (xs ++ [u])) R) ∧ Upd (rowOf v) w w' := by
  obtain ⟨i0, hi, hz0, hz1, hz2⟩ := info_parts hinfo
  have hown := hat.rowG
  have hcells : ∀ j x, [u][j]? = some x → w.cell? ((⟨g, 0, none⟩ : Addr).add j) = some x := by
    intro j x hx
    match j with
    | 0 => simp at hx; subst hx; exact hc
    | j + 1 => simp at hx
  have h1s : ∀ x ∈ [u], x.oneCell' = true := by intro x hx; simp at hx; subst hx; exact h1
  obtain ⟨v', w', hr, h2, h3, _⟩ := run_append_own (P := P) w 0 t ty e i0 z 1 bytes ht hi hz0 hz1 hz2 hzs (by decide) v n xs hown ⟨g, 0, none⟩ 1 1 [u] rfl hcells h1s h63 hbytes (Nat.zero_le _)
  have hb := append_block (P := P) w t ty e i0 z 1 bytes ht hi hz0 hz1 hz2 hzs (by decide) hown ⟨g, 0, none⟩ 1 1 [u] rfl hcells h1s h63 hbytes hr
  have hu : Upd (rowOf v) w w' := (Upd.refl _ w).grown h3 (fun k hk => .inl (mem_rowOf.2 hk))
  obtain ⟨ao, cap, rfl, _, _⟩ := own_shape h2
  obtain ⟨fp, g1, g2, g3⟩ := hat.step
  obtain ⟨_, rfl⟩ := g1
  refine ⟨ao, cap, w', hr, g3 hR w' _ ⟨rowOf (.slice ao (n + 1) cap), ⟨h2, rfl⟩, hu, fun k hk => ?_⟩, hu⟩
  rcases hb k (mem_rowOf.1 hk) with h4 | h4
  · exact .inl (mem_rowOf.2 h4)
  · exact .inr h4
theorem step_append_ex {P : Program} {ops : Array Oper} {o : Oper} {a : Act} {w : World} {K : Act → World → Prop} {Q : Exit → Act → World → Prop} {E : Prop}
    (hg : o.guard = none) (s x : Operand) (t : TypeId) (hop : o.op = Op.call { callee := Callee.builtin Builtin.append, args := #[s, x], argTypes := #[t, t] })
    (vs vx : Value) (hs : a.eval s = vs) (hx : a.eval x = vx) {m : Nat} {Ph : Option Addr → Nat → World → Prop} (h : ∃ ao cap w', (Builtin.append_ #[t, t] o.type #[vs, vx]).run P w = .ok (.slice ao m cap) w' ∧ Ph ao cap w')
    (hK : ∀ ao cap w', Ph ao cap w' → K (a.put o.dst (.slice ao m cap)) w') : if Region.wanted o (yielded ops a.tmps) = true then Oper.wp P o a w K Q else E := by
  obtain ⟨ao, cap, w', hr, hp⟩ := h
  exact step_append_run hg s x t hop vs vx hs hx hr (hK ao cap w' hp)
theorem upd_cell {fp : List Nat} {w w' : World} (hu : Upd fp w w') {g o : Nat} (hl : g < w.heap.size) (hn : g ∉ fp) {u : Value} (h : w.cell? ⟨g, o, none⟩ = some u) : w'.cell? ⟨g, o, none⟩ = some u := by
  rw [← h]
  simp [World.cell?, hu.block g hl hn]
theorem cell_new (w : World) (v : Value) (e : TypeId) : (w.alloc (.cells #[v] e)).cell? ⟨w.heap.size, 0, none⟩ = some v := by
  rw [World.cell?_alloc_at _ _ _ _ rfl]; rfl
theorem cell_old {w : World} {g : Nat} {o : Obj} {u : Value} (h : w.cell? ⟨g, 0, none⟩ = some u) : (w.alloc o).cell? ⟨g, 0, none⟩ = some u := by
  rw [World.cell?_alloc_lt _ _ _ (World.block_lt_of_cell? w _ h)]; exact h
theorem lNo {b : Bool} {p : Prop} (hl : b = false) (h : b = true) : p := by rw [hl] at h; cases h
theorem cell_new2 (w : World) (C : Array Value) (E : TypeId) (v : Value) (e : TypeId) : ((w.alloc (.cells C E)).alloc (.cells #[v] e)).cell? ⟨w.heap.size + 1, 0, none⟩ = some v := by
  have h := cell_new (w.alloc (.cells C E)) v e
  have e2 : (w.alloc (.cells C E)).heap.size = w.heap.size + 1 := by simp
  rw [e2] at h
  exact h
theorem cell_oldA {w : World} {p : Addr} {o : Obj} {u : Value} (h : w.cell? p = some u) : (w.alloc o).cell? p = some u := by
  rw [World.cell?_alloc_lt _ _ _ (World.block_lt_of_cell? w _ h)]; exact h
theorem info_PW : (Tryd.prog.info? tPW).map (fun i => (i.zero, i.size, i.bytes)) = some (some (.pointer none), 1, 8) := by kernel_rfl
theorem info_PW6 : (Tryd.prog.info? tPW6).map (fun i => (i.zero, i.size, i.bytes)) = some (some (.pointer none), 1, 8) := by kernel_rfl
section
variable {W w : World} {R Φ : Thing} {kx sb rb : Nat} {ef : Nat → Nat × Nat} {S : St} {vw vr vW vR v : Value} {n i : Nat} {As Bs : List Value} {ss : List (List UInt8)}
set_option maxRecDepth 100000 in
set_option maxHeartbeats 100000000 in
theorem step_open {S' : St} {X Y : Nat → Thing} (hXs : ∀ k, Stable (X k)) (hYs : ∀ k, Stable (Y k)) (hΦ : Stable Φ) (hF : Fails W ef fails12) (h : At W w (Both (CellT kx (wldC sb rb vw vr vW vR) tWld) (Both (RowG tPW 1 vw n As) (Both (RowG tPW6 1 vW n Bs) (Both (StoreT sb S) (Both (RefT rb S) Φ)))))) (hn : n ≤ 1099511627776) {o2 o3 : Int} (hv : RdRow W v ss.length 1 (strs ss)) {c : Nat} (hok : okC c) (pa pb : Nat → Option Addr) {mo : Bool} (hma : ∀ k wz, (binOp .neq tPW (.pointer (pa k)) (.pointer none)).run Tryd.prog wz = .ok (.bool mo) wz) (hmb : ∀ k wz, (binOp .neq tPW6 (.pointer (pb k)) (.pointer none)).run Tryd.prog wz = .ok (.bool mo) wz)
    (hA : ∀ w1 R, Stable R → At W w1 (Both (StoreT sb S) R) → Calls Tryd.prog 31 #[.pointer (some ⟨sb, 0, none⟩), .int .i64 o3] w1 fun e w' => ∃ k, e = .returned (.tuple #[.pointer (pa k), errV ef c]) ∧ At W w' (Both (X k) (Both (StoreT sb S') R)))
    (hB : ∀ w1 R, Stable R → At W w1 (Both (RefT rb S) R) → Calls Tryd.prog 32 #[.pointer (some ⟨rb, 0, none⟩), .int .i64 o3] w1 fun e w' => ∃ k, e = .returned (.tuple #[.pointer (pb k), .int .i64 c]) ∧ At W w' (Both (Y k) (Both (RefT rb S') R))) :
    Calls Tryd.prog 15 #[.pointer (some ⟨kx, 0, none⟩), .agg #[.int .i64 1, .int .i64 o2, .int .i64 o3, v]] w fun e w' => e = .returned (.tuple #[an6V ⟨0, c, [], mo, []⟩ (.slice none 0 0), an6V ⟨0, c, [], mo, []⟩ (.slice none 0 0)]) ∧ ∃ k kr vw' vW', At W w' (Both (CellT kx (wldC sb rb vw' vr vW' vR) tWld) (Both (RowG tPW 1 vw' (n + 1) (As ++ [.pointer (pa k)])) (Both (RowG tPW6 1 vW' (n + 1) (Bs ++ [.pointer (pb kr)])) (Both (X k) (Both (Y kr) (Both (StoreT sb S') (Both (RefT rb S') Φ))))))) := by
  obtain ⟨av, cv, rfl, _, _⟩ := hv.shape
  have hR0 := (RowG.stable tPW 1 vw n As).both ((RowG.stable tPW6 1 vW n Bs).both ((StoreT.stable sb S).both ((RefT.stable rb S).both hΦ)))
  have hst0 := (CellT.stable kx (wldC sb rb vw vr vW vR) tWld).both hR0
  have hkx := lt_of_heap h.cell.1
  have h5 : At W _ (Both (FiveT w.heap.size #[.int .i64 1, .int .i64 o2, .int .i64 o3, .slice av ss.length cv] noAn noAn noAn noAn) (Both (CellT kx (wldC sb rb vw vr vW vR) tWld) (Both (RowG tPW 1 vw n As) (Both (RowG tPW6 1 vW n Bs) (Both (StoreT sb S) (Both (RefT rb S) Φ)))))) := (h.five6 hst0 #[.int .i64 1, .int .i64 o2, .int .i64 o3, .slice av ss.length cv]).perm (by unfold FiveT; ac_rfl)
  have H5 := Lib.hid h5
  clear h5 h
  go_enter Tryd.func15, Tryd.ntmps15
  (repeat' (first | (go_big_may; fail) | go_values | go_skip | go_guarded | go_step | go_upon | go_back | dsimp only))
  generalize ((((w.alloc _).alloc _).alloc _).alloc _).alloc _ = w1 at *
  generalize w.heap.size = s at *
  obtain ⟨y4, y2, y1, y3, y0⟩ := five_get H5.out
  have b0 := cell_at y0 0; have b1 := cell_at y0 1; have b2 := cell_at y0 2; have b3 := cell_at y0 3
  have lk0 := lt_of_heap y0
  simp only [List.getElem?_toArray, List.getElem?_cons_zero, List.getElem?_cons_succ] at b0 b1 b2 b3
  clear y4 y2 y1 y3 y0
  have c0 := cell_at H5.out.drop.cell.1 0
  have lk := lt_of_heap H5.out.drop.cell.1
  have hcg := And.intro c0 b2
  have hst5 := (FiveT.stable s #[.int .i64 1, .int .i64 o2, .int .i64 o3, .slice av ss.length cv] noAn noAn noAn noAn).both hst0
  have h6 : At W w1.drew (Both (StoreT sb S) (Both (FiveT s #[.int .i64 1, .int .i64 o2, .int .i64 o3, .slice av ss.length cv] noAn noAn noAn noAn) (Both (CellT kx (wldC sb rb vw vr vW vR) tWld) (Both (RowG tPW 1 vw n As) (Both (RowG tPW6 1 vW n Bs) (Both (RefT rb S) Φ)))))) := (H5.out.drew hst5).perm (by ac_rfl)
  have HA := Lib.hid (hA _ _ ((FiveT.stable s #[.int .i64 1, .int .i64 o2, .int .i64 o3, .slice av ss.length cv] noAn noAn noAn noAn).both ((CellT.stable kx (wldC sb rb vw vr vW vR) tWld).both ((RowG.stable tPW 1 vw n As).both ((RowG.stable tPW6 1 vW n Bs).both ((RefT.stable rb S).both hΦ))))) h6)
  clear h6 hA b0 b1 b3
  (repeat' (first | (go_big_may; fail) | go_values | go_skip | go_guarded | go_step | go_upon | go_back | dsimp only))
  go_region_held3 (fun wx => wx.cell? ⟨kx, 0, none⟩ = some (.pointer (some ⟨sb, 0, none⟩)) ∧ wx.cell? ⟨s, 2, none⟩ = some (.int .i64 o3)) (first | assumption | go_keep) (first
    | (go_at_call 31; refine HA.out.mono ?_; rintro e w8 ⟨k, rfl, h13⟩
       have h14 : At W w8 (Both (FiveT s #[.int .i64 1, .int .i64 o2, .int .i64 o3, .slice av ss.length cv] noAn noAn noAn noAn) (Both (CellT kx (wldC sb rb vw vr vW vR) tWld) (Both (RowG tPW 1 vw n As) (Both (RowG tPW6 1 vW n Bs) (Both (X k) (Both (StoreT sb S') (Both (RefT rb S) Φ))))))) := h13.perm (by ac_rfl)
       obtain ⟨y4, y2, y1, y3, y0⟩ := five_get h14
       have q0 := cell_at h14.drop.cell.1 0
       have q2 := cell_at y0 2
       have cg8 := And.intro q0 q2
       have H14 := Lib.hid h14
       clear h13 h14 y0 y1 y2 y3 y4))
  have c3 := cell_at H14.out.drop.cell.1 3
  have lk8 := lt_of_heap H14.out.drop.cell.1
  obtain ⟨y4, y2, y1, y3, y0⟩ := five_get H14.out
  have ls8 := lt_of_heap y0
  have b28 := cell_at y0 2
  have hcg8 := And.intro c3 b28
  have hst8 := (FiveT.stable s #[.int .i64 1, .int .i64 o2, .int .i64 o3, .slice av ss.length cv] noAn noAn noAn noAn).both ((CellT.stable kx (wldC sb rb vw vr vW vR) tWld).both ((RowG.stable tPW 1 vw n As).both ((RowG.stable tPW6 1 vW n Bs).both ((hXs k).both ((StoreT.stable sb S').both ((RefT.stable rb S).both hΦ))))))
  have h6 : At W w8.drew (Both (RefT rb S) (Both (FiveT s #[.int .i64 1, .int .i64 o2, .int .i64 o3, .slice av ss.length cv] noAn noAn noAn noAn) (Both (CellT kx (wldC sb rb vw vr vW vR) tWld) (Both (RowG tPW 1 vw n As) (Both (RowG tPW6 1 vW n Bs) (Both (X k) (Both (StoreT sb S') Φ))))))) := (H14.out.drew hst8).perm (by ac_rfl)
  have HB := Lib.hid (hB _ _ ((FiveT.stable s #[.int .i64 1, .int .i64 o2, .int .i64 o3, .slice av ss.length cv] noAn noAn noAn noAn).both ((CellT.stable kx (wldC sb rb vw vr vW vR) tWld).both ((RowG.stable tPW 1 vw n As).both ((RowG.stable tPW6 1 vW n Bs).both ((hXs k).both ((StoreT.stable sb S').both hΦ)))))) h6)
  clear h6 y4 y2 y1 y3 y0 cg8 HA H5 c0 lk lk0 hcg hB b2 q0 q2
  (repeat' (first | (go_big_may; fail) | go_values | go_skip | go_guarded | go_step | go_upon | go_back | dsimp only))
  go_region_held3 (fun wx => wx.cell? ⟨kx, 3, none⟩ = some (.pointer (some ⟨rb, 0, none⟩)) ∧ wx.cell? ⟨s, 2, none⟩ = some (.int .i64 o3)) (first | assumption | go_keep) (first
    | (go_at_call 32; refine HB.out.mono ?_; rintro e w9 ⟨kr, rfl, h13⟩
       have h14 : At W w9 (Both (FiveT s #[.int .i64 1, .int .i64 o2, .int .i64 o3, .slice av ss.length cv] noAn noAn noAn noAn) (Both (CellT kx (wldC sb rb vw vr vW vR) tWld) (Both (RowG tPW 1 vw n As) (Both (RowG tPW6 1 vW n Bs) (Both (X k) (Both (Y kr) (Both (StoreT sb S') (Both (RefT rb S') Φ)))))))) := h13.perm (by ac_rfl)
       obtain ⟨y4, y2, y1, y3, y0⟩ := five_get h14
       have q0 := cell_at h14.drop.cell.1 3
       have q2 := cell_at y0 2
       have cg9 := And.intro q0 q2
       have H15 := Lib.hid h14
       clear h13 h14 y0 y1 y2 y3 y4))
  clear H14 HB cg9 hcg8 c3 lk8 ls8 b28 q0 q2 hst8
  (repeat' (first | (go_big_may; fail) | go_values | go_skip | go_guarded | go_step | go_upon | go_back | dsimp only))
  have q1 := cell_at H15.out.drop.cell.1 1
  have q4 := cell_at H15.out.drop.cell.1 4
  have lkx := lt_of_heap H15.out.drop.cell.1
  simp only [List.getElem?_toArray, List.getElem?_cons_zero, List.getElem?_cons_succ] at q1 q4
  have hst9 := (FiveT.stable s #[.int .i64 1, .int .i64 o2, .int .i64 o3, .slice av ss.length cv] noAn noAn noAn noAn).both ((CellT.stable kx (wldC sb rb vw vr vW vR) tWld).both ((RowG.stable tPW 1 vw n As).both ((RowG.stable tPW6 1 vW n Bs).both ((hXs k).both ((hYs kr).both ((StoreT.stable sb S').both ((RefT.stable rb S').both hΦ)))))))
  have hst10 := (FiveT.stable s #[.int .i64 1, .int .i64 o2, .int .i64 o3, .slice av ss.length cv] noAn noAn noAn noAn).both ((CellT.stable kx (wldC sb rb vw vr vW vR) tWld).both ((RowG.stable tPW6 1 vW n Bs).both ((hXs k).both ((hYs kr).both ((StoreT.stable sb S').both ((RefT.stable rb S').both hΦ))))))
  have hst11 := fun v1 : Value => (FiveT.stable s #[.int .i64 1, .int .i64 o2, .int .i64 o3, .slice av ss.length cv] noAn noAn noAn noAn).both ((CellT.stable kx (wldC sb rb vw vr vW vR) tWld).both ((RowG.stable tPW 1 v1 (n + 1) (As ++ [.pointer (pa k)])).both ((hXs k).both ((hYs kr).both ((StoreT.stable sb S').both ((RefT.stable rb S').both hΦ))))))
  have hvw : ∀ g ∈ rowOf vw, g < w9.heap.size := fun g hg => (H15.out.drop.drop.rowG.lt g (mem_rowOf.1 hg)).2
  go_cut [50] (fun v50 wx => ∃ ao1 cp1 ao2 cp2, At W wx (Both (FiveT s #[.int .i64 1, .int .i64 o2, .int .i64 o3, .slice av ss.length cv] noAn noAn noAn noAn) (Both (CellT kx (wldC sb rb (.slice ao1 (n + 1) cp1) vr (.slice ao2 (n + 1) cp2) vR) tWld) (Both (RowG tPW 1 (.slice ao1 (n + 1) cp1) (n + 1) (As ++ [.pointer (pa k)])) (Both (RowG tPW6 1 (.slice ao2 (n + 1) cp2) (n + 1) (Bs ++ [.pointer (pb kr)])) (Both (X k) (Both (Y kr) (Both (StoreT sb S') (Both (RefT rb S') Φ)))))))))
  case first =>
    refine wp_only ?_
    rename_i J K' hJ hK
    have HJ := Lib.hid hJ
    have HK := Lib.hid hK
    clear hJ hK
    have hS9 : w9.drew.cell? ⟨kx, 1, none⟩ = some vw ∧ w9.drew.cell? ⟨kx, 4, none⟩ = some vW := ⟨q1, q4⟩
    refine wpL.start (fun l wx => (l.getD 8 true = false → wx.cell? ⟨kx, 1, none⟩ = some vw) ∧ (l.getD 15 true = false → wx.cell? ⟨kx, 4, none⟩ = some vW)) (by kernel_rfl) ⟨fun _ => hS9.1, fun _ => hS9.2⟩ (fun hHeld => ?_)
    refine wpL.take (i := 0) (v := ?_) rfl (by kernel_rfl) (by kernel_rfl) (by kernel_rfl) (fun _ _ _ h => h) (fun l w => by (try dsimp only); rw [getD_set_ne true (show 0 ≠ 8 by decide), getD_set_ne true (show 0 ≠ 15 by decide)]) (Or.inl ⟨by rfl, ?_⟩) hHeld (fun hH2 => ?_)
    rotate_left
    next => (intro w hSw; go_simp; (try with_reducible rfl))
    clear hHeld
    have hHeld := hH2
    clear hH2
    (try simp only [List.getElem_toArray, List.getElem_cons_zero, List.getElem_cons_succ, Act.put, List.setIfInBounds_toArray, List.set_cons_zero, List.set_cons_succ])
    refine wpL.take (i := 1) (v := ?_) rfl (by kernel_rfl) (by kernel_rfl) (by kernel_rfl) (fun _ _ _ h => h) (fun l w => by (try dsimp only); rw [getD_set_ne true (show 1 ≠ 8 by decide), getD_set_ne true (show 1 ≠ 15 by decide)]) (Or.inl ⟨by rfl, ?_⟩) hHeld (fun hH2 => ?_)
    rotate_left
    next => (intro w hSw; go_simp; (try with_reducible rfl))
    clear hHeld
    have hHeld := hH2
    clear hH2
    (try simp only [List.getElem_toArray, List.getElem_cons_zero, List.getElem_cons_succ, Act.put, List.setIfInBounds_toArray, List.set_cons_zero, List.set_cons_succ])
    refine wpL.take (i := 2) (v := ?_) rfl (by kernel_rfl) (by kernel_rfl) (by kernel_rfl) (fun _ _ _ h => h) (fun l w => by (try dsimp only); rw [getD_set_ne true (show 2 ≠ 8 by decide), getD_set_ne true (show 2 ≠ 15 by decide)]) (Or.inl ⟨by rfl, ?_⟩) hHeld (fun hH2 => ?_)
    rotate_left
    next => (intro w hSw; go_simp; (try with_reducible rfl))
    clear hHeld
    have hHeld := hH2
    clear hH2
    (try simp only [List.getElem_toArray, List.getElem_cons_zero, List.getElem_cons_succ, Act.put, List.setIfInBounds_toArray, List.set_cons_zero, List.set_cons_succ])
    refine wpL.take (i := 3) (v := ?_) rfl (by kernel_rfl) (by kernel_rfl) (by kernel_rfl) (fun _ _ _ h => h) (fun l w => by (try dsimp only); rw [getD_set_ne true (show 3 ≠ 8 by decide), getD_set_ne true (show 3 ≠ 15 by decide)]) (Or.inl ⟨by rfl, ?_⟩) hHeld (fun hH2 => ?_)
    rotate_left
    next => (intro w hSw; go_simp; (try with_reducible rfl))
    clear hHeld
    have hHeld := hH2
    clear hH2
    (try simp only [List.getElem_toArray, List.getElem_cons_zero, List.getElem_cons_succ, Act.put, List.setIfInBounds_toArray, List.set_cons_zero, List.set_cons_succ])
    refine wpL.take (i := 4) (v := ?_) rfl (by kernel_rfl) (by kernel_rfl) (by kernel_rfl) (fun _ _ _ h => h) (fun l w => by (try dsimp only); rw [getD_set_ne true (show 4 ≠ 8 by decide), getD_set_ne true (show 4 ≠ 15 by decide)]) (Or.inl ⟨by rfl, ?_⟩) hHeld (fun hH2 => ?_)
    rotate_left
    next => (intro w hSw; go_simp; (try with_reducible rfl))
    clear hHeld
    have hHeld := hH2
    clear hH2
    (try simp only [List.getElem_toArray, List.getElem_cons_zero, List.getElem_cons_succ, Act.put, List.setIfInBounds_toArray, List.set_cons_zero, List.set_cons_succ])
    refine wpL.takeG (i := 5) (g := 8) (v := ?_) (T := fun wx => wx.cell? ⟨kx, 1, none⟩ = some vw) rfl rfl (by kernel_rfl) (by kernel_rfl) (by kernel_rfl) (by kernel_rfl) (by kernel_rfl) (fun _ _ _ h => h) (fun l w hl hS => hS.1 hl) (fun l w => by (try dsimp only); rw [getD_set_ne true (show 5 ≠ 8 by decide), getD_set_ne true (show 5 ≠ 15 by decide)]) (Or.inl ⟨by rfl, ?_⟩) hHeld (fun hH2 => ?_)
    rotate_left
    next => (intro w hSw; (try dsimp only at hSw); go_simp; (try with_reducible rfl))
    clear hHeld
    have hHeld := hH2
    clear hH2
    (try simp only [List.getElem_toArray, List.getElem_cons_zero, List.getElem_cons_succ, Act.put, List.setIfInBounds_toArray, List.set_cons_zero, List.set_cons_succ])
    refine wpL.take (i := 6) (v := ?_) rfl (by kernel_rfl) (by kernel_rfl) (by kernel_rfl) (fun _ _ _ h => h) (fun l w => by (try dsimp only); rw [getD_set_ne true (show 6 ≠ 8 by decide), getD_set_ne true (show 6 ≠ 15 by decide)]) (Or.inl ⟨by rfl, ?_⟩) hHeld (fun hH2 => ?_)
    rotate_left
    next => (intro w hSw; go_simp; (try with_reducible rfl))
    clear hHeld
    have hHeld := hH2
    clear hH2
    (try simp only [List.getElem_toArray, List.getElem_cons_zero, List.getElem_cons_succ, Act.put, List.setIfInBounds_toArray, List.set_cons_zero, List.set_cons_succ])
    refine wpL.take (i := 9) (v := ?_) rfl (by kernel_rfl) (by kernel_rfl) (by kernel_rfl) (fun _ _ _ h => h) (fun l w => by (try dsimp only); rw [getD_set_ne true (show 9 ≠ 8 by decide), getD_set_ne true (show 9 ≠ 15 by decide)]) (Or.inl ⟨by rfl, ?_⟩) hHeld (fun hH2 => ?_)
    rotate_left
    next => (intro w hSw; go_simp; (try with_reducible rfl))
    clear hHeld
    have hHeld := hH2
    clear hH2
    (try simp only [List.getElem_toArray, List.getElem_cons_zero, List.getElem_cons_succ, Act.put, List.setIfInBounds_toArray, List.set_cons_zero, List.set_cons_succ])
    refine wpL.take (i := 10) (v := ?_) rfl (by kernel_rfl) (by kernel_rfl) (by kernel_rfl) (fun _ _ _ h => h) (fun l w => by (try dsimp only); rw [getD_set_ne true (show 10 ≠ 8 by decide), getD_set_ne true (show 10 ≠ 15 by decide)]) (Or.inl ⟨by rfl, ?_⟩) hHeld (fun hH2 => ?_)
    rotate_left
    next => (intro w hSw; go_simp; (try with_reducible rfl))
    clear hHeld
    have hHeld := hH2
    clear hH2
    (try simp only [List.getElem_toArray, List.getElem_cons_zero, List.getElem_cons_succ, Act.put, List.setIfInBounds_toArray, List.set_cons_zero, List.set_cons_succ])
    refine wpL.take (i := 11) (v := ?_) rfl (by kernel_rfl) (by kernel_rfl) (by kernel_rfl) (fun _ _ _ h => h) (fun l w => by (try dsimp only); rw [getD_set_ne true (show 11 ≠ 8 by decide), getD_set_ne true (show 11 ≠ 15 by decide)]) (Or.inl ⟨by rfl, ?_⟩) hHeld (fun hH2 => ?_)
    rotate_left
    next => (intro w hSw; go_simp; (try with_reducible rfl))
    clear hHeld
    have hHeld := hH2
    clear hH2
    (try simp only [List.getElem_toArray, List.getElem_cons_zero, List.getElem_cons_succ, Act.put, List.setIfInBounds_toArray, List.set_cons_zero, List.set_cons_succ])
    refine wpL.takeG (i := 12) (g := 15) (v := ?_) (T := fun wx => wx.cell? ⟨kx, 4, none⟩ = some vW) rfl rfl (by kernel_rfl) (by kernel_rfl) (by kernel_rfl) (by kernel_rfl) (by kernel_rfl) (fun _ _ _ h => h) (fun l w hl hS => hS.2 hl) (fun l w => by (try dsimp only); rw [getD_set_ne true (show 12 ≠ 8 by decide), getD_set_ne true (show 12 ≠ 15 by decide)]) (Or.inl ⟨by rfl, ?_⟩) hHeld (fun hH2 => ?_)
    rotate_left
    next => (intro w hSw; (try dsimp only at hSw); go_simp; (try with_reducible rfl))
    clear hHeld
    have hHeld := hH2
    clear hH2
    (try simp only [List.getElem_toArray, List.getElem_cons_zero, List.getElem_cons_succ, Act.put, List.setIfInBounds_toArray, List.set_cons_zero, List.set_cons_succ])
    refine wpL.take (i := 13) (v := ?_) rfl (by kernel_rfl) (by kernel_rfl) (by kernel_rfl) (fun _ _ _ h => h) (fun l w => by (try dsimp only); rw [getD_set_ne true (show 13 ≠ 8 by decide), getD_set_ne true (show 13 ≠ 15 by decide)]) (Or.inl ⟨by rfl, ?_⟩) hHeld (fun hH2 => ?_)
    rotate_left
    next => (intro w hSw; go_simp; (try with_reducible rfl))
    clear hHeld
    have hHeld := hH2
    clear hH2
    (try simp only [List.getElem_toArray, List.getElem_cons_zero, List.getElem_cons_succ, Act.put, List.setIfInBounds_toArray, List.set_cons_zero, List.set_cons_succ])
    refine wpL.ready (rs := [7, 14]) (by kernel_rfl) (by simp) ?_
    refine AllL.cons rfl (fun K hK => ?_) (AllL.cons rfl (fun K hK => ?_) AllL.nil)
    · skip
      go_simp
      refine hK.out _ _ ?_ (fun hH2 => ?_)
      next =>
        (try dsimp only)
        refine ⟨fun hl => ?_, fun hl => ?_⟩
        · first | (exact lNo hl (by decide +kernel)) | assumption | exact hS9.1 | exact cell_oldA hS9.1 | exact cell_oldA (cell_oldA hS9.1)
        · first | (exact lNo hl (by decide +kernel)) | assumption | exact hS9.2 | exact cell_oldA hS9.2 | exact cell_oldA (cell_oldA hS9.2) | exact cell_oldA t4
      clear hK K hHeld
      have hHeld := hH2
      clear hH2
      (try simp only [List.getElem_toArray, List.getElem_cons_zero, List.getElem_cons_succ, Act.put, List.setIfInBounds_toArray, List.set_cons_zero, List.set_cons_succ])
      refine wpL.ready (rs := [8, 14]) (by kernel_rfl) (by simp) ?_
      refine AllL.cons rfl (fun K hK => ?_) (AllL.cons rfl (fun K hK => ?_) AllL.nil)
      · skip
        refine step_append_ex rfl _ _ 48 rfl vw _ rfl rfl (append_cell_run (R := (Both (FiveT s #[.int .i64 1, .int .i64 o2, .int .i64 o3, .slice av ss.length cv] noAn noAn noAn noAn) (Both (CellT kx (wldC sb rb vw vr vW vR) tWld) (Both (RowG tPW6 1 vW n Bs) (Both (X k) (Both (Y kr) (Both (StoreT sb S') (Both (RefT rb S') Φ)))))))) (xs := As) (u := .pointer (pa k)) 48 48 tPW Tryd.underlying48 info_PW rfl ((H15.out.mono hst9 (by (repeat' (first | exact (Below.refl _ _) | (with_reducible refine Below.setCell ?_ ?_ _) | (with_reducible refine Below.alloc ?_ ?_ _) | (with_reducible refine Below.drew ?_) | omega | (simp only [World.heap_size_setCell, World.heap_size_alloc, World.heap_size_drew]; omega) | (simp; done) | (simp; omega))))).perm (by ac_rfl)) hst10 (by first | exact cell_new _ _ _ | exact cell_new2 _ _ _ _ _ | exact cell_old (cell_new _ _ _)) rfl (by unfold maxLen; omega) (by omega)) ?_
        rintro ao1 cp1 w10 ⟨h10, hu10⟩
        have t1 := cell_at h10.drop.drop.cell.1 1
        have t4 := cell_at h10.drop.drop.cell.1 4
        simp only [List.getElem?_toArray, List.getElem?_cons_zero, List.getElem?_cons_succ] at t1 t4
        have H10 := Lib.hid h10
        have HU10 := Lib.hid hu10
        clear h10 hu10
        refine hK.out _ _ ?_ (fun hH2 => ?_)
        next =>
          (try dsimp only)
          refine ⟨fun hl => ?_, fun hl => ?_⟩
          · first | (exact lNo hl (by decide +kernel)) | assumption | exact hS9.1 | exact cell_oldA hS9.1 | exact cell_oldA (cell_oldA hS9.1)
          · first | (exact lNo hl (by decide +kernel)) | assumption | exact hS9.2 | exact cell_oldA hS9.2 | exact cell_oldA (cell_oldA hS9.2) | exact cell_oldA t4
        clear hK K hHeld
        have hHeld := hH2
        clear hH2
        (try simp only [List.getElem_toArray, List.getElem_cons_zero, List.getElem_cons_succ, Act.put, List.setIfInBounds_toArray, List.set_cons_zero, List.set_cons_succ])
        refine wpL.ready (rs := [14]) (by kernel_rfl) (by simp) ?_
        refine AllL.cons rfl (fun K hK => ?_) AllL.nil
        go_simp
        refine hK.out _ _ ?_ (fun hH2 => ?_)
        next =>
          (try dsimp only)
          refine ⟨fun hl => ?_, fun hl => ?_⟩
          · first | (exact lNo hl (by decide +kernel)) | assumption | exact hS9.1 | exact cell_oldA hS9.1 | exact cell_oldA (cell_oldA hS9.1)
          · first | (exact lNo hl (by decide +kernel)) | assumption | exact hS9.2 | exact cell_oldA hS9.2 | exact cell_oldA (cell_oldA hS9.2) | exact cell_oldA t4
        clear hK K hHeld
        have hHeld := hH2
        clear hH2
        (try simp only [List.getElem_toArray, List.getElem_cons_zero, List.getElem_cons_succ, Act.put, List.setIfInBounds_toArray, List.set_cons_zero, List.set_cons_succ])
        skip
        refine wpL.ready (rs := [15]) (by kernel_rfl) (by simp) ?_
        refine AllL.cons rfl (fun K hK => ?_) AllL.nil
        refine step_append_ex rfl _ _ 50 rfl vW _ rfl rfl (append_cell_run (R := (Both (FiveT s #[.int .i64 1, .int .i64 o2, .int .i64 o3, .slice av ss.length cv] noAn noAn noAn noAn) (Both (CellT kx (wldC sb rb vw vr vW vR) tWld) (Both (RowG tPW 1 (.slice ao1 (n + 1) cp1) (n + 1) (As ++ [.pointer (pa k)])) (Both (X k) (Both (Y kr) (Both (StoreT sb S') (Both (RefT rb S') Φ)))))))) (xs := Bs) (u := .pointer (pb kr)) 50 50 tPW6 Tryd.underlying50 info_PW6 rfl ((H10.out.mono ((RowG.stable _ _ _ _ _).both hst10) (by (repeat' (first | exact (Below.refl _ _) | (with_reducible refine Below.setCell ?_ ?_ _) | (with_reducible refine Below.alloc ?_ ?_ _) | (with_reducible refine Below.drew ?_) | omega | (simp only [World.heap_size_setCell, World.heap_size_alloc, World.heap_size_drew]; omega) | (simp; done) | (simp; omega))))).perm (by ac_rfl)) (hst11 _) (by first | exact cell_new _ _ _ | exact upd_cell HU10.out (by first | (simp; done) | (simp; omega)) (fun hm => by have := hvw _ hm; omega) (cell_new2 _ _ _ _ _) | exact upd_cell HU10.out (by first | (simp; done) | (simp; omega)) (fun hm => by have := hvw _ hm; omega) (cell_new _ _ _) | exact upd_cell HU10.out (by first | (simp; done) | (simp; omega)) (fun hm => by have := hvw _ hm; omega) (cell_old (cell_new _ _ _))) rfl (by unfold maxLen; omega) (by omega)) ?_
        rintro ao2 cp2 w11 ⟨h11, hu11⟩
        have u1 := cell_at h11.drop.drop.cell.1 1
        have u4 := cell_at h11.drop.drop.cell.1 4
        have uf := thaw_at h11.drop.drop.cell.1
        have lk11 := lt_of_heap h11.drop.drop.cell.1
        simp only [List.getElem?_toArray, List.getElem?_cons_zero, List.getElem?_cons_succ] at u1 u4
        have H11 := Lib.hid h11
        clear h11 hu11
        refine hK.out _ _ ?_ (fun hH2 => ?_)
        next =>
          (try dsimp only)
          refine ⟨fun hl => ?_, fun hl => ?_⟩
          · first | (exact lNo hl (by decide +kernel)) | assumption | exact hS9.1 | exact cell_oldA hS9.1 | exact cell_oldA (cell_oldA hS9.1)
          · first | (exact lNo hl (by decide +kernel)) | assumption | exact hS9.2 | exact cell_oldA hS9.2 | exact cell_oldA (cell_oldA hS9.2) | exact cell_oldA t4
        clear hK K hHeld
        have hHeld := hH2
        clear hH2
        (try simp only [List.getElem_toArray, List.getElem_cons_zero, List.getElem_cons_succ, Act.put, List.setIfInBounds_toArray, List.set_cons_zero, List.set_cons_succ])
        refine wpL.ready (rs := [16]) (by kernel_rfl) (by simp) ?_
        refine AllL.cons rfl (fun K hK => ?_) AllL.nil
        go_simp
        refine hK.out _ _ ?_ (fun hH2 => ?_)
        next =>
          (try dsimp only)
          refine ⟨fun hl => ?_, fun hl => ?_⟩
          · first | (exact lNo hl (by decide +kernel)) | assumption | exact hS9.1 | exact cell_oldA hS9.1 | exact cell_oldA (cell_oldA hS9.1)
          · first | (exact lNo hl (by decide +kernel)) | assumption | exact hS9.2 | exact cell_oldA hS9.2 | exact cell_oldA (cell_oldA hS9.2) | exact cell_oldA t4
        clear hK K hHeld
        have hHeld := hH2
        clear hH2
        (try simp only [List.getElem_toArray, List.getElem_cons_zero, List.getElem_cons_succ, Act.put, List.setIfInBounds_toArray, List.set_cons_zero, List.set_cons_succ])
        refine wpL.ready (rs := [17]) (by kernel_rfl) (by simp) ?_
        refine AllL.cons rfl (fun K hK => ?_) AllL.nil
        go_simp
        refine hK.out _ _ ?_ (fun hH2 => ?_)
        next =>
          (try dsimp only)
          refine ⟨fun hl => ?_, fun hl => ?_⟩
          · first | (exact lNo hl (by decide +kernel)) | assumption | exact hS9.1 | exact cell_oldA hS9.1 | exact cell_oldA (cell_oldA hS9.1)
          · first | (exact lNo hl (by decide +kernel)) | assumption | exact hS9.2 | exact cell_oldA hS9.2 | exact cell_oldA (cell_oldA hS9.2) | exact cell_oldA t4
        clear hK K hHeld
        have hHeld := hH2
        clear hH2
        (try simp only [List.getElem_toArray, List.getElem_cons_zero, List.getElem_cons_succ, Act.put, List.setIfInBounds_toArray, List.set_cons_zero, List.set_cons_succ])
        refine wpL.ready (rs := [18]) (by kernel_rfl) (by simp) ?_
        refine AllL.cons rfl (fun K hK => ?_) AllL.nil
        go_simp
        refine hK.out _ _ ?_ (fun hH2 => ?_)
        next =>
          (try dsimp only)
          refine ⟨fun hl => ?_, fun hl => ?_⟩
          · first | (exact lNo hl (by decide +kernel)) | assumption | exact hS9.1 | exact cell_oldA hS9.1 | exact cell_oldA (cell_oldA hS9.1)
          · first | (exact lNo hl (by decide +kernel)) | assumption | exact hS9.2 | exact cell_oldA hS9.2 | exact cell_oldA (cell_oldA hS9.2) | exact cell_oldA t4
        clear hK K hHeld
        have hHeld := hH2
        clear hH2
        (try simp only [List.getElem_toArray, List.getElem_cons_zero, List.getElem_cons_succ, Act.put, List.setIfInBounds_toArray, List.set_cons_zero, List.set_cons_succ])
        refine wpL.ready (rs := [19]) (by kernel_rfl) (by simp) ?_
        refine AllL.cons rfl (fun K hK => ?_) AllL.nil
        go_simp
        refine hK.out _ _ ?_ (fun hH2 => ?_)
        next =>
          (try dsimp only)
          refine ⟨fun hl => ?_, fun hl => ?_⟩
          · first | (exact lNo hl (by decide +kernel)) | assumption | exact hS9.1 | exact cell_oldA hS9.1 | exact cell_oldA (cell_oldA hS9.1)
          · first | (exact lNo hl (by decide +kernel)) | assumption | exact hS9.2 | exact cell_oldA hS9.2 | exact cell_oldA (cell_oldA hS9.2) | exact cell_oldA t4
        clear hK K hHeld
        have hHeld := hH2
        clear hH2
        (try simp only [List.getElem_toArray, List.getElem_cons_zero, List.getElem_cons_succ, Act.put, List.setIfInBounds_toArray, List.set_cons_zero, List.set_cons_succ])
        refine wpL.ready (rs := [20]) (by kernel_rfl) (by simp) ?_
        refine AllL.cons rfl (fun K hK => ?_) AllL.nil
        go_simp
        refine hK.out _ _ ?_ (fun hH2 => ?_)
        next =>
          (try dsimp only)
          refine ⟨fun hl => ?_, fun hl => ?_⟩
          · first | (exact lNo hl (by decide +kernel)) | assumption | exact hS9.1 | exact cell_oldA hS9.1 | exact cell_oldA (cell_oldA hS9.1)
          · first | (exact lNo hl (by decide +kernel)) | assumption | exact hS9.2 | exact cell_oldA hS9.2 | exact cell_oldA (cell_oldA hS9.2) | exact cell_oldA t4
        clear hK K hHeld
        have hHeld := hH2
        clear hH2
        (try simp only [List.getElem_toArray, List.getElem_cons_zero, List.getElem_cons_succ, Act.put, List.setIfInBounds_toArray, List.set_cons_zero, List.set_cons_succ])
        refine wpL.ready (rs := [21]) (by kernel_rfl) (by simp) ?_
        refine AllL.cons rfl (fun K hK => ?_) AllL.nil
        go_simp
        refine hK.out _ _ ?_ (fun hH2 => ?_)
        next =>
          (try dsimp only)
          refine ⟨fun hl => ?_, fun hl => ?_⟩
          · first | (exact lNo hl (by decide +kernel)) | assumption | exact hS9.1 | exact cell_oldA hS9.1 | exact cell_oldA (cell_oldA hS9.1)
          · first | (exact lNo hl (by decide +kernel)) | assumption | exact hS9.2 | exact cell_oldA hS9.2 | exact cell_oldA (cell_oldA hS9.2) | exact cell_oldA t4
        clear hK K hHeld
        have hHeld := hH2
        clear hH2
        (try simp only [List.getElem_toArray, List.getElem_cons_zero, List.getElem_cons_succ, Act.put, List.setIfInBounds_toArray, List.set_cons_zero, List.set_cons_succ])
        refine wpL.done (by kernel_rfl) ?_ _
        have hRR := (FiveT.stable s #[.int .i64 1, .int .i64 o2, .int .i64 o3, .slice av ss.length cv] noAn noAn noAn noAn).both ((RowG.stable tPW 1 (.slice ao1 (n + 1) cp1) (n + 1) (As ++ [.pointer (pa k)])).both ((RowG.stable tPW6 1 (.slice ao2 (n + 1) cp2) (n + 1) (Bs ++ [.pointer (pb kr)])).both ((hXs k).both ((hYs kr).both ((StoreT.stable sb S').both ((RefT.stable rb S').both hΦ))))))
        have g0 := (H11.out.perm (show _ = Both (CellT kx (wldC sb rb vw vr vW vR) tWld) (Both (FiveT s #[.int .i64 1, .int .i64 o2, .int .i64 o3, .slice av ss.length cv] noAn noAn noAn noAn) (Both (RowG tPW 1 (.slice ao1 (n + 1) cp1) (n + 1) (As ++ [.pointer (pa k)])) (Both (RowG tPW6 1 (.slice ao2 (n + 1) cp2) (n + 1) (Bs ++ [.pointer (pb kr)])) (Both (X k) (Both (Y kr) (Both (StoreT sb S') (Both (RefT rb S') Φ))))))) by ac_rfl))
        have g1 := (g0.setCell hRR 1 (.slice ao1 (n + 1) cp1)).setCell hRR 4 (.slice ao2 (n + 1) cp2)
        have g2 : At W _ (Both (CellT kx (wldC sb rb (.slice ao1 (n + 1) cp1) vr (.slice ao2 (n + 1) cp2) vR) tWld) (Both (FiveT s #[.int .i64 1, .int .i64 o2, .int .i64 o3, .slice av ss.length cv] noAn noAn noAn noAn) (Both (RowG tPW 1 (.slice ao1 (n + 1) cp1) (n + 1) (As ++ [.pointer (pa k)])) (Both (RowG tPW6 1 (.slice ao2 (n + 1) cp2) (n + 1) (Bs ++ [.pointer (pb kr)])) (Both (X k) (Both (Y kr) (Both (StoreT sb S') (Both (RefT rb S') Φ)))))))) := g1
        have g3 : At W _ (Both (FiveT s #[.int .i64 1, .int .i64 o2, .int .i64 o3, .slice av ss.length cv] noAn noAn noAn noAn) (Both (CellT kx (wldC sb rb (.slice ao1 (n + 1) cp1) vr (.slice ao2 (n + 1) cp2) vR) tWld) (Both (RowG tPW 1 (.slice ao1 (n + 1) cp1) (n + 1) (As ++ [.pointer (pa k)])) (Both (RowG tPW6 1 (.slice ao2 (n + 1) cp2) (n + 1) (Bs ++ [.pointer (pb kr)])) (Both (X k) (Both (Y kr) (Both (StoreT sb S') (Both (RefT rb S') Φ)))))))) := g2.perm (by ac_rfl)
        refine HK.out _ _ ?_
        have hJ := HJ.out
        go_meet
        case rel => exact ⟨ao1, cp1, ao2, cp2, g3⟩
      · skip
        go_simp
        refine hK.out _ _ ?_ (fun hH2 => ?_)
        next =>
          (try dsimp only)
          refine ⟨fun hl => ?_, fun hl => ?_⟩
          · first | (exact lNo hl (by decide +kernel)) | assumption | exact hS9.1 | exact cell_oldA hS9.1 | exact cell_oldA (cell_oldA hS9.1)
          · first | (exact lNo hl (by decide +kernel)) | assumption | exact hS9.2 | exact cell_oldA hS9.2 | exact cell_oldA (cell_oldA hS9.2) | exact cell_oldA t4
        clear hK K hHeld
        have hHeld := hH2
        clear hH2
        (try simp only [List.getElem_toArray, List.getElem_cons_zero, List.getElem_cons_succ, Act.put, List.setIfInBounds_toArray, List.set_cons_zero, List.set_cons_succ])
        refine wpL.ready (rs := [8]) (by kernel_rfl) (by simp) ?_
        refine AllL.cons rfl (fun K hK => ?_) AllL.nil
        refine step_append_ex rfl _ _ 48 rfl vw _ rfl rfl (append_cell_run (R := (Both (FiveT s #[.int .i64 1, .int .i64 o2, .int .i64 o3, .slice av ss.length cv] noAn noAn noAn noAn) (Both (CellT kx (wldC sb rb vw vr vW vR) tWld) (Both (RowG tPW6 1 vW n Bs) (Both (X k) (Both (Y kr) (Both (StoreT sb S') (Both (RefT rb S') Φ)))))))) (xs := As) (u := .pointer (pa k)) 48 48 tPW Tryd.underlying48 info_PW rfl ((H15.out.mono hst9 (by (repeat' (first | exact (Below.refl _ _) | (with_reducible refine Below.setCell ?_ ?_ _) | (with_reducible refine Below.alloc ?_ ?_ _) | (with_reducible refine Below.drew ?_) | omega | (simp only [World.heap_size_setCell, World.heap_size_alloc, World.heap_size_drew]; omega) | (simp; done) | (simp; omega))))).perm (by ac_rfl)) hst10 (by first | exact cell_new _ _ _ | exact cell_new2 _ _ _ _ _ | exact cell_old (cell_new _ _ _)) rfl (by unfold maxLen; omega) (by omega)) ?_
        rintro ao1 cp1 w10 ⟨h10, hu10⟩
        have t1 := cell_at h10.drop.drop.cell.1 1
        have t4 := cell_at h10.drop.drop.cell.1 4
        simp only [List.getElem?_toArray, List.getElem?_cons_zero, List.getElem?_cons_succ] at t1 t4
        have H10 := Lib.hid h10
        have HU10 := Lib.hid hu10
        clear h10 hu10
        refine hK.out _ _ ?_ (fun hH2 => ?_)
        next =>
          (try dsimp only)
          refine ⟨fun hl => ?_, fun hl => ?_⟩
          · first | (exact lNo hl (by decide +kernel)) | assumption | exact hS9.1 | exact cell_oldA hS9.1 | exact cell_oldA (cell_oldA hS9.1)
          · first | (exact lNo hl (by decide +kernel)) | assumption | exact hS9.2 | exact cell_oldA hS9.2 | exact cell_oldA (cell_oldA hS9.2) | exact cell_oldA t4
        clear hK K hHeld
        have hHeld := hH2
        clear hH2
        (try simp only [List.getElem_toArray, List.getElem_cons_zero, List.getElem_cons_succ, Act.put, List.setIfInBounds_toArray, List.set_cons_zero, List.set_cons_succ])
        skip
        refine wpL.ready (rs := [15]) (by kernel_rfl) (by simp) ?_
        refine AllL.cons rfl (fun K hK => ?_) AllL.nil
        refine step_append_ex rfl _ _ 50 rfl vW _ rfl rfl (append_cell_run (R := (Both (FiveT s #[.int .i64 1, .int .i64 o2, .int .i64 o3, .slice av ss.length cv] noAn noAn noAn noAn) (Both (CellT kx (wldC sb rb vw vr vW vR) tWld) (Both (RowG tPW 1 (.slice ao1 (n + 1) cp1) (n + 1) (As ++ [.pointer (pa k)])) (Both (X k) (Both (Y kr) (Both (StoreT sb S') (Both (RefT rb S') Φ)))))))) (xs := Bs) (u := .pointer (pb kr)) 50 50 tPW6 Tryd.underlying50 info_PW6 rfl ((H10.out.mono ((RowG.stable _ _ _ _ _).both hst10) (by (repeat' (first | exact (Below.refl _ _) | (with_reducible refine Below.setCell ?_ ?_ _) | (with_reducible refine Below.alloc ?_ ?_ _) | (with_reducible refine Below.drew ?_) | omega | (simp only [World.heap_size_setCell, World.heap_size_alloc, World.heap_size_drew]; omega) | (simp; done) | (simp; omega))))).perm (by ac_rfl)) (hst11 _) (by first | exact cell_new _ _ _ | exact upd_cell HU10.out (by first | (simp; done) | (simp; omega)) (fun hm => by have := hvw _ hm; omega) (cell_new2 _ _ _ _ _) | exact upd_cell HU10.out (by first | (simp; done) | (simp; omega)) (fun hm => by have := hvw _ hm; omega) (cell_new _ _ _) | exact upd_cell HU10.out (by first | (simp; done) | (simp; omega)) (fun hm => by have := hvw _ hm; omega) (cell_old (cell_new _ _ _))) rfl (by unfold maxLen; omega) (by omega)) ?_
        rintro ao2 cp2 w11 ⟨h11, hu11⟩
        have u1 := cell_at h11.drop.drop.cell.1 1
        have u4 := cell_at h11.drop.drop.cell.1 4
        have uf := thaw_at h11.drop.drop.cell.1
        have lk11 := lt_of_heap h11.drop.drop.cell.1
        simp only [List.getElem?_toArray, List.getElem?_cons_zero, List.getElem?_cons_succ] at u1 u4
        have H11 := Lib.hid h11
        clear h11 hu11
        refine hK.out _ _ ?_ (fun hH2 => ?_)
        next =>
          (try dsimp only)
          refine ⟨fun hl => ?_, fun hl => ?_⟩
          · first | (exact lNo hl (by decide +kernel)) | assumption | exact hS9.1 | exact cell_oldA hS9.1 | exact cell_oldA (cell_oldA hS9.1)
          · first | (exact lNo hl (by decide +kernel)) | assumption | exact hS9.2 | exact cell_oldA hS9.2 | exact cell_oldA (cell_oldA hS9.2) | exact cell_oldA t4
        clear hK K hHeld
        have hHeld := hH2
        clear hH2
        (try simp only [List.getElem_toArray, List.getElem_cons_zero, List.getElem_cons_succ, Act.put, List.setIfInBounds_toArray, List.set_cons_zero, List.set_cons_succ])
        refine wpL.ready (rs := [16]) (by kernel_rfl) (by simp) ?_
        refine AllL.cons rfl (fun K hK => ?_) AllL.nil
        go_simp
        refine hK.out _ _ ?_ (fun hH2 => ?_)
        next =>
          (try dsimp only)
          refine ⟨fun hl => ?_, fun hl => ?_⟩
          · first | (exact lNo hl (by decide +kernel)) | assumption | exact hS9.1 | exact cell_oldA hS9.1 | exact cell_oldA (cell_oldA hS9.1)
          · first | (exact lNo hl (by decide +kernel)) | assumption | exact hS9.2 | exact cell_oldA hS9.2 | exact cell_oldA (cell_oldA hS9.2) | exact cell_oldA t4
        clear hK K hHeld
        have hHeld := hH2
        clear hH2
        (try simp only [List.getElem_toArray, List.getElem_cons_zero, List.getElem_cons_succ, Act.put, List.setIfInBounds_toArray, List.set_cons_zero, List.set_cons_succ])
        refine wpL.ready (rs := [17]) (by kernel_rfl) (by simp) ?_
        refine AllL.cons rfl (fun K hK => ?_) AllL.nil
        go_simp
        refine hK.out _ _ ?_ (fun hH2 => ?_)
        next =>
          (try dsimp only)
          refine ⟨fun hl => ?_, fun hl => ?_⟩
          · first | (exact lNo hl (by decide +kernel)) | assumption | exact hS9.1 | exact cell_oldA hS9.1 | exact cell_oldA (cell_oldA hS9.1)
          · first | (exact lNo hl (by decide +kernel)) | assumption | exact hS9.2 | exact cell_oldA hS9.2 | exact cell_oldA (cell_oldA hS9.2) | exact cell_oldA t4
        clear hK K hHeld
        have hHeld := hH2
        clear hH2
        (try simp only [List.getElem_toArray, List.getElem_cons_zero, List.getElem_cons_succ, Act.put, List.setIfInBounds_toArray, List.set_cons_zero, List.set_cons_succ])
        refine wpL.ready (rs := [18]) (by kernel_rfl) (by simp) ?_
        refine AllL.cons rfl (fun K hK => ?_) AllL.nil
        go_simp
        refine hK.out _ _ ?_ (fun hH2 => ?_)
        next =>
          (try dsimp only)
          refine ⟨fun hl => ?_, fun hl => ?_⟩
          · first | (exact lNo hl (by decide +kernel)) | assumption | exact hS9.1 | exact cell_oldA hS9.1 | exact cell_oldA (cell_oldA hS9.1)
          · first | (exact lNo hl (by decide +kernel)) | assumption | exact hS9.2 | exact cell_oldA hS9.2 | exact cell_oldA (cell_oldA hS9.2) | exact cell_oldA t4
        clear hK K hHeld
        have hHeld := hH2
        clear hH2
        (try simp only [List.getElem_toArray, List.getElem_cons_zero, List.getElem_cons_succ, Act.put, List.setIfInBounds_toArray, List.set_cons_zero, List.set_cons_succ])
        refine wpL.ready (rs := [19]) (by kernel_rfl) (by simp) ?_
        refine AllL.cons rfl (fun K hK => ?_) AllL.nil
        go_simp
        refine hK.out _ _ ?_ (fun hH2 => ?_)
        next =>
          (try dsimp only)
          refine ⟨fun hl => ?_, fun hl => ?_⟩
          · first | (exact lNo hl (by decide +kernel)) | assumption | exact hS9.1 | exact cell_oldA hS9.1 | exact cell_oldA (cell_oldA hS9.1)
          · first | (exact lNo hl (by decide +kernel)) | assumption | exact hS9.2 | exact cell_oldA hS9.2 | exact cell_oldA (cell_oldA hS9.2) | exact cell_oldA t4
        clear hK K hHeld
        have hHeld := hH2
        clear hH2
        (try simp only [List.getElem_toArray, List.getElem_cons_zero, List.getElem_cons_succ, Act.put, List.setIfInBounds_toArray, List.set_cons_zero, List.set_cons_succ])
        refine wpL.ready (rs := [20]) (by kernel_rfl) (by simp) ?_
        refine AllL.cons rfl (fun K hK => ?_) AllL.nil
        go_simp
        refine hK.out _ _ ?_ (fun hH2 => ?_)
        next =>
          (try dsimp only)
          refine ⟨fun hl => ?_, fun hl => ?_⟩
          · first | (exact lNo hl (by decide +kernel)) | assumption | exact hS9.1 | exact cell_oldA hS9.1 | exact cell_oldA (cell_oldA hS9.1)
          · first | (exact lNo hl (by decide +kernel)) | assumption | exact hS9.2 | exact cell_oldA hS9.2 | exact cell_oldA (cell_oldA hS9.2) | exact cell_oldA t4
        clear hK K hHeld
        have hHeld := hH2
        clear hH2
        (try simp only [List.getElem_toArray, List.getElem_cons_zero, List.getElem_cons_succ, Act.put, List.setIfInBounds_toArray, List.set_cons_zero, List.set_cons_succ])
        refine wpL.ready (rs := [21]) (by kernel_rfl) (by simp) ?_
        refine AllL.cons rfl (fun K hK => ?_) AllL.nil
        go_simp
        refine hK.out _ _ ?_ (fun hH2 => ?_)
        next =>
          (try dsimp only)
          refine ⟨fun hl => ?_, fun hl => ?_⟩
          · first | (exact lNo hl (by decide +kernel)) | assumption | exact hS9.1 | exact cell_oldA hS9.1 | exact cell_oldA (cell_oldA hS9.1)
          · first | (exact lNo hl (by decide +kernel)) | assumption | exact hS9.2 | exact cell_oldA hS9.2 | exact cell_oldA (cell_oldA hS9.2) | exact cell_oldA t4
        clear hK K hHeld
        have hHeld := hH2
        clear hH2
        (try simp only [List.getElem_toArray, List.getElem_cons_zero, List.getElem_cons_succ, Act.put, List.setIfInBounds_toArray, List.set_cons_zero, List.set_cons_succ])
        refine wpL.done (by kernel_rfl) ?_ _
        have hRR := (FiveT.stable s #[.int .i64 1, .int .i64 o2, .int .i64 o3, .slice av ss.length cv] noAn noAn noAn noAn).both ((RowG.stable tPW 1 (.slice ao1 (n + 1) cp1) (n + 1) (As ++ [.pointer (pa k)])).both ((RowG.stable tPW6 1 (.slice ao2 (n + 1) cp2) (n + 1) (Bs ++ [.pointer (pb kr)])).both ((hXs k).both ((hYs kr).both ((StoreT.stable sb S').both ((RefT.stable rb S').both hΦ))))))
        have g0 := (H11.out.perm (show _ = Both (CellT kx (wldC sb rb vw vr vW vR) tWld) (Both (FiveT s #[.int .i64 1, .int .i64 o2, .int .i64 o3, .slice av ss.length cv] noAn noAn noAn noAn) (Both (RowG tPW 1 (.slice ao1 (n + 1) cp1) (n + 1) (As ++ [.pointer (pa k)])) (Both (RowG tPW6 1 (.slice ao2 (n + 1) cp2) (n + 1) (Bs ++ [.pointer (pb kr)])) (Both (X k) (Both (Y kr) (Both (StoreT sb S') (Both (RefT rb S') Φ))))))) by ac_rfl))
        have g1 := (g0.setCell hRR 1 (.slice ao1 (n + 1) cp1)).setCell hRR 4 (.slice ao2 (n + 1) cp2)
        have g2 : At W _ (Both (CellT kx (wldC sb rb (.slice ao1 (n + 1) cp1) vr (.slice ao2 (n + 1) cp2) vR) tWld) (Both (FiveT s #[.int .i64 1, .int .i64 o2, .int .i64 o3, .slice av ss.length cv] noAn noAn noAn noAn) (Both (RowG tPW 1 (.slice ao1 (n + 1) cp1) (n + 1) (As ++ [.pointer (pa k)])) (Both (RowG tPW6 1 (.slice ao2 (n + 1) cp2) (n + 1) (Bs ++ [.pointer (pb kr)])) (Both (X k) (Both (Y kr) (Both (StoreT sb S') (Both (RefT rb S') Φ)))))))) := g1
        have g3 : At W _ (Both (FiveT s #[.int .i64 1, .int .i64 o2, .int .i64 o3, .slice av ss.length cv] noAn noAn noAn noAn) (Both (CellT kx (wldC sb rb (.slice ao1 (n + 1) cp1) vr (.slice ao2 (n + 1) cp2) vR) tWld) (Both (RowG tPW 1 (.slice ao1 (n + 1) cp1) (n + 1) (As ++ [.pointer (pa k)])) (Both (RowG tPW6 1 (.slice ao2 (n + 1) cp2) (n + 1) (Bs ++ [.pointer (pb kr)])) (Both (X k) (Both (Y kr) (Both (StoreT sb S') (Both (RefT rb S') Φ)))))))) := g2.perm (by ac_rfl)
        refine HK.out _ _ ?_
        have hJ := HJ.out
        go_meet
        case rel => exact ⟨ao1, cp1, ao2, cp2, g3⟩
    · skip
      go_simp
      refine hK.out _ _ ?_ (fun hH2 => ?_)
      next =>
        (try dsimp only)
        refine ⟨fun hl => ?_, fun hl => ?_⟩
        · first | (exact lNo hl (by decide +kernel)) | assumption | exact hS9.1 | exact cell_oldA hS9.1 | exact cell_oldA (cell_oldA hS9.1)
        · first | (exact lNo hl (by decide +kernel)) | assumption | exact hS9.2 | exact cell_oldA hS9.2 | exact cell_oldA (cell_oldA hS9.2) | exact cell_oldA t4
      clear hK K hHeld
      have hHeld := hH2
      clear hH2
      (try simp only [List.getElem_toArray, List.getElem_cons_zero, List.getElem_cons_succ, Act.put, List.setIfInBounds_toArray, List.set_cons_zero, List.set_cons_succ])
      refine wpL.ready (rs := [7]) (by kernel_rfl) (by simp) ?_
      refine AllL.cons rfl (fun K hK => ?_) AllL.nil
      go_simp
      refine hK.out _ _ ?_ (fun hH2 => ?_)
      next =>
        (try dsimp only)
        refine ⟨fun hl => ?_, fun hl => ?_⟩
        · first | (exact lNo hl (by decide +kernel)) | assumption | exact hS9.1 | exact cell_oldA hS9.1 | exact cell_oldA (cell_oldA hS9.1)
        · first | (exact lNo hl (by decide +kernel)) | assumption | exact hS9.2 | exact cell_oldA hS9.2 | exact cell_oldA (cell_oldA hS9.2) | exact cell_oldA t4
      clear hK K hHeld
      have hHeld := hH2
      clear hH2
      (try simp only [List.getElem_toArray, List.getElem_cons_zero, List.getElem_cons_succ, Act.put, List.setIfInBounds_toArray, List.set_cons_zero, List.set_cons_succ])
      refine wpL.ready (rs := [8]) (by kernel_rfl) (by simp) ?_
      refine AllL.cons rfl (fun K hK => ?_) AllL.nil
      refine step_append_ex rfl _ _ 48 rfl vw _ rfl rfl (append_cell_run (R := (Both (FiveT s #[.int .i64 1, .int .i64 o2, .int .i64 o3, .slice av ss.length cv] noAn noAn noAn noAn) (Both (CellT kx (wldC sb rb vw vr vW vR) tWld) (Both (RowG tPW6 1 vW n Bs) (Both (X k) (Both (Y kr) (Both (StoreT sb S') (Both (RefT rb S') Φ)))))))) (xs := As) (u := .pointer (pa k)) 48 48 tPW Tryd.underlying48 info_PW rfl ((H15.out.mono hst9 (by (repeat' (first | exact (Below.refl _ _) | (with_reducible refine Below.setCell ?_ ?_ _) | (with_reducible refine Below.alloc ?_ ?_ _) | (with_reducible refine Below.drew ?_) | omega | (simp only [World.heap_size_setCell, World.heap_size_alloc, World.heap_size_drew]; omega) | (simp; done) | (simp; omega))))).perm (by ac_rfl)) hst10 (by first | exact cell_new _ _ _ | exact cell_new2 _ _ _ _ _ | exact cell_old (cell_new _ _ _)) rfl (by unfold maxLen; omega) (by omega)) ?_
      rintro ao1 cp1 w10 ⟨h10, hu10⟩
      have t1 := cell_at h10.drop.drop.cell.1 1
      have t4 := cell_at h10.drop.drop.cell.1 4
      simp only [List.getElem?_toArray, List.getElem?_cons_zero, List.getElem?_cons_succ] at t1 t4
      have H10 := Lib.hid h10
      have HU10 := Lib.hid hu10
      clear h10 hu10
      refine hK.out _ _ ?_ (fun hH2 => ?_)
      next =>
        (try dsimp only)
        refine ⟨fun hl => ?_, fun hl => ?_⟩
        · first | (exact lNo hl (by decide +kernel)) | assumption | exact hS9.1 | exact cell_oldA hS9.1 | exact cell_oldA (cell_oldA hS9.1)
        · first | (exact lNo hl (by decide +kernel)) | assumption | exact hS9.2 | exact cell_oldA hS9.2 | exact cell_oldA (cell_oldA hS9.2) | exact cell_oldA t4
      clear hK K hHeld
      have hHeld := hH2
      clear hH2
      (try simp only [List.getElem_toArray, List.getElem_cons_zero, List.getElem_cons_succ, Act.put, List.setIfInBounds_toArray, List.set_cons_zero, List.set_cons_succ])
      skip
      refine wpL.ready (rs := [15]) (by kernel_rfl) (by simp) ?_
      refine AllL.cons rfl (fun K hK => ?_) AllL.nil
      refine step_append_ex rfl _ _ 50 rfl vW _ rfl rfl (append_cell_run (R := (Both (FiveT s #[.int .i64 1, .int .i64 o2, .int .i64 o3, .slice av ss.length cv] noAn noAn noAn noAn) (Both (CellT kx (wldC sb rb vw vr vW vR) tWld) (Both (RowG tPW 1 (.slice ao1 (n + 1) cp1) (n + 1) (As ++ [.pointer (pa k)])) (Both (X k) (Both (Y kr) (Both (StoreT sb S') (Both (RefT rb S') Φ)))))))) (xs := Bs) (u := .pointer (pb kr)) 50 50 tPW6 Tryd.underlying50 info_PW6 rfl ((H10.out.mono ((RowG.stable _ _ _ _ _).both hst10) (by (repeat' (first | exact (Below.refl _ _) | (with_reducible refine Below.setCell ?_ ?_ _) | (with_reducible refine Below.alloc ?_ ?_ _) | (with_reducible refine Below.drew ?_) | omega | (simp only [World.heap_size_setCell, World.heap_size_alloc, World.heap_size_drew]; omega) | (simp; done) | (simp; omega))))).perm (by ac_rfl)) (hst11 _) (by first | exact cell_new _ _ _ | exact upd_cell HU10.out (by first | (simp; done) | (simp; omega)) (fun hm => by have := hvw _ hm; omega) (cell_new2 _ _ _ _ _) | exact upd_cell HU10.out (by first | (simp; done) | (simp; omega)) (fun hm => by have := hvw _ hm; omega) (cell_new _ _ _) | exact upd_cell HU10.out (by first | (simp; done) | (simp; omega)) (fun hm => by have := hvw _ hm; omega) (cell_old (cell_new _ _ _))) rfl (by unfold maxLen; omega) (by omega)) ?_
      rintro ao2 cp2 w11 ⟨h11, hu11⟩
      have u1 := cell_at h11.drop.drop.cell.1 1
      have u4 := cell_at h11.drop.drop.cell.1 4
      have uf := thaw_at h11.drop.drop.cell.1
      have lk11 := lt_of_heap h11.drop.drop.cell.1
      simp only [List.getElem?_toArray, List.getElem?_cons_zero, List.getElem?_cons_succ] at u1 u4
      have H11 := Lib.hid h11
      clear h11 hu11
      refine hK.out _ _ ?_ (fun hH2 => ?_)
      next =>
        (try dsimp only)
        refine ⟨fun hl => ?_, fun hl => ?_⟩
        · first | (exact lNo hl (by decide +kernel)) | assumption | exact hS9.1 | exact cell_oldA hS9.1 | exact cell_oldA (cell_oldA hS9.1)
        · first | (exact lNo hl (by decide +kernel)) | assumption | exact hS9.2 | exact cell_oldA hS9.2 | exact cell_oldA (cell_oldA hS9.2) | exact cell_oldA t4
      clear hK K hHeld
      have hHeld := hH2
      clear hH2
      (try simp only [List.getElem_toArray, List.getElem_cons_zero, List.getElem_cons_succ, Act.put, List.setIfInBounds_toArray, List.set_cons_zero, List.set_cons_succ])
      refine wpL.ready (rs := [16]) (by kernel_rfl) (by simp) ?_
      refine AllL.cons rfl (fun K hK => ?_) AllL.nil
      go_simp
      refine hK.out _ _ ?_ (fun hH2 => ?_)
      next =>
        (try dsimp only)
        refine ⟨fun hl => ?_, fun hl => ?_⟩
        · first | (exact lNo hl (by decide +kernel)) | assumption | exact hS9.1 | exact cell_oldA hS9.1 | exact cell_oldA (cell_oldA hS9.1)
        · first | (exact lNo hl (by decide +kernel)) | assumption | exact hS9.2 | exact cell_oldA hS9.2 | exact cell_oldA (cell_oldA hS9.2) | exact cell_oldA t4
      clear hK K hHeld
      have hHeld := hH2
      clear hH2
      (try simp only [List.getElem_toArray, List.getElem_cons_zero, List.getElem_cons_succ, Act.put, List.setIfInBounds_toArray, List.set_cons_zero, List.set_cons_succ])
      refine wpL.ready (rs := [17]) (by kernel_rfl) (by simp) ?_
      refine AllL.cons rfl (fun K hK => ?_) AllL.nil
      go_simp
      refine hK.out _ _ ?_ (fun hH2 => ?_)
      next =>
        (try dsimp only)
        refine ⟨fun hl => ?_, fun hl => ?_⟩
        · first | (exact lNo hl (by decide +kernel)) | assumption | exact hS9.1 | exact cell_oldA hS9.1 | exact cell_oldA (cell_oldA hS9.1)
        · first | (exact lNo hl (by decide +kernel)) | assumption | exact hS9.2 | exact cell_oldA hS9.2 | exact cell_oldA (cell_oldA hS9.2) | exact cell_oldA t4
      clear hK K hHeld
      have hHeld := hH2
      clear hH2
      (try simp only [List.getElem_toArray, List.getElem_cons_zero, List.getElem_cons_succ, Act.put, List.setIfInBounds_toArray, List.set_cons_zero, List.set_cons_succ])
      refine wpL.ready (rs := [18]) (by kernel_rfl) (by simp) ?_
      refine AllL.cons rfl (fun K hK => ?_) AllL.nil
      go_simp
      refine hK.out _ _ ?_ (fun hH2 => ?_)
      next =>
        (try dsimp only)
        refine ⟨fun hl => ?_, fun hl => ?_⟩
        · first | (exact lNo hl (by decide +kernel)) | assumption | exact hS9.1 | exact cell_oldA hS9.1 | exact cell_oldA (cell_oldA hS9.1)
        · first | (exact lNo hl (by decide +kernel)) | assumption | exact hS9.2 | exact cell_oldA hS9.2 | exact cell_oldA (cell_oldA hS9.2) | exact cell_oldA t4
      clear hK K hHeld
      have hHeld := hH2
      clear hH2
      (try simp only [List.getElem_toArray, List.getElem_cons_zero, List.getElem_cons_succ, Act.put, List.setIfInBounds_toArray, List.set_cons_zero, List.set_cons_succ])
      refine wpL.ready (rs := [19]) (by kernel_rfl) (by simp) ?_
      refine AllL.cons rfl (fun K hK => ?_) AllL.nil
      go_simp
      refine hK.out _ _ ?_ (fun hH2 => ?_)
      next =>
        (try dsimp only)
        refine ⟨fun hl => ?_, fun hl => ?_⟩
        · first | (exact lNo hl (by decide +kernel)) | assumption | exact hS9.1 | exact cell_oldA hS9.1 | exact cell_oldA (cell_oldA hS9.1)
        · first | (exact lNo hl (by decide +kernel)) | assumption | exact hS9.2 | exact cell_oldA hS9.2 | exact cell_oldA (cell_oldA hS9.2) | exact cell_oldA t4
      clear hK K hHeld
      have hHeld := hH2
      clear hH2
      (try simp only [List.getElem_toArray, List.getElem_cons_zero, List.getElem_cons_succ, Act.put, List.setIfInBounds_toArray, List.set_cons_zero, List.set_cons_succ])
      refine wpL.ready (rs := [20]) (by kernel_rfl) (by simp) ?_
      refine AllL.cons rfl (fun K hK => ?_) AllL.nil
      go_simp
      refine hK.out _ _ ?_ (fun hH2 => ?_)
      next =>
        (try dsimp only)
        refine ⟨fun hl => ?_, fun hl => ?_⟩
        · first | (exact lNo hl (by decide +kernel)) | assumption | exact hS9.1 | exact cell_oldA hS9.1 | exact cell_oldA (cell_oldA hS9.1)
        · first | (exact lNo hl (by decide +kernel)) | assumption | exact hS9.2 | exact cell_oldA hS9.2 | exact cell_oldA (cell_oldA hS9.2) | exact cell_oldA t4
      clear hK K hHeld
      have hHeld := hH2
      clear hH2
      (try simp only [List.getElem_toArray, List.getElem_cons_zero, List.getElem_cons_succ, Act.put, List.setIfInBounds_toArray, List.set_cons_zero, List.set_cons_succ])
      refine wpL.ready (rs := [21]) (by kernel_rfl) (by simp) ?_
      refine AllL.cons rfl (fun K hK => ?_) AllL.nil
      go_simp
      refine hK.out _ _ ?_ (fun hH2 => ?_)
      next =>
        (try dsimp only)
        refine ⟨fun hl => ?_, fun hl => ?_⟩
        · first | (exact lNo hl (by decide +kernel)) | assumption | exact hS9.1 | exact cell_oldA hS9.1 | exact cell_oldA (cell_oldA hS9.1)
        · first | (exact lNo hl (by decide +kernel)) | assumption | exact hS9.2 | exact cell_oldA hS9.2 | exact cell_oldA (cell_oldA hS9.2) | exact cell_oldA t4
      clear hK K hHeld
      have hHeld := hH2
      clear hH2
      (try simp only [List.getElem_toArray, List.getElem_cons_zero, List.getElem_cons_succ, Act.put, List.setIfInBounds_toArray, List.set_cons_zero, List.set_cons_succ])
      refine wpL.done (by kernel_rfl) ?_ _
      have hRR := (FiveT.stable s #[.int .i64 1, .int .i64 o2, .int .i64 o3, .slice av ss.length cv] noAn noAn noAn noAn).both ((RowG.stable tPW 1 (.slice ao1 (n + 1) cp1) (n + 1) (As ++ [.pointer (pa k)])).both ((RowG.stable tPW6 1 (.slice ao2 (n + 1) cp2) (n + 1) (Bs ++ [.pointer (pb kr)])).both ((hXs k).both ((hYs kr).both ((StoreT.stable sb S').both ((RefT.stable rb S').both hΦ))))))
      have g0 := (H11.out.perm (show _ = Both (CellT kx (wldC sb rb vw vr vW vR) tWld) (Both (FiveT s #[.int .i64 1, .int .i64 o2, .int .i64 o3, .slice av ss.length cv] noAn noAn noAn noAn) (Both (RowG tPW 1 (.slice ao1 (n + 1) cp1) (n + 1) (As ++ [.pointer (pa k)])) (Both (RowG tPW6 1 (.slice ao2 (n + 1) cp2) (n + 1) (Bs ++ [.pointer (pb kr)])) (Both (X k) (Both (Y kr) (Both (StoreT sb S') (Both (RefT rb S') Φ))))))) by ac_rfl))
      have g1 := (g0.setCell hRR 1 (.slice ao1 (n + 1) cp1)).setCell hRR 4 (.slice ao2 (n + 1) cp2)
      have g2 : At W _ (Both (CellT kx (wldC sb rb (.slice ao1 (n + 1) cp1) vr (.slice ao2 (n + 1) cp2) vR) tWld) (Both (FiveT s #[.int .i64 1, .int .i64 o2, .int .i64 o3, .slice av ss.length cv] noAn noAn noAn noAn) (Both (RowG tPW 1 (.slice ao1 (n + 1) cp1) (n + 1) (As ++ [.pointer (pa k)])) (Both (RowG tPW6 1 (.slice ao2 (n + 1) cp2) (n + 1) (Bs ++ [.pointer (pb kr)])) (Both (X k) (Both (Y kr) (Both (StoreT sb S') (Both (RefT rb S') Φ)))))))) := g1
      have g3 : At W _ (Both (FiveT s #[.int .i64 1, .int .i64 o2, .int .i64 o3, .slice av ss.length cv] noAn noAn noAn noAn) (Both (CellT kx (wldC sb rb (.slice ao1 (n + 1) cp1) vr (.slice ao2 (n + 1) cp2) vR) tWld) (Both (RowG tPW 1 (.slice ao1 (n + 1) cp1) (n + 1) (As ++ [.pointer (pa k)])) (Both (RowG tPW6 1 (.slice ao2 (n + 1) cp2) (n + 1) (Bs ++ [.pointer (pb kr)])) (Both (X k) (Both (Y kr) (Both (StoreT sb S') (Both (RefT rb S') Φ)))))))) := g2.perm (by ac_rfl)
      refine HK.out _ _ ?_
      have hJ := HJ.out
      go_meet
      case rel => exact ⟨ao1, cp1, ao2, cp2, g3⟩
  case rest =>
    obtain ⟨ao1, cp1, ao2, cp2, hcu⟩ := hcut
    have HR := Lib.hid hcu
    clear hcu H15 hst9 hst10 hst11 hvw q1 q4 lkx
    have hmk := hma k
    have hmk2 := hmb kr
    have HCO := Lib.hid (code6_calls ((fails12_11 hF).below HR.out.below) hok)
    obtain ⟨y4, y2, y1, y3, y0⟩ := five_get HR.out
    obtain ⟨q0, q1, q2, q3, q4⟩ := five_at y1
    obtain ⟨r0, r1, r2, r3, r4⟩ := five_at y2
    have g4 := thaw_at y1
    have g5 := thaw_at y2
    have l4 := lt_of_heap y1
    have l5 := lt_of_heap y2
    have Y1 := Lib.hid y1
    have Y2 := Lib.hid y2
    clear y4 y2 y1 y3 y0 hma hmb hF hok
    (repeat' (first | (go_big_may; fail) | go_values | go_skip | go_guarded | go_step | go_upon | go_back | dsimp only))
    refine HCO.out.mono ?_
    rintro e w20 ⟨rfl, rfl⟩
    (repeat' (first | (go_big_may; fail) | go_values | go_skip | go_guarded | go_step | go_upon | go_back | dsimp only))
    (try simp only [Exit.inBlock, Exit.then])
    refine bodyPost_ret (results_cells2 rfl _ _ (s + 1) (s + 1 + 1) tAn6 tAn6 (an6C ⟨0, c, [], mo, []⟩ (.slice none 0 0)) (an6C ⟨0, c, [], mo, []⟩ (.slice none 0 0)) (0, 0) (0, 0) _ rfl rfl ?_ ?_ Tryd.underlying59 rfl (by kernel_rfl) (by kernel_rfl)) rfl ?_
    · (try rw [heap_drew]); simp [World.setCell, Array.getElem?_modify, Y1.out]
    · (try rw [heap_drew]); simp [World.setCell, Array.getElem?_modify, Y2.out]
    · refine ⟨rfl, k, kr, .slice ao1 (n + 1) cp1, .slice ao2 (n + 1) cp2, ?_⟩
      exact HR.out.loseU [s + 1, s + 1 + 1, s + 1 + 1 + 1 + 1] ((CellT.stable _ _ _).both ((RowG.stable _ _ _ _ _).both ((RowG.stable _ _ _ _ _).both ((hXs k).both ((hYs kr).both ((StoreT.stable sb S').both ((RefT.stable rb S').both hΦ))))))) (fun fp h => cellsT_mem h) (by repeat' (first | with_reducible exact Upd.refl _ _ | (with_reducible refine Upd.drew ?_) | (with_reducible refine Upd.setCell ?_ (.inl (by simp)) _)))
end
end Go.Proofs.YtiimpnhjnodgpaaDoor
