/- (*hornbooklaw06.world).step walked: From. Printed by port/recstf.py. · (*hornbooklaw06.world).step at any call of a script. -/
import Derived.Test.YtiimpnhjnodgpaaDoorBuRecPlaysLaw33
import Derived.Test.YtiimpnhjnodgpaaDoorBuRecPlaysLaw28
import Derived.Test.YtiimpnhjnodgpaaDoorBuRecPlaysLaw37
import Derived.Test.YtiimpnhjnodgpaaDoorBuRecPlaysLaw29
set_option linter.unusedSimpArgs false
set_option linter.unusedVariables false
namespace Go.Proofs.YtiimpnhjnodgpaaDoor
open Go.RowKit

theorem info_PR : (Tryd.prog.info? tPR).map (fun i => (i.zero, i.size, i.bytes)) = some (some (.pointer none), 1, 8) := by kernel_rfl
theorem info_PR6 : (Tryd.prog.info? tPR6).map (fun i => (i.zero, i.size, i.bytes)) = some (some (.pointer none), 1, 8) := by kernel_rfl
section
variable {W w : World} {R Φ : Thing} {kx sb rb : Nat} {ef : Nat → Nat × Nat} {S : St} {vw vr vW vR v : Value} {n i : Nat} {As Bs : List Value} {ss : List (List UInt8)}
set_option maxRecDepth 100000 in
set_option maxHeartbeats 100000000 in
theorem step_from {κ : Type} {X : Nat → Thing} {Y : κ → Thing} (hXs : ∀ k, Stable (X k)) (hYs : ∀ k, Stable (Y k)) (hΦ : Stable Φ) (hF : Fails W ef fails12) (h : At W w (Both (CellT kx (wldC sb rb vw vr vW vR) tWld) (Both (RowG tPR 1 vr n As) (Both (RowG tPR6 1 vR n Bs) (Both (StoreT sb S) (Both (RefT rb S) Φ)))))) (hn : n ≤ 1099511627776) {o2 o3 : Int} (hv : RdRow W v ss.length 1 (strs ss)) {c : Nat} (hok : okC c) (pa : Nat → Option Addr) (pb : κ → Option Addr) {mo : Bool} (hma : ∀ k wz, (binOp .neq tPR (.pointer (pa k)) (.pointer none)).run Tryd.prog wz = .ok (.bool mo) wz) (hmb : ∀ k wz, (binOp .neq tPR6 (.pointer (pb k)) (.pointer none)).run Tryd.prog wz = .ok (.bool mo) wz)
    (hA : ∀ w1 R, Stable R → At W w1 (Both (StoreT sb S) R) → Calls Tryd.prog 17 #[.pointer (some ⟨sb, 0, none⟩), .int .i64 o2, .int .i64 o3] w1 fun e w' => ∃ k, e = .returned (.tuple #[.pointer (pa k), errV ef c]) ∧ At W w' (Both (X k) (Both (StoreT sb S) R)))
    (hB : ∀ w1 R, Stable R → At W w1 (Both (RefT rb S) R) → Calls Tryd.prog 35 #[.pointer (some ⟨rb, 0, none⟩), .int .i64 o2, .int .i64 o3] w1 fun e w' => ∃ k, e = .returned (.tuple #[.pointer (pb k), .int .i64 c]) ∧ At W w' (Both (Y k) (Both (RefT rb S) R))) :
    Calls Tryd.prog 15 #[.pointer (some ⟨kx, 0, none⟩), .agg #[.int .i64 5, .int .i64 o2, .int .i64 o3, v]] w fun e w' => e = .returned (.tuple #[an6V ⟨0, c, [], mo, []⟩ (.slice none 0 0), an6V ⟨0, c, [], mo, []⟩ (.slice none 0 0)]) ∧ ∃ k kr vr' vR', At W w' (Both (CellT kx (wldC sb rb vw vr' vW vR') tWld) (Both (RowG tPR 1 vr' (n + 1) (As ++ [.pointer (pa k)])) (Both (RowG tPR6 1 vR' (n + 1) (Bs ++ [.pointer (pb kr)])) (Both (X k) (Both (Y kr) (Both (StoreT sb S) (Both (RefT rb S) Φ))))))) := by
  obtain ⟨av, cv, rfl, _, _⟩ := hv.shape
  have hR0 := (RowG.stable tPR 1 vr n As).both ((RowG.stable tPR6 1 vR n Bs).both ((StoreT.stable sb S).both ((RefT.stable rb S).both hΦ)))
  have hst0 := (CellT.stable kx (wldC sb rb vw vr vW vR) tWld).both hR0
  have hkx := lt_of_heap h.cell.1
  have h5 : At W _ (Both (FiveT w.heap.size #[.int .i64 5, .int .i64 o2, .int .i64 o3, .slice av ss.length cv] noAn noAn noAn noAn) (Both (CellT kx (wldC sb rb vw vr vW vR) tWld) (Both (RowG tPR 1 vr n As) (Both (RowG tPR6 1 vR n Bs) (Both (StoreT sb S) (Both (RefT rb S) Φ)))))) := (h.five6 hst0 #[.int .i64 5, .int .i64 o2, .int .i64 o3, .slice av ss.length cv]).perm (by unfold FiveT; ac_rfl)
  have H5 := Lib.hid h5
  clear h5 h
  go_enter Tryd.func15, Tryd.ntmps15
  (repeat' (first | (go_big_may; fail) | go_values | go_skip | go_guarded | go_step | go_upon | go_back | dsimp only))
  generalize ((((w.alloc _).alloc _).alloc _).alloc _).alloc _ = w1 at *
  generalize w.heap.size = s at *
  obtain ⟨y4, y2, y1, y3, y0⟩ := five_get H5.out
  have b0 := cell_at y0 0; have b1 := cell_at y0 1; have b2 := cell_at y0 2; have b3 := cell_at y0 3
  have lk0 := lt_of_heap y0
  simp only [List.getElem?_toArray, List.getElem?_cons_zero, List.getElem?_cons_succ] at b0 b1 b2 b3
  clear y4 y2 y1 y3 y0
  have c0 := cell_at H5.out.drop.cell.1 0
  have lk := lt_of_heap H5.out.drop.cell.1
  have hcg := And.intro c0 (And.intro b2 b1)
  have hst5 := (FiveT.stable s #[.int .i64 5, .int .i64 o2, .int .i64 o3, .slice av ss.length cv] noAn noAn noAn noAn).both hst0
  have h6 : At W w1.drew (Both (StoreT sb S) (Both (FiveT s #[.int .i64 5, .int .i64 o2, .int .i64 o3, .slice av ss.length cv] noAn noAn noAn noAn) (Both (CellT kx (wldC sb rb vw vr vW vR) tWld) (Both (RowG tPR 1 vr n As) (Both (RowG tPR6 1 vR n Bs) (Both (RefT rb S) Φ)))))) := (H5.out.drew hst5).perm (by ac_rfl)
  have HA := Lib.hid (hA _ _ ((FiveT.stable s #[.int .i64 5, .int .i64 o2, .int .i64 o3, .slice av ss.length cv] noAn noAn noAn noAn).both ((CellT.stable kx (wldC sb rb vw vr vW vR) tWld).both ((RowG.stable tPR 1 vr n As).both ((RowG.stable tPR6 1 vR n Bs).both ((RefT.stable rb S).both hΦ))))) h6)
  clear h6 hA b0 b3
  (repeat' (first | (go_big_may; fail) | go_values | go_skip | go_guarded | go_step | go_upon | go_back | dsimp only))
  go_region_held3 (fun wx => wx.cell? ⟨kx, 0, none⟩ = some (.pointer (some ⟨sb, 0, none⟩)) ∧ wx.cell? ⟨s, 2, none⟩ = some (.int .i64 o3) ∧ wx.cell? ⟨s, 1, none⟩ = some (.int .i64 o2)) (first | assumption | go_keep) (first
    | (go_at_call 17; refine HA.out.mono ?_; rintro e w8 ⟨k, rfl, h13⟩
       have h14 : At W w8 (Both (FiveT s #[.int .i64 5, .int .i64 o2, .int .i64 o3, .slice av ss.length cv] noAn noAn noAn noAn) (Both (CellT kx (wldC sb rb vw vr vW vR) tWld) (Both (RowG tPR 1 vr n As) (Both (RowG tPR6 1 vR n Bs) (Both (X k) (Both (StoreT sb S) (Both (RefT rb S) Φ))))))) := h13.perm (by ac_rfl)
       obtain ⟨y4, y2, y1, y3, y0⟩ := five_get h14
       have q0 := cell_at h14.drop.cell.1 0
       have q2 := cell_at y0 2
       have q5 := cell_at y0 1
       have cg8 := And.intro q0 (And.intro q2 q5)
       have H14 := Lib.hid h14
       clear h13 h14 y0 y1 y2 y3 y4))
  have c3 := cell_at H14.out.drop.cell.1 3
  have lk8 := lt_of_heap H14.out.drop.cell.1
  obtain ⟨y4, y2, y1, y3, y0⟩ := five_get H14.out
  have ls8 := lt_of_heap y0
  have b28 := cell_at y0 2
  have b18 := cell_at y0 1
  have hcg8 := And.intro c3 (And.intro b28 b18)
  have hst8 := (FiveT.stable s #[.int .i64 5, .int .i64 o2, .int .i64 o3, .slice av ss.length cv] noAn noAn noAn noAn).both ((CellT.stable kx (wldC sb rb vw vr vW vR) tWld).both ((RowG.stable tPR 1 vr n As).both ((RowG.stable tPR6 1 vR n Bs).both ((hXs k).both ((StoreT.stable sb S).both ((RefT.stable rb S).both hΦ))))))
  have h6 : At W w8.drew (Both (RefT rb S) (Both (FiveT s #[.int .i64 5, .int .i64 o2, .int .i64 o3, .slice av ss.length cv] noAn noAn noAn noAn) (Both (CellT kx (wldC sb rb vw vr vW vR) tWld) (Both (RowG tPR 1 vr n As) (Both (RowG tPR6 1 vR n Bs) (Both (X k) (Both (StoreT sb S) Φ))))))) := (H14.out.drew hst8).perm (by ac_rfl)
  have HB := Lib.hid (hB _ _ ((FiveT.stable s #[.int .i64 5, .int .i64 o2, .int .i64 o3, .slice av ss.length cv] noAn noAn noAn noAn).both ((CellT.stable kx (wldC sb rb vw vr vW vR) tWld).both ((RowG.stable tPR 1 vr n As).both ((RowG.stable tPR6 1 vR n Bs).both ((hXs k).both ((StoreT.stable sb S).both hΦ)))))) h6)
  clear h6 y4 y2 y1 y3 y0 cg8 HA H5 c0 lk lk0 hcg hB b2 b1 q0 q2 q5
  (repeat' (first | (go_big_may; fail) | go_values | go_skip | go_guarded | go_step | go_upon | go_back | dsimp only))
  go_region_held3 (fun wx => wx.cell? ⟨kx, 3, none⟩ = some (.pointer (some ⟨rb, 0, none⟩)) ∧ wx.cell? ⟨s, 2, none⟩ = some (.int .i64 o3) ∧ wx.cell? ⟨s, 1, none⟩ = some (.int .i64 o2)) (first | assumption | go_keep) (first
    | (go_at_call 35; refine HB.out.mono ?_; rintro e w9 ⟨kr, rfl, h13⟩
       have h14 : At W w9 (Both (FiveT s #[.int .i64 5, .int .i64 o2, .int .i64 o3, .slice av ss.length cv] noAn noAn noAn noAn) (Both (CellT kx (wldC sb rb vw vr vW vR) tWld) (Both (RowG tPR 1 vr n As) (Both (RowG tPR6 1 vR n Bs) (Both (X k) (Both (Y kr) (Both (StoreT sb S) (Both (RefT rb S) Φ)))))))) := h13.perm (by ac_rfl)
       obtain ⟨y4, y2, y1, y3, y0⟩ := five_get h14
       have q0 := cell_at h14.drop.cell.1 3
       have q2 := cell_at y0 2
       have q5 := cell_at y0 1
       have cg9 := And.intro q0 (And.intro q2 q5)
       have H15 := Lib.hid h14
       clear h13 h14 y0 y1 y2 y3 y4))
  clear H14 HB cg9 hcg8 c3 lk8 ls8 b28 b18 q0 q2 q5 hst8
  (repeat' (first | (go_big_may; fail) | go_values | go_skip | go_guarded | go_step | go_upon | go_back | dsimp only))
  have q1 := cell_at H15.out.drop.cell.1 2
  have q4 := cell_at H15.out.drop.cell.1 5
  have lkx := lt_of_heap H15.out.drop.cell.1
  simp only [List.getElem?_toArray, List.getElem?_cons_zero, List.getElem?_cons_succ] at q1 q4
  have hst9 := (FiveT.stable s #[.int .i64 5, .int .i64 o2, .int .i64 o3, .slice av ss.length cv] noAn noAn noAn noAn).both ((CellT.stable kx (wldC sb rb vw vr vW vR) tWld).both ((RowG.stable tPR 1 vr n As).both ((RowG.stable tPR6 1 vR n Bs).both ((hXs k).both ((hYs kr).both ((StoreT.stable sb S).both ((RefT.stable rb S).both hΦ)))))))
  have hst10 := (FiveT.stable s #[.int .i64 5, .int .i64 o2, .int .i64 o3, .slice av ss.length cv] noAn noAn noAn noAn).both ((CellT.stable kx (wldC sb rb vw vr vW vR) tWld).both ((RowG.stable tPR6 1 vR n Bs).both ((hXs k).both ((hYs kr).both ((StoreT.stable sb S).both ((RefT.stable rb S).both hΦ))))))
  have hst11 := fun v1 : Value => (FiveT.stable s #[.int .i64 5, .int .i64 o2, .int .i64 o3, .slice av ss.length cv] noAn noAn noAn noAn).both ((CellT.stable kx (wldC sb rb vw vr vW vR) tWld).both ((RowG.stable tPR 1 v1 (n + 1) (As ++ [.pointer (pa k)])).both ((hXs k).both ((hYs kr).both ((StoreT.stable sb S).both ((RefT.stable rb S).both hΦ))))))
  have hvw : ∀ g ∈ rowOf vr, g < w9.heap.size := fun g hg => (H15.out.drop.drop.rowG.lt g (mem_rowOf.1 hg)).2
  go_cut [50] (fun v50 wx => ∃ ao1 cp1 ao2 cp2, At W wx (Both (FiveT s #[.int .i64 5, .int .i64 o2, .int .i64 o3, .slice av ss.length cv] noAn noAn noAn noAn) (Both (CellT kx (wldC sb rb vw (.slice ao1 (n + 1) cp1) vW (.slice ao2 (n + 1) cp2)) tWld) (Both (RowG tPR 1 (.slice ao1 (n + 1) cp1) (n + 1) (As ++ [.pointer (pa k)])) (Both (RowG tPR6 1 (.slice ao2 (n + 1) cp2) (n + 1) (Bs ++ [.pointer (pb kr)])) (Both (X k) (Both (Y kr) (Both (StoreT sb S) (Both (RefT rb S) Φ)))))))))
  case first =>
    refine wp_only ?_
    rename_i J K' hJ hK
    have HJ := Lib.hid hJ
    have HK := Lib.hid hK
    clear hJ hK
    have hS9 : w9.drew.cell? ⟨kx, 2, none⟩ = some vr ∧ w9.drew.cell? ⟨kx, 5, none⟩ = some vR := ⟨q1, q4⟩
    refine wpL.start (fun l wx => (l.getD 8 true = false → wx.cell? ⟨kx, 2, none⟩ = some vr) ∧ (l.getD 15 true = false → wx.cell? ⟨kx, 5, none⟩ = some vR)) (by kernel_rfl) ⟨fun _ => hS9.1, fun _ => hS9.2⟩ (fun hHeld => ?_)
    refine wpL.take (i := 0) (v := ?_) rfl (by kernel_rfl) (by kernel_rfl) (by kernel_rfl) (fun _ _ _ h => h) (fun l w => by (try dsimp only); rw [getD_set_ne true (show 0 ≠ 8 by decide), getD_set_ne true (show 0 ≠ 15 by decide)]) (Or.inl ⟨by rfl, ?_⟩) hHeld (fun hH2 => ?_)
    rotate_left
    next => (intro w hSw; go_simp; (try with_reducible rfl))
    clear hHeld
    have hHeld := hH2
    clear hH2
    (try simp only [List.getElem_toArray, List.getElem_cons_zero, List.getElem_cons_succ, Act.put, List.setIfInBounds_toArray, List.set_cons_zero, List.set_cons_succ])
    refine wpL.take (i := 1) (v := ?_) rfl (by kernel_rfl) (by kernel_rfl) (by kernel_rfl) (fun _ _ _ h => h) (fun l w => by (try dsimp only); rw [getD_set_ne true (show 1 ≠ 8 by decide), getD_set_ne true (show 1 ≠ 15 by decide)]) (Or.inl ⟨by rfl, ?_⟩) hHeld (fun hH2 => ?_)
    rotate_left
    next => (intro w hSw; go_simp; (try with_reducible rfl))
    clear hHeld
    have hHeld := hH2
    clear hH2
    (try simp only [List.getElem_toArray, List.getElem_cons_zero, List.getElem_cons_succ, Act.put, List.setIfInBounds_toArray, List.set_cons_zero, List.set_cons_succ])
    refine wpL.take (i := 2) (v := ?_) rfl (by kernel_rfl) (by kernel_rfl) (by kernel_rfl) (fun _ _ _ h => h) (fun l w => by (try dsimp only); rw [getD_set_ne true (show 2 ≠ 8 by decide), getD_set_ne true (show 2 ≠ 15 by decide)]) (Or.inl ⟨by rfl, ?_⟩) hHeld (fun hH2 => ?_)
    rotate_left
    next => (intro w hSw; go_simp; (try with_reducible rfl))
    clear hHeld
    have hHeld := hH2
    clear hH2
    (try simp only [List.getElem_toArray, List.getElem_cons_zero, List.getElem_cons_succ, Act.put, List.setIfInBounds_toArray, List.set_cons_zero, List.set_cons_succ])
    refine wpL.take (i := 3) (v := ?_) rfl (by kernel_rfl) (by kernel_rfl) (by kernel_rfl) (fun _ _ _ h => h) (fun l w => by (try dsimp only); rw [getD_set_ne true (show 3 ≠ 8 by decide), getD_set_ne true (show 3 ≠ 15 by decide)]) (Or.inl ⟨by rfl, ?_⟩) hHeld (fun hH2 => ?_)
    rotate_left
    next => (intro w hSw; go_simp; (try with_reducible rfl))
    clear hHeld
    have hHeld := hH2
    clear hH2
    (try simp only [List.getElem_toArray, List.getElem_cons_zero, List.getElem_cons_succ, Act.put, List.setIfInBounds_toArray, List.set_cons_zero, List.set_cons_succ])
    refine wpL.take (i := 4) (v := ?_) rfl (by kernel_rfl) (by kernel_rfl) (by kernel_rfl) (fun _ _ _ h => h) (fun l w => by (try dsimp only); rw [getD_set_ne true (show 4 ≠ 8 by decide), getD_set_ne true (show 4 ≠ 15 by decide)]) (Or.inl ⟨by rfl, ?_⟩) hHeld (fun hH2 => ?_)
    rotate_left
    next => (intro w hSw; go_simp; (try with_reducible rfl))
    clear hHeld
    have hHeld := hH2
    clear hH2
    (try simp only [List.getElem_toArray, List.getElem_cons_zero, List.getElem_cons_succ, Act.put, List.setIfInBounds_toArray, List.set_cons_zero, List.set_cons_succ])
    refine wpL.takeG (i := 5) (g := 8) (v := ?_) (T := fun wx => wx.cell? ⟨kx, 2, none⟩ = some vr) rfl rfl (by kernel_rfl) (by kernel_rfl) (by kernel_rfl) (by kernel_rfl) (by kernel_rfl) (fun _ _ _ h => h) (fun l w hl hS => hS.1 hl) (fun l w => by (try dsimp only); rw [getD_set_ne true (show 5 ≠ 8 by decide), getD_set_ne true (show 5 ≠ 15 by decide)]) (Or.inl ⟨by rfl, ?_⟩) hHeld (fun hH2 => ?_)
    rotate_left
    next => (intro w hSw; (try dsimp only at hSw); go_simp; (try with_reducible rfl))
    clear hHeld
    have hHeld := hH2
    clear hH2
    (try simp only [List.getElem_toArray, List.getElem_cons_zero, List.getElem_cons_succ, Act.put, List.setIfInBounds_toArray, List.set_cons_zero, List.set_cons_succ])
    refine wpL.take (i := 6) (v := ?_) rfl (by kernel_rfl) (by kernel_rfl) (by kernel_rfl) (fun _ _ _ h => h) (fun l w => by (try dsimp only); rw [getD_set_ne true (show 6 ≠ 8 by decide), getD_set_ne true (show 6 ≠ 15 by decide)]) (Or.inl ⟨by rfl, ?_⟩) hHeld (fun hH2 => ?_)
    rotate_left
    next => (intro w hSw; go_simp; (try with_reducible rfl))
    clear hHeld
    have hHeld := hH2
    clear hH2
    (try simp only [List.getElem_toArray, List.getElem_cons_zero, List.getElem_cons_succ, Act.put, List.setIfInBounds_toArray, List.set_cons_zero, List.set_cons_succ])
    refine wpL.take (i := 9) (v := ?_) rfl (by kernel_rfl) (by kernel_rfl) (by kernel_rfl) (fun _ _ _ h => h) (fun l w => by (try dsimp only); rw [getD_set_ne true (show 9 ≠ 8 by decide), getD_set_ne true (show 9 ≠ 15 by decide)]) (Or.inl ⟨by rfl, ?_⟩) hHeld (fun hH2 => ?_)
    rotate_left
    next => (intro w hSw; go_simp; (try with_reducible rfl))
    clear hHeld
    have hHeld := hH2
    clear hH2
    (try simp only [List.getElem_toArray, List.getElem_cons_zero, List.getElem_cons_succ, Act.put, List.setIfInBounds_toArray, List.set_cons_zero, List.set_cons_succ])
    refine wpL.take (i := 10) (v := ?_) rfl (by kernel_rfl) (by kernel_rfl) (by kernel_rfl) (fun _ _ _ h => h) (fun l w => by (try dsimp only); rw [getD_set_ne true (show 10 ≠ 8 by decide), getD_set_ne true (show 10 ≠ 15 by decide)]) (Or.inl ⟨by rfl, ?_⟩) hHeld (fun hH2 => ?_)
    rotate_left
    next => (intro w hSw; go_simp; (try with_reducible rfl))
    clear hHeld
    have hHeld := hH2
    clear hH2
    (try simp only [List.getElem_toArray, List.getElem_cons_zero, List.getElem_cons_succ, Act.put, List.setIfInBounds_toArray, List.set_cons_zero, List.set_cons_succ])
    refine wpL.take (i := 11) (v := ?_) rfl (by kernel_rfl) (by kernel_rfl) (by kernel_rfl) (fun _ _ _ h => h) (fun l w => by (try dsimp only); rw [getD_set_ne true (show 11 ≠ 8 by decide), getD_set_ne true (show 11 ≠ 15 by decide)]) (Or.inl ⟨by rfl, ?_⟩) hHeld (fun hH2 => ?_)
    rotate_left
    next => (intro w hSw; go_simp; (try with_reducible rfl))
    clear hHeld
    have hHeld := hH2
    clear hH2
    (try simp only [List.getElem_toArray, List.getElem_cons_zero, List.getElem_cons_succ, Act.put, List.setIfInBounds_toArray, List.set_cons_zero, List.set_cons_succ])
    refine wpL.takeG (i := 12) (g := 15) (v := ?_) (T := fun wx => wx.cell? ⟨kx, 5, none⟩ = some vR) rfl rfl (by kernel_rfl) (by kernel_rfl) (by kernel_rfl) (by kernel_rfl) (by kernel_rfl) (fun _ _ _ h => h) (fun l w hl hS => hS.2 hl) (fun l w => by (try dsimp only); rw [getD_set_ne true (show 12 ≠ 8 by decide), getD_set_ne true (show 12 ≠ 15 by decide)]) (Or.inl ⟨by rfl, ?_⟩) hHeld (fun hH2 => ?_)
    rotate_left
    next => (intro w hSw; (try dsimp only at hSw); go_simp; (try with_reducible rfl))
    clear hHeld
    have hHeld := hH2
    clear hH2
    (try simp only [List.getElem_toArray, List.getElem_cons_zero, List.getElem_cons_succ, Act.put, List.setIfInBounds_toArray, List.set_cons_zero, List.set_cons_succ])
    refine wpL.take (i := 13) (v := ?_) rfl (by kernel_rfl) (by kernel_rfl) (by kernel_rfl) (fun _ _ _ h => h) (fun l w => by (try dsimp only); rw [getD_set_ne true (show 13 ≠ 8 by decide), getD_set_ne true (show 13 ≠ 15 by decide)]) (Or.inl ⟨by rfl, ?_⟩) hHeld (fun hH2 => ?_)
    rotate_left
    next => (intro w hSw; go_simp; (try with_reducible rfl))
    clear hHeld
    have hHeld := hH2
    clear hH2
    (try simp only [List.getElem_toArray, List.getElem_cons_zero, List.getElem_cons_succ, Act.put, List.setIfInBounds_toArray, List.set_cons_zero, List.set_cons_succ])
    refine wpL.ready (rs := [7, 14]) (by kernel_rfl) (by simp) ?_
    refine AllL.cons rfl (fun K hK => ?_) (AllL.cons rfl (fun K hK => ?_) AllL.nil)
    · skip
      go_simp
      refine hK.out _ _ ?_ (fun hH2 => ?_)
      next =>
        (try dsimp only)
        refine ⟨fun hl => ?_, fun hl => ?_⟩
        · first | (exact lNo hl (by decide +kernel)) | assumption | exact hS9.1 | exact cell_oldA hS9.1 | exact cell_oldA (cell_oldA hS9.1)
        · first | (exact lNo hl (by decide +kernel)) | assumption | exact hS9.2 | exact cell_oldA hS9.2 | exact cell_oldA (cell_oldA hS9.2) | exact cell_oldA t4
      clear hK K hHeld
      have hHeld := hH2
      clear hH2
      (try simp only [List.getElem_toArray, List.getElem_cons_zero, List.getElem_cons_succ, Act.put, List.setIfInBounds_toArray, List.set_cons_zero, List.set_cons_succ])
      refine wpL.ready (rs := [8, 14]) (by kernel_rfl) (by simp) ?_
      refine AllL.cons rfl (fun K hK => ?_) (AllL.cons rfl (fun K hK => ?_) AllL.nil)
      · skip
        refine step_append_ex rfl _ _ 49 rfl vr _ rfl rfl (append_cell_run (R := (Both (FiveT s #[.int .i64 5, .int .i64 o2, .int .i64 o3, .slice av ss.length cv] noAn noAn noAn noAn) (Both (CellT kx (wldC sb rb vw vr vW vR) tWld) (Both (RowG tPR6 1 vR n Bs) (Both (X k) (Both (Y kr) (Both (StoreT sb S) (Both (RefT rb S) Φ)))))))) (xs := As) (u := .pointer (pa k)) 49 49 tPR Tryd.underlying49 info_PR rfl ((H15.out.mono hst9 (by (repeat' (first | exact (Below.refl _ _) | (with_reducible refine Below.setCell ?_ ?_ _) | (with_reducible refine Below.alloc ?_ ?_ _) | (with_reducible refine Below.drew ?_) | omega | (simp only [World.heap_size_setCell, World.heap_size_alloc, World.heap_size_drew]; omega) | (simp; done) | (simp; omega))))).perm (by ac_rfl)) hst10 (by first | exact cell_new _ _ _ | exact cell_new2 _ _ _ _ _ | exact cell_old (cell_new _ _ _)) rfl (by unfold maxLen; omega) (by omega)) ?_
        rintro ao1 cp1 w10 ⟨h10, hu10⟩
        have t1 := cell_at h10.drop.drop.cell.1 2
        have t4 := cell_at h10.drop.drop.cell.1 5
        simp only [List.getElem?_toArray, List.getElem?_cons_zero, List.getElem?_cons_succ] at t1 t4
        have H10 := Lib.hid h10
        have HU10 := Lib.hid hu10
        clear h10 hu10
        refine hK.out _ _ ?_ (fun hH2 => ?_)
        next =>
          (try dsimp only)
          refine ⟨fun hl => ?_, fun hl => ?_⟩
          · first | (exact lNo hl (by decide +kernel)) | assumption | exact hS9.1 | exact cell_oldA hS9.1 | exact cell_oldA (cell_oldA hS9.1)
          · first | (exact lNo hl (by decide +kernel)) | assumption | exact hS9.2 | exact cell_oldA hS9.2 | exact cell_oldA (cell_oldA hS9.2) | exact cell_oldA t4
        clear hK K hHeld
        have hHeld := hH2
        clear hH2
        (try simp only [List.getElem_toArray, List.getElem_cons_zero, List.getElem_cons_succ, Act.put, List.setIfInBounds_toArray, List.set_cons_zero, List.set_cons_succ])
        refine wpL.ready (rs := [14]) (by kernel_rfl) (by simp) ?_
        refine AllL.cons rfl (fun K hK => ?_) AllL.nil
        go_simp
        refine hK.out _ _ ?_ (fun hH2 => ?_)
        next =>
          (try dsimp only)
          refine ⟨fun hl => ?_, fun hl => ?_⟩
          · first | (exact lNo hl (by decide +kernel)) | assumption | exact hS9.1 | exact cell_oldA hS9.1 | exact cell_oldA (cell_oldA hS9.1)
          · first | (exact lNo hl (by decide +kernel)) | assumption | exact hS9.2 | exact cell_oldA hS9.2 | exact cell_oldA (cell_oldA hS9.2) | exact cell_oldA t4
        clear hK K hHeld
        have hHeld := hH2
        clear hH2
        (try simp only [List.getElem_toArray, List.getElem_cons_zero, List.getElem_cons_succ, Act.put, List.setIfInBounds_toArray, List.set_cons_zero, List.set_cons_succ])
        skip
        refine wpL.ready (rs := [15]) (by kernel_rfl) (by simp) ?_
        refine AllL.cons rfl (fun K hK => ?_) AllL.nil
        refine step_append_ex rfl _ _ 51 rfl vR _ rfl rfl (append_cell_run (R := (Both (FiveT s #[.int .i64 5, .int .i64 o2, .int .i64 o3, .slice av ss.length cv] noAn noAn noAn noAn) (Both (CellT kx (wldC sb rb vw vr vW vR) tWld) (Both (RowG tPR 1 (.slice ao1 (n + 1) cp1) (n + 1) (As ++ [.pointer (pa k)])) (Both (X k) (Both (Y kr) (Both (StoreT sb S) (Both (RefT rb S) Φ)))))))) (xs := Bs) (u := .pointer (pb kr)) 51 51 tPR6 Tryd.underlying51 info_PR6 rfl ((H10.out.mono ((RowG.stable _ _ _ _ _).both hst10) (by (repeat' (first | exact (Below.refl _ _) | (with_reducible refine Below.setCell ?_ ?_ _) | (with_reducible refine Below.alloc ?_ ?_ _) | (with_reducible refine Below.drew ?_) | omega | (simp only [World.heap_size_setCell, World.heap_size_alloc, World.heap_size_drew]; omega) | (simp; done) | (simp; omega))))).perm (by ac_rfl)) (hst11 _) (by first | exact cell_new _ _ _ | exact upd_cell HU10.out (by first | (simp; done) | (simp; omega)) (fun hm => by have := hvw _ hm; omega) (cell_new2 _ _ _ _ _) | exact upd_cell HU10.out (by first | (simp; done) | (simp; omega)) (fun hm => by have := hvw _ hm; omega) (cell_new _ _ _) | exact upd_cell HU10.out (by first | (simp; done) | (simp; omega)) (fun hm => by have := hvw _ hm; omega) (cell_old (cell_new _ _ _))) rfl (by unfold maxLen; omega) (by omega)) ?_
        rintro ao2 cp2 w11 ⟨h11, hu11⟩
        have u1 := cell_at h11.drop.drop.cell.1 2
        have u4 := cell_at h11.drop.drop.cell.1 5
        have uf := thaw_at h11.drop.drop.cell.1
        have lk11 := lt_of_heap h11.drop.drop.cell.1
        simp only [List.getElem?_toArray, List.getElem?_cons_zero, List.getElem?_cons_succ] at u1 u4
        have H11 := Lib.hid h11
        clear h11 hu11
        refine hK.out _ _ ?_ (fun hH2 => ?_)
        next =>
          (try dsimp only)
          refine ⟨fun hl => ?_, fun hl => ?_⟩
          · first | (exact lNo hl (by decide +kernel)) | assumption | exact hS9.1 | exact cell_oldA hS9.1 | exact cell_oldA (cell_oldA hS9.1)
          · first | (exact lNo hl (by decide +kernel)) | assumption | exact hS9.2 | exact cell_oldA hS9.2 | exact cell_oldA (cell_oldA hS9.2) | exact cell_oldA t4
        clear hK K hHeld
        have hHeld := hH2
        clear hH2
        (try simp only [List.getElem_toArray, List.getElem_cons_zero, List.getElem_cons_succ, Act.put, List.setIfInBounds_toArray, List.set_cons_zero, List.set_cons_succ])
        refine wpL.ready (rs := [16]) (by kernel_rfl) (by simp) ?_
        refine AllL.cons rfl (fun K hK => ?_) AllL.nil
        go_simp
        refine hK.out _ _ ?_ (fun hH2 => ?_)
        next =>
          (try dsimp only)
          refine ⟨fun hl => ?_, fun hl => ?_⟩
          · first | (exact lNo hl (by decide +kernel)) | assumption | exact hS9.1 | exact cell_oldA hS9.1 | exact cell_oldA (cell_oldA hS9.1)
          · first | (exact lNo hl (by decide +kernel)) | assumption | exact hS9.2 | exact cell_oldA hS9.2 | exact cell_oldA (cell_oldA hS9.2) | exact cell_oldA t4
        clear hK K hHeld
        have hHeld := hH2
        clear hH2
        (try simp only [List.getElem_toArray, List.getElem_cons_zero, List.getElem_cons_succ, Act.put, List.setIfInBounds_toArray, List.set_cons_zero, List.set_cons_succ])
        refine wpL.ready (rs := [17]) (by kernel_rfl) (by simp) ?_
        refine AllL.cons rfl (fun K hK => ?_) AllL.nil
        go_simp
        refine hK.out _ _ ?_ (fun hH2 => ?_)
        next =>
          (try dsimp only)
          refine ⟨fun hl => ?_, fun hl => ?_⟩
          · first | (exact lNo hl (by decide +kernel)) | assumption | exact hS9.1 | exact cell_oldA hS9.1 | exact cell_oldA (cell_oldA hS9.1)
          · first | (exact lNo hl (by decide +kernel)) | assumption | exact hS9.2 | exact cell_oldA hS9.2 | exact cell_oldA (cell_oldA hS9.2) | exact cell_oldA t4
        clear hK K hHeld
        have hHeld := hH2
        clear hH2
        (try simp only [List.getElem_toArray, List.getElem_cons_zero, List.getElem_cons_succ, Act.put, List.setIfInBounds_toArray, List.set_cons_zero, List.set_cons_succ])
        refine wpL.ready (rs := [18]) (by kernel_rfl) (by simp) ?_
        refine AllL.cons rfl (fun K hK => ?_) AllL.nil
        go_simp
        refine hK.out _ _ ?_ (fun hH2 => ?_)
        next =>
          (try dsimp only)
          refine ⟨fun hl => ?_, fun hl => ?_⟩
          · first | (exact lNo hl (by decide +kernel)) | assumption | exact hS9.1 | exact cell_oldA hS9.1 | exact cell_oldA (cell_oldA hS9.1)
          · first | (exact lNo hl (by decide +kernel)) | assumption | exact hS9.2 | exact cell_oldA hS9.2 | exact cell_oldA (cell_oldA hS9.2) | exact cell_oldA t4
        clear hK K hHeld
        have hHeld := hH2
        clear hH2
        (try simp only [List.getElem_toArray, List.getElem_cons_zero, List.getElem_cons_succ, Act.put, List.setIfInBounds_toArray, List.set_cons_zero, List.set_cons_succ])
        refine wpL.ready (rs := [19]) (by kernel_rfl) (by simp) ?_
        refine AllL.cons rfl (fun K hK => ?_) AllL.nil
        go_simp
        refine hK.out _ _ ?_ (fun hH2 => ?_)
        next =>
          (try dsimp only)
          refine ⟨fun hl => ?_, fun hl => ?_⟩
          · first | (exact lNo hl (by decide +kernel)) | assumption | exact hS9.1 | exact cell_oldA hS9.1 | exact cell_oldA (cell_oldA hS9.1)
          · first | (exact lNo hl (by decide +kernel)) | assumption | exact hS9.2 | exact cell_oldA hS9.2 | exact cell_oldA (cell_oldA hS9.2) | exact cell_oldA t4
        clear hK K hHeld
        have hHeld := hH2
        clear hH2
        (try simp only [List.getElem_toArray, List.getElem_cons_zero, List.getElem_cons_succ, Act.put, List.setIfInBounds_toArray, List.set_cons_zero, List.set_cons_succ])
        refine wpL.ready (rs := [20]) (by kernel_rfl) (by simp) ?_
        refine AllL.cons rfl (fun K hK => ?_) AllL.nil
        go_simp
        refine hK.out _ _ ?_ (fun hH2 => ?_)
        next =>
          (try dsimp only)
          refine ⟨fun hl => ?_, fun hl => ?_⟩
          · first | (exact lNo hl (by decide +kernel)) | assumption | exact hS9.1 | exact cell_oldA hS9.1 | exact cell_oldA (cell_oldA hS9.1)
          · first | (exact lNo hl (by decide +kernel)) | assumption | exact hS9.2 | exact cell_oldA hS9.2 | exact cell_oldA (cell_oldA hS9.2) | exact cell_oldA t4
        clear hK K hHeld
        have hHeld := hH2
        clear hH2
        (try simp only [List.getElem_toArray, List.getElem_cons_zero, List.getElem_cons_succ, Act.put, List.setIfInBounds_toArray, List.set_cons_zero, List.set_cons_succ])
        refine wpL.ready (rs := [21]) (by kernel_rfl) (by simp) ?_
        refine AllL.cons rfl (fun K hK => ?_) AllL.nil
        go_simp
        refine hK.out _ _ ?_ (fun hH2 => ?_)
        next =>
          (try dsimp only)
          refine ⟨fun hl => ?_, fun hl => ?_⟩
          · first | (exact lNo hl (by decide +kernel)) | assumption | exact hS9.1 | exact cell_oldA hS9.1 | exact cell_oldA (cell_oldA hS9.1)
          · first | (exact lNo hl (by decide +kernel)) | assumption | exact hS9.2 | exact cell_oldA hS9.2 | exact cell_oldA (cell_oldA hS9.2) | exact cell_oldA t4
        clear hK K hHeld
        have hHeld := hH2
        clear hH2
        (try simp only [List.getElem_toArray, List.getElem_cons_zero, List.getElem_cons_succ, Act.put, List.setIfInBounds_toArray, List.set_cons_zero, List.set_cons_succ])
        refine wpL.done (by kernel_rfl) ?_ _
        have hRR := (FiveT.stable s #[.int .i64 5, .int .i64 o2, .int .i64 o3, .slice av ss.length cv] noAn noAn noAn noAn).both ((RowG.stable tPR 1 (.slice ao1 (n + 1) cp1) (n + 1) (As ++ [.pointer (pa k)])).both ((RowG.stable tPR6 1 (.slice ao2 (n + 1) cp2) (n + 1) (Bs ++ [.pointer (pb kr)])).both ((hXs k).both ((hYs kr).both ((StoreT.stable sb S).both ((RefT.stable rb S).both hΦ))))))
        have g0 := (H11.out.perm (show _ = Both (CellT kx (wldC sb rb vw vr vW vR) tWld) (Both (FiveT s #[.int .i64 5, .int .i64 o2, .int .i64 o3, .slice av ss.length cv] noAn noAn noAn noAn) (Both (RowG tPR 1 (.slice ao1 (n + 1) cp1) (n + 1) (As ++ [.pointer (pa k)])) (Both (RowG tPR6 1 (.slice ao2 (n + 1) cp2) (n + 1) (Bs ++ [.pointer (pb kr)])) (Both (X k) (Both (Y kr) (Both (StoreT sb S) (Both (RefT rb S) Φ))))))) by ac_rfl))
        have g1 := (g0.setCell hRR 2 (.slice ao1 (n + 1) cp1)).setCell hRR 5 (.slice ao2 (n + 1) cp2)
        have g2 : At W _ (Both (CellT kx (wldC sb rb vw (.slice ao1 (n + 1) cp1) vW (.slice ao2 (n + 1) cp2)) tWld) (Both (FiveT s #[.int .i64 5, .int .i64 o2, .int .i64 o3, .slice av ss.length cv] noAn noAn noAn noAn) (Both (RowG tPR 1 (.slice ao1 (n + 1) cp1) (n + 1) (As ++ [.pointer (pa k)])) (Both (RowG tPR6 1 (.slice ao2 (n + 1) cp2) (n + 1) (Bs ++ [.pointer (pb kr)])) (Both (X k) (Both (Y kr) (Both (StoreT sb S) (Both (RefT rb S) Φ)))))))) := g1
        have g3 : At W _ (Both (FiveT s #[.int .i64 5, .int .i64 o2, .int .i64 o3, .slice av ss.length cv] noAn noAn noAn noAn) (Both (CellT kx (wldC sb rb vw (.slice ao1 (n + 1) cp1) vW (.slice ao2 (n + 1) cp2)) tWld) (Both (RowG tPR 1 (.slice ao1 (n + 1) cp1) (n + 1) (As ++ [.pointer (pa k)])) (Both (RowG tPR6 1 (.slice ao2 (n + 1) cp2) (n + 1) (Bs ++ [.pointer (pb kr)])) (Both (X k) (Both (Y kr) (Both (StoreT sb S) (Both (RefT rb S) Φ)))))))) := g2.perm (by ac_rfl)
        refine HK.out _ _ ?_
        have hJ := HJ.out
        go_meet
        case rel => exact ⟨ao1, cp1, ao2, cp2, g3⟩
      · skip
        go_simp
        refine hK.out _ _ ?_ (fun hH2 => ?_)
        next =>
          (try dsimp only)
          refine ⟨fun hl => ?_, fun hl => ?_⟩
          · first | (exact lNo hl (by decide +kernel)) | assumption | exact hS9.1 | exact cell_oldA hS9.1 | exact cell_oldA (cell_oldA hS9.1)
          · first | (exact lNo hl (by decide +kernel)) | assumption | exact hS9.2 | exact cell_oldA hS9.2 | exact cell_oldA (cell_oldA hS9.2) | exact cell_oldA t4
        clear hK K hHeld
        have hHeld := hH2
        clear hH2
        (try simp only [List.getElem_toArray, List.getElem_cons_zero, List.getElem_cons_succ, Act.put, List.setIfInBounds_toArray, List.set_cons_zero, List.set_cons_succ])
        refine wpL.ready (rs := [8]) (by kernel_rfl) (by simp) ?_
        refine AllL.cons rfl (fun K hK => ?_) AllL.nil
        refine step_append_ex rfl _ _ 49 rfl vr _ rfl rfl (append_cell_run (R := (Both (FiveT s #[.int .i64 5, .int .i64 o2, .int .i64 o3, .slice av ss.length cv] noAn noAn noAn noAn) (Both (CellT kx (wldC sb rb vw vr vW vR) tWld) (Both (RowG tPR6 1 vR n Bs) (Both (X k) (Both (Y kr) (Both (StoreT sb S) (Both (RefT rb S) Φ)))))))) (xs := As) (u := .pointer (pa k)) 49 49 tPR Tryd.underlying49 info_PR rfl ((H15.out.mono hst9 (by (repeat' (first | exact (Below.refl _ _) | (with_reducible refine Below.setCell ?_ ?_ _) | (with_reducible refine Below.alloc ?_ ?_ _) | (with_reducible refine Below.drew ?_) | omega | (simp only [World.heap_size_setCell, World.heap_size_alloc, World.heap_size_drew]; omega) | (simp; done) | (simp; omega))))).perm (by ac_rfl)) hst10 (by first | exact cell_new _ _ _ | exact cell_new2 _ _ _ _ _ | exact cell_old (cell_new _ _ _)) rfl (by unfold maxLen; omega) (by omega)) ?_
        rintro ao1 cp1 w10 ⟨h10, hu10⟩
        have t1 := cell_at h10.drop.drop.cell.1 2
        have t4 := cell_at h10.drop.drop.cell.1 5
        simp only [List.getElem?_toArray, List.getElem?_cons_zero, List.getElem?_cons_succ] at t1 t4
        have H10 := Lib.hid h10
        have HU10 := Lib.hid hu10
        clear h10 hu10
        refine hK.out _ _ ?_ (fun hH2 => ?_)
        next =>
          (try dsimp only)
          refine ⟨fun hl => ?_, fun hl => ?_⟩
          · first | (exact lNo hl (by decide +kernel)) | assumption | exact hS9.1 | exact cell_oldA hS9.1 | exact cell_oldA (cell_oldA hS9.1)
          · first | (exact lNo hl (by decide +kernel)) | assumption | exact hS9.2 | exact cell_oldA hS9.2 | exact cell_oldA (cell_oldA hS9.2) | exact cell_oldA t4
        clear hK K hHeld
        have hHeld := hH2
        clear hH2
        (try simp only [List.getElem_toArray, List.getElem_cons_zero, List.getElem_cons_succ, Act.put, List.setIfInBounds_toArray, List.set_cons_zero, List.set_cons_succ])
        skip
        refine wpL.ready (rs := [15]) (by kernel_rfl) (by simp) ?_
        refine AllL.cons rfl (fun K hK => ?_) AllL.nil
        refine step_append_ex rfl _ _ 51 rfl vR _ rfl rfl (append_cell_run (R := (Both (FiveT s #[.int .i64 5, .int .i64 o2, .int .i64 o3, .slice av ss.length cv] noAn noAn noAn noAn) (Both (CellT kx (wldC sb rb vw vr vW vR) tWld) (Both (RowG tPR 1 (.slice ao1 (n + 1) cp1) (n + 1) (As ++ [.pointer (pa k)])) (Both (X k) (Both (Y kr) (Both (StoreT sb S) (Both (RefT rb S) Φ)))))))) (xs := Bs) (u := .pointer (pb kr)) 51 51 tPR6 Tryd.underlying51 info_PR6 rfl ((H10.out.mono ((RowG.stable _ _ _ _ _).both hst10) (by (repeat' (first | exact (Below.refl _ _) | (with_reducible refine Below.setCell ?_ ?_ _) | (with_reducible refine Below.alloc ?_ ?_ _) | (with_reducible refine Below.drew ?_) | omega | (simp only [World.heap_size_setCell, World.heap_size_alloc, World.heap_size_drew]; omega) | (simp; done) | (simp; omega))))).perm (by ac_rfl)) (hst11 _) (by first | exact cell_new _ _ _ | exact upd_cell HU10.out (by first | (simp; done) | (simp; omega)) (fun hm => by have := hvw _ hm; omega) (cell_new2 _ _ _ _ _) | exact upd_cell HU10.out (by first | (simp; done) | (simp; omega)) (fun hm => by have := hvw _ hm; omega) (cell_new _ _ _) | exact upd_cell HU10.out (by first | (simp; done) | (simp; omega)) (fun hm => by have := hvw _ hm; omega) (cell_old (cell_new _ _ _))) rfl (by unfold maxLen; omega) (by omega)) ?_
        rintro ao2 cp2 w11 ⟨h11, hu11⟩
        have u1 := cell_at h11.drop.drop.cell.1 2
        have u4 := cell_at h11.drop.drop.cell.1 5
        have uf := thaw_at h11.drop.drop.cell.1
        have lk11 := lt_of_heap h11.drop.drop.cell.1
        simp only [List.getElem?_toArray, List.getElem?_cons_zero, List.getElem?_cons_succ] at u1 u4
        have H11 := Lib.hid h11
        clear h11 hu11
        refine hK.out _ _ ?_ (fun hH2 => ?_)
        next =>
          (try dsimp only)
          refine ⟨fun hl => ?_, fun hl => ?_⟩
          · first | (exact lNo hl (by decide +kernel)) | assumption | exact hS9.1 | exact cell_oldA hS9.1 | exact cell_oldA (cell_oldA hS9.1)
          · first | (exact lNo hl (by decide +kernel)) | assumption | exact hS9.2 | exact cell_oldA hS9.2 | exact cell_oldA (cell_oldA hS9.2) | exact cell_oldA t4
        clear hK K hHeld
        have hHeld := hH2
        clear hH2
        (try simp only [List.getElem_toArray, List.getElem_cons_zero, List.getElem_cons_succ, Act.put, List.setIfInBounds_toArray, List.set_cons_zero, List.set_cons_succ])
        refine wpL.ready (rs := [16]) (by kernel_rfl) (by simp) ?_
        refine AllL.cons rfl (fun K hK => ?_) AllL.nil
        go_simp
        refine hK.out _ _ ?_ (fun hH2 => ?_)
        next =>
          (try dsimp only)
          refine ⟨fun hl => ?_, fun hl => ?_⟩
          · first | (exact lNo hl (by decide +kernel)) | assumption | exact hS9.1 | exact cell_oldA hS9.1 | exact cell_oldA (cell_oldA hS9.1)
          · first | (exact lNo hl (by decide +kernel)) | assumption | exact hS9.2 | exact cell_oldA hS9.2 | exact cell_oldA (cell_oldA hS9.2) | exact cell_oldA t4
        clear hK K hHeld
        have hHeld := hH2
        clear hH2
        (try simp only [List.getElem_toArray, List.getElem_cons_zero, List.getElem_cons_succ, Act.put, List.setIfInBounds_toArray, List.set_cons_zero, List.set_cons_succ])
        refine wpL.ready (rs := [17]) (by kernel_rfl) (by simp) ?_
        refine AllL.cons rfl (fun K hK => ?_) AllL.nil
        go_simp
        refine hK.out _ _ ?_ (fun hH2 => ?_)
        next =>
          (try dsimp only)
          refine ⟨fun hl => ?_, fun hl => ?_⟩
          · first | (exact lNo hl (by decide +kernel)) | assumption | exact hS9.1 | exact cell_oldA hS9.1 | exact cell_oldA (cell_oldA hS9.1)
          · first | (exact lNo hl (by decide +kernel)) | assumption | exact hS9.2 | exact cell_oldA hS9.2 | exact cell_oldA (cell_oldA hS9.2) | exact cell_oldA t4
        clear hK K hHeld
        have hHeld := hH2
        clear hH2
        (try simp only [List.getElem_toArray, List.getElem_cons_zero, List.getElem_cons_succ, Act.put, List.setIfInBounds_toArray, List.set_cons_zero, List.set_cons_succ])
        refine wpL.ready (rs := [18]) (by kernel_rfl) (by simp) ?_
        refine AllL.cons rfl (fun K hK => ?_) AllL.nil
        go_simp
        refine hK.out _ _ ?_ (fun hH2 => ?_)
        next =>
          (try dsimp only)
          refine ⟨fun hl => ?_, fun hl => ?_⟩
          · first | (exact lNo hl (by decide +kernel)) | assumption | exact hS9.1 | exact cell_oldA hS9.1 | exact cell_oldA (cell_oldA hS9.1)
          · first | (exact lNo hl (by decide +kernel)) | assumption | exact hS9.2 | exact cell_oldA hS9.2 | exact cell_oldA (cell_oldA hS9.2) | exact cell_oldA t4
        clear hK K hHeld
        have hHeld := hH2
        clear hH2
        (try simp only [List.getElem_toArray, List.getElem_cons_zero, List.getElem_cons_succ, Act.put, List.setIfInBounds_toArray, List.set_cons_zero, List.set_cons_succ])
        refine wpL.ready (rs := [19]) (by kernel_rfl) (by simp) ?_
        refine AllL.cons rfl (fun K hK => ?_) AllL.nil
        go_simp
        refine hK.out _ _ ?_ (fun hH2 => ?_)
        next =>
          (try dsimp only)
          refine ⟨fun hl => ?_, fun hl => ?_⟩
          · first | (exact lNo hl (by decide +kernel)) | assumption | exact hS9.1 | exact cell_oldA hS9.1 | exact cell_oldA (cell_oldA hS9.1)
          · first | (exact lNo hl (by decide +kernel)) | assumption | exact hS9.2 | exact cell_oldA hS9.2 | exact cell_oldA (cell_oldA hS9.2) | exact cell_oldA t4
        clear hK K hHeld
        have hHeld := hH2
        clear hH2
        (try simp only [List.getElem_toArray, List.getElem_cons_zero, List.getElem_cons_succ, Act.put, List.setIfInBounds_toArray, List.set_cons_zero, List.set_cons_succ])
        refine wpL.ready (rs := [20]) (by kernel_rfl) (by simp) ?_
        refine AllL.cons rfl (fun K hK => ?_) AllL.nil
        go_simp
        refine hK.out _ _ ?_ (fun hH2 => ?_)
        next =>
          (try dsimp only)
          refine ⟨fun hl => ?_, fun hl => ?_⟩
          · first | (exact lNo hl (by decide +kernel)) | assumption | exact hS9.1 | exact cell_oldA hS9.1 | exact cell_oldA (cell_oldA hS9.1)
          · first | (exact lNo hl (by decide +kernel)) | assumption | exact hS9.2 | exact cell_oldA hS9.2 | exact cell_oldA (cell_oldA hS9.2) | exact cell_oldA t4
        clear hK K hHeld
        have hHeld := hH2
        clear hH2
        (try simp only [List.getElem_toArray, List.getElem_cons_zero, List.getElem_cons_succ, Act.put, List.setIfInBounds_toArray, List.set_cons_zero, List.set_cons_succ])
        refine wpL.ready (rs := [21]) (by kernel_rfl) (by simp) ?_
        refine AllL.cons rfl (fun K hK => ?_) AllL.nil
        go_simp
        refine hK.out _ _ ?_ (fun hH2 => ?_)
        next =>
          (try dsimp only)
          refine ⟨fun hl => ?_, fun hl => ?_⟩
          · first | (exact lNo hl (by decide +kernel)) | assumption | exact hS9.1 | exact cell_oldA hS9.1 | exact cell_oldA (cell_oldA hS9.1)
          · first | (exact lNo hl (by decide +kernel)) | assumption | exact hS9.2 | exact cell_oldA hS9.2 | exact cell_oldA (cell_oldA hS9.2) | exact cell_oldA t4
        clear hK K hHeld
        have hHeld := hH2
        clear hH2
        (try simp only [List.getElem_toArray, List.getElem_cons_zero, List.getElem_cons_succ, Act.put, List.setIfInBounds_toArray, List.set_cons_zero, List.set_cons_succ])
        refine wpL.done (by kernel_rfl) ?_ _
        have hRR := (FiveT.stable s #[.int .i64 5, .int .i64 o2, .int .i64 o3, .slice av ss.length cv] noAn noAn noAn noAn).both ((RowG.stable tPR 1 (.slice ao1 (n + 1) cp1) (n + 1) (As ++ [.pointer (pa k)])).both ((RowG.stable tPR6 1 (.slice ao2 (n + 1) cp2) (n + 1) (Bs ++ [.pointer (pb kr)])).both ((hXs k).both ((hYs kr).both ((StoreT.stable sb S).both ((RefT.stable rb S).both hΦ))))))
        have g0 := (H11.out.perm (show _ = Both (CellT kx (wldC sb rb vw vr vW vR) tWld) (Both (FiveT s #[.int .i64 5, .int .i64 o2, .int .i64 o3, .slice av ss.length cv] noAn noAn noAn noAn) (Both (RowG tPR 1 (.slice ao1 (n + 1) cp1) (n + 1) (As ++ [.pointer (pa k)])) (Both (RowG tPR6 1 (.slice ao2 (n + 1) cp2) (n + 1) (Bs ++ [.pointer (pb kr)])) (Both (X k) (Both (Y kr) (Both (StoreT sb S) (Both (RefT rb S) Φ))))))) by ac_rfl))
        have g1 := (g0.setCell hRR 2 (.slice ao1 (n + 1) cp1)).setCell hRR 5 (.slice ao2 (n + 1) cp2)
        have g2 : At W _ (Both (CellT kx (wldC sb rb vw (.slice ao1 (n + 1) cp1) vW (.slice ao2 (n + 1) cp2)) tWld) (Both (FiveT s #[.int .i64 5, .int .i64 o2, .int .i64 o3, .slice av ss.length cv] noAn noAn noAn noAn) (Both (RowG tPR 1 (.slice ao1 (n + 1) cp1) (n + 1) (As ++ [.pointer (pa k)])) (Both (RowG tPR6 1 (.slice ao2 (n + 1) cp2) (n + 1) (Bs ++ [.pointer (pb kr)])) (Both (X k) (Both (Y kr) (Both (StoreT sb S) (Both (RefT rb S) Φ)))))))) := g1
        have g3 : At W _ (Both (FiveT s #[.int .i64 5, .int .i64 o2, .int .i64 o3, .slice av ss.length cv] noAn noAn noAn noAn) (Both (CellT kx (wldC sb rb vw (.slice ao1 (n + 1) cp1) vW (.slice ao2 (n + 1) cp2)) tWld) (Both (RowG tPR 1 (.slice ao1 (n + 1) cp1) (n + 1) (As ++ [.pointer (pa k)])) (Both (RowG tPR6 1 (.slice ao2 (n + 1) cp2) (n + 1) (Bs ++ [.pointer (pb kr)])) (Both (X k) (Both (Y kr) (Both (StoreT sb S) (Both (RefT rb S) Φ)))))))) := g2.perm (by ac_rfl)
        refine HK.out _ _ ?_
        have hJ := HJ.out
        go_meet
        case rel => exact ⟨ao1, cp1, ao2, cp2, g3⟩
    · skip
      go_simp
      refine hK.out _ _ ?_ (fun hH2 => ?_)
      next =>
        (try dsimp only)
        refine ⟨fun hl => ?_, fun hl => ?_⟩
        · first | (exact lNo hl (by decide +kernel)) | assumption | exact hS9.1 | exact cell_oldA hS9.1 | exact cell_oldA (cell_oldA hS9.1)
        · first | (exact lNo hl (by decide +kernel)) | assumption | exact hS9.2 | exact cell_oldA hS9.2 | exact cell_oldA (cell_oldA hS9.2) | exact cell_oldA t4
      clear hK K hHeld
      have hHeld := hH2
      clear hH2
      (try simp only [List.getElem_toArray, List.getElem_cons_zero, List.getElem_cons_succ, Act.put, List.setIfInBounds_toArray, List.set_cons_zero, List.set_cons_succ])
      refine wpL.ready (rs := [7]) (by kernel_rfl) (by simp) ?_
      refine AllL.cons rfl (fun K hK => ?_) AllL.nil
      go_simp
      refine hK.out _ _ ?_ (fun hH2 => ?_)
      next =>
        (try dsimp only)
        refine ⟨fun hl => ?_, fun hl => ?_⟩
        · first | (exact lNo hl (by decide +kernel)) | assumption | exact hS9.1 | exact cell_oldA hS9.1 | exact cell_oldA (cell_oldA hS9.1)
        · first | (exact lNo hl (by decide +kernel)) | assumption | exact hS9.2 | exact cell_oldA hS9.2 | exact cell_oldA (cell_oldA hS9.2) | exact cell_oldA t4
      clear hK K hHeld
      have hHeld := hH2
      clear hH2
      (try simp only [List.getElem_toArray, List.getElem_cons_zero, List.getElem_cons_succ, Act.put, List.setIfInBounds_toArray, List.set_cons_zero, List.set_cons_succ])
      refine wpL.ready (rs := [8]) (by kernel_rfl) (by simp) ?_
      refine AllL.cons rfl (fun K hK => ?_) AllL.nil
      refine step_append_ex rfl _ _ 49 rfl vr _ rfl rfl (append_cell_run (R := (Both (FiveT s #[.int .i64 5, .int .i64 o2, .int .i64 o3, .slice av ss.length cv] noAn noAn noAn noAn) (Both (CellT kx (wldC sb rb vw vr vW vR) tWld) (Both (RowG tPR6 1 vR n Bs) (Both (X k) (Both (Y kr) (Both (StoreT sb S) (Both (RefT rb S) Φ)))))))) (xs := As) (u := .pointer (pa k)) 49 49 tPR Tryd.underlying49 info_PR rfl ((H15.out.mono hst9 (by (repeat' (first | exact (Below.refl _ _) | (with_reducible refine Below.setCell ?_ ?_ _) | (with_reducible refine Below.alloc ?_ ?_ _) | (with_reducible refine Below.drew ?_) | omega | (simp only [World.heap_size_setCell, World.heap_size_alloc, World.heap_size_drew]; omega) | (simp; done) | (simp; omega))))).perm (by ac_rfl)) hst10 (by first | exact cell_new _ _ _ | exact cell_new2 _ _ _ _ _ | exact cell_old (cell_new _ _ _)) rfl (by unfold maxLen; omega) (by omega)) ?_
      rintro ao1 cp1 w10 ⟨h10, hu10⟩
      have t1 := cell_at h10.drop.drop.cell.1 2
      have t4 := cell_at h10.drop.drop.cell.1 5
      simp only [List.getElem?_toArray, List.getElem?_cons_zero, List.getElem?_cons_succ] at t1 t4
      have H10 := Lib.hid h10
      have HU10 := Lib.hid hu10
      clear h10 hu10
      refine hK.out _ _ ?_ (fun hH2 => ?_)
      next =>
        (try dsimp only)
        refine ⟨fun hl => ?_, fun hl => ?_⟩
        · first | (exact lNo hl (by decide +kernel)) | assumption | exact hS9.1 | exact cell_oldA hS9.1 | exact cell_oldA (cell_oldA hS9.1)
        · first | (exact lNo hl (by decide +kernel)) | assumption | exact hS9.2 | exact cell_oldA hS9.2 | exact cell_oldA (cell_oldA hS9.2) | exact cell_oldA t4
      clear hK K hHeld
      have hHeld := hH2
      clear hH2
      (try simp only [List.getElem_toArray, List.getElem_cons_zero, List.getElem_cons_succ, Act.put, List.setIfInBounds_toArray, List.set_cons_zero, List.set_cons_succ])
      skip
      refine wpL.ready (rs := [15]) (by kernel_rfl) (by simp) ?_
      refine AllL.cons rfl (fun K hK => ?_) AllL.nil
      refine step_append_ex rfl _ _ 51 rfl vR _ rfl rfl (append_cell_run (R := (Both (FiveT s #[.int .i64 5, .int .i64 o2, .int .i64 o3, .slice av ss.length cv] noAn noAn noAn noAn) (Both (CellT kx (wldC sb rb vw vr vW vR) tWld) (Both (RowG tPR 1 (.slice ao1 (n + 1) cp1) (n + 1) (As ++ [.pointer (pa k)])) (Both (X k) (Both (Y kr) (Both (StoreT sb S) (Both (RefT rb S) Φ)))))))) (xs := Bs) (u := .pointer (pb kr)) 51 51 tPR6 Tryd.underlying51 info_PR6 rfl ((H10.out.mono ((RowG.stable _ _ _ _ _).both hst10) (by (repeat' (first | exact (Below.refl _ _) | (with_reducible refine Below.setCell ?_ ?_ _) | (with_reducible refine Below.alloc ?_ ?_ _) | (with_reducible refine Below.drew ?_) | omega | (simp only [World.heap_size_setCell, World.heap_size_alloc, World.heap_size_drew]; omega) | (simp; done) | (simp; omega))))).perm (by ac_rfl)) (hst11 _) (by first | exact cell_new _ _ _ | exact upd_cell HU10.out (by first | (simp; done) | (simp; omega)) (fun hm => by have := hvw _ hm; omega) (cell_new2 _ _ _ _ _) | exact upd_cell HU10.out (by first | (simp; done) | (simp; omega)) (fun hm => by have := hvw _ hm; omega) (cell_new _ _ _) | exact upd_cell HU10.out (by first | (simp; done) | (simp; omega)) (fun hm => by have := hvw _ hm; omega) (cell_old (cell_new _ _ _))) rfl (by unfold maxLen; omega) (by omega)) ?_
      rintro ao2 cp2 w11 ⟨h11, hu11⟩
      have u1 := cell_at h11.drop.drop.cell.1 2
      have u4 := cell_at h11.drop.drop.cell.1 5
      have uf := thaw_at h11.drop.drop.cell.1
      have lk11 := lt_of_heap h11.drop.drop.cell.1
      simp only [List.getElem?_toArray, List.getElem?_cons_zero, List.getElem?_cons_succ] at u1 u4
      have H11 := Lib.hid h11
      clear h11 hu11
      refine hK.out _ _ ?_ (fun hH2 => ?_)
      next =>
        (try dsimp only)
        refine ⟨fun hl => ?_, fun hl => ?_⟩
        · first | (exact lNo hl (by decide +kernel)) | assumption | exact hS9.1 | exact cell_oldA hS9.1 | exact cell_oldA (cell_oldA hS9.1)
        · first | (exact lNo hl (by decide +kernel)) | assumption | exact hS9.2 | exact cell_oldA hS9.2 | exact cell_oldA (cell_oldA hS9.2) | exact cell_oldA t4
      clear hK K hHeld
      have hHeld := hH2
      clear hH2
      (try simp only [List.getElem_toArray, List.getElem_cons_zero, List.getElem_cons_succ, Act.put, List.setIfInBounds_toArray, List.set_cons_zero, List.set_cons_succ])
      refine wpL.ready (rs := [16]) (by kernel_rfl) (by simp) ?_
      refine AllL.cons rfl (fun K hK => ?_) AllL.nil
      go_simp
      refine hK.out _ _ ?_ (fun hH2 => ?_)
      next =>
        (try dsimp only)
        refine ⟨fun hl => ?_, fun hl => ?_⟩
        · first | (exact lNo hl (by decide +kernel)) | assumption | exact hS9.1 | exact cell_oldA hS9.1 | exact cell_oldA (cell_oldA hS9.1)
        · first | (exact lNo hl (by decide +kernel)) | assumption | exact hS9.2 | exact cell_oldA hS9.2 | exact cell_oldA (cell_oldA hS9.2) | exact cell_oldA t4
      clear hK K hHeld
      have hHeld := hH2
      clear hH2
      (try simp only [List.getElem_toArray, List.getElem_cons_zero, List.getElem_cons_succ, Act.put, List.setIfInBounds_toArray, List.set_cons_zero, List.set_cons_succ])
      refine wpL.ready (rs := [17]) (by kernel_rfl) (by simp) ?_
      refine AllL.cons rfl (fun K hK => ?_) AllL.nil
      go_simp
      refine hK.out _ _ ?_ (fun hH2 => ?_)
      next =>
        (try dsimp only)
        refine ⟨fun hl => ?_, fun hl => ?_⟩
        · first | (exact lNo hl (by decide +kernel)) | assumption | exact hS9.1 | exact cell_oldA hS9.1 | exact cell_oldA (cell_oldA hS9.1)
        · first | (exact lNo hl (by decide +kernel)) | assumption | exact hS9.2 | exact cell_oldA hS9.2 | exact cell_oldA (cell_oldA hS9.2) | exact cell_oldA t4
      clear hK K hHeld
      have hHeld := hH2
      clear hH2
      (try simp only [List.getElem_toArray, List.getElem_cons_zero, List.getElem_cons_succ, Act.put, List.setIfInBounds_toArray, List.set_cons_zero, List.set_cons_succ])
      refine wpL.ready (rs := [18]) (by kernel_rfl) (by simp) ?_
      refine AllL.cons rfl (fun K hK => ?_) AllL.nil
      go_simp
      refine hK.out _ _ ?_ (fun hH2 => ?_)
      next =>
        (try dsimp only)
        refine ⟨fun hl => ?_, fun hl => ?_⟩
        · first | (exact lNo hl (by decide +kernel)) | assumption | exact hS9.1 | exact cell_oldA hS9.1 | exact cell_oldA (cell_oldA hS9.1)
        · first | (exact lNo hl (by decide +kernel)) | assumption | exact hS9.2 | exact cell_oldA hS9.2 | exact cell_oldA (cell_oldA hS9.2) | exact cell_oldA t4
      clear hK K hHeld
      have hHeld := hH2
      clear hH2
      (try simp only [List.getElem_toArray, List.getElem_cons_zero, List.getElem_cons_succ, Act.put, List.setIfInBounds_toArray, List.set_cons_zero, List.set_cons_succ])
      refine wpL.ready (rs := [19]) (by kernel_rfl) (by simp) ?_
      refine AllL.cons rfl (fun K hK => ?_) AllL.nil
      go_simp
      refine hK.out _ _ ?_ (fun hH2 => ?_)
      next =>
        (try dsimp only)
        refine ⟨fun hl => ?_, fun hl => ?_⟩
        · first | (exact lNo hl (by decide +kernel)) | assumption | exact hS9.1 | exact cell_oldA hS9.1 | exact cell_oldA (cell_oldA hS9.1)
        · first | (exact lNo hl (by decide +kernel)) | assumption | exact hS9.2 | exact cell_oldA hS9.2 | exact cell_oldA (cell_oldA hS9.2) | exact cell_oldA t4
      clear hK K hHeld
      have hHeld := hH2
      clear hH2
      (try simp only [List.getElem_toArray, List.getElem_cons_zero, List.getElem_cons_succ, Act.put, List.setIfInBounds_toArray, List.set_cons_zero, List.set_cons_succ])
      refine wpL.ready (rs := [20]) (by kernel_rfl) (by simp) ?_
      refine AllL.cons rfl (fun K hK => ?_) AllL.nil
      go_simp
      refine hK.out _ _ ?_ (fun hH2 => ?_)
      next =>
        (try dsimp only)
        refine ⟨fun hl => ?_, fun hl => ?_⟩
        · first | (exact lNo hl (by decide +kernel)) | assumption | exact hS9.1 | exact cell_oldA hS9.1 | exact cell_oldA (cell_oldA hS9.1)
        · first | (exact lNo hl (by decide +kernel)) | assumption | exact hS9.2 | exact cell_oldA hS9.2 | exact cell_oldA (cell_oldA hS9.2) | exact cell_oldA t4
      clear hK K hHeld
      have hHeld := hH2
      clear hH2
      (try simp only [List.getElem_toArray, List.getElem_cons_zero, List.getElem_cons_succ, Act.put, List.setIfInBounds_toArray, List.set_cons_zero, List.set_cons_succ])
      refine wpL.ready (rs := [21]) (by kernel_rfl) (by simp) ?_
      refine AllL.cons rfl (fun K hK => ?_) AllL.nil
      go_simp
      refine hK.out _ _ ?_ (fun hH2 => ?_)
      next =>
        (try dsimp only)
        refine ⟨fun hl => ?_, fun hl => ?_⟩
        · first | (exact lNo hl (by decide +kernel)) | assumption | exact hS9.1 | exact cell_oldA hS9.1 | exact cell_oldA (cell_oldA hS9.1)
        · first | (exact lNo hl (by decide +kernel)) | assumption | exact hS9.2 | exact cell_oldA hS9.2 | exact cell_oldA (cell_oldA hS9.2) | exact cell_oldA t4
      clear hK K hHeld
      have hHeld := hH2
      clear hH2
      (try simp only [List.getElem_toArray, List.getElem_cons_zero, List.getElem_cons_succ, Act.put, List.setIfInBounds_toArray, List.set_cons_zero, List.set_cons_succ])
      refine wpL.done (by kernel_rfl) ?_ _
      have hRR := (FiveT.stable s #[.int .i64 5, .int .i64 o2, .int .i64 o3, .slice av ss.length cv] noAn noAn noAn noAn).both ((RowG.stable tPR 1 (.slice ao1 (n + 1) cp1) (n + 1) (As ++ [.pointer (pa k)])).both ((RowG.stable tPR6 1 (.slice ao2 (n + 1) cp2) (n + 1) (Bs ++ [.pointer (pb kr)])).both ((hXs k).both ((hYs kr).both ((StoreT.stable sb S).both ((RefT.stable rb S).both hΦ))))))
      have g0 := (H11.out.perm (show _ = Both (CellT kx (wldC sb rb vw vr vW vR) tWld) (Both (FiveT s #[.int .i64 5, .int .i64 o2, .int .i64 o3, .slice av ss.length cv] noAn noAn noAn noAn) (Both (RowG tPR 1 (.slice ao1 (n + 1) cp1) (n + 1) (As ++ [.pointer (pa k)])) (Both (RowG tPR6 1 (.slice ao2 (n + 1) cp2) (n + 1) (Bs ++ [.pointer (pb kr)])) (Both (X k) (Both (Y kr) (Both (StoreT sb S) (Both (RefT rb S) Φ))))))) by ac_rfl))
      have g1 := (g0.setCell hRR 2 (.slice ao1 (n + 1) cp1)).setCell hRR 5 (.slice ao2 (n + 1) cp2)
      have g2 : At W _ (Both (CellT kx (wldC sb rb vw (.slice ao1 (n + 1) cp1) vW (.slice ao2 (n + 1) cp2)) tWld) (Both (FiveT s #[.int .i64 5, .int .i64 o2, .int .i64 o3, .slice av ss.length cv] noAn noAn noAn noAn) (Both (RowG tPR 1 (.slice ao1 (n + 1) cp1) (n + 1) (As ++ [.pointer (pa k)])) (Both (RowG tPR6 1 (.slice ao2 (n + 1) cp2) (n + 1) (Bs ++ [.pointer (pb kr)])) (Both (X k) (Both (Y kr) (Both (StoreT sb S) (Both (RefT rb S) Φ)))))))) := g1
      have g3 : At W _ (Both (FiveT s #[.int .i64 5, .int .i64 o2, .int .i64 o3, .slice av ss.length cv] noAn noAn noAn noAn) (Both (CellT kx (wldC sb rb vw (.slice ao1 (n + 1) cp1) vW (.slice ao2 (n + 1) cp2)) tWld) (Both (RowG tPR 1 (.slice ao1 (n + 1) cp1) (n + 1) (As ++ [.pointer (pa k)])) (Both (RowG tPR6 1 (.slice ao2 (n + 1) cp2) (n + 1) (Bs ++ [.pointer (pb kr)])) (Both (X k) (Both (Y kr) (Both (StoreT sb S) (Both (RefT rb S) Φ)))))))) := g2.perm (by ac_rfl)
      refine HK.out _ _ ?_
      have hJ := HJ.out
      go_meet
      case rel => exact ⟨ao1, cp1, ao2, cp2, g3⟩
  case rest =>
    obtain ⟨ao1, cp1, ao2, cp2, hcu⟩ := hcut
    have HR := Lib.hid hcu
    clear hcu H15 hst9 hst10 hst11 hvw q1 q4 lkx
    have hmk := hma k
    have hmk2 := hmb kr
    have HCO := Lib.hid (code6_calls ((fails12_11 hF).below HR.out.below) hok)
    obtain ⟨y4, y2, y1, y3, y0⟩ := five_get HR.out
    obtain ⟨q0, q1, q2, q3, q4⟩ := five_at y1
    obtain ⟨r0, r1, r2, r3, r4⟩ := five_at y2
    have g4 := thaw_at y1
    have g5 := thaw_at y2
    have l4 := lt_of_heap y1
    have l5 := lt_of_heap y2
    have Y1 := Lib.hid y1
    have Y2 := Lib.hid y2
    clear y4 y2 y1 y3 y0 hma hmb hF hok
    (repeat' (first | (go_big_may; fail) | go_values | go_skip | go_guarded | go_step | go_upon | go_back | dsimp only))
    refine HCO.out.mono ?_
    rintro e w20 ⟨rfl, rfl⟩
    (repeat' (first | (go_big_may; fail) | go_values | go_skip | go_guarded | go_step | go_upon | go_back | dsimp only))
    (try simp only [Exit.inBlock, Exit.then])
    refine bodyPost_ret (results_cells2 rfl _ _ (s + 1) (s + 1 + 1) tAn6 tAn6 (an6C ⟨0, c, [], mo, []⟩ (.slice none 0 0)) (an6C ⟨0, c, [], mo, []⟩ (.slice none 0 0)) (0, 0) (0, 0) _ rfl rfl ?_ ?_ Tryd.underlying59 rfl (by kernel_rfl) (by kernel_rfl)) rfl ?_
    · (try rw [heap_drew]); simp [World.setCell, Array.getElem?_modify, Y1.out]
    · (try rw [heap_drew]); simp [World.setCell, Array.getElem?_modify, Y2.out]
    · refine ⟨rfl, k, kr, .slice ao1 (n + 1) cp1, .slice ao2 (n + 1) cp2, ?_⟩
      exact HR.out.loseU [s + 1, s + 1 + 1, s + 1 + 1 + 1 + 1] ((CellT.stable _ _ _).both ((RowG.stable _ _ _ _ _).both ((RowG.stable _ _ _ _ _).both ((hXs k).both ((hYs kr).both ((StoreT.stable sb S).both ((RefT.stable rb S).both hΦ))))))) (fun fp h => cellsT_mem h) (by repeat' (first | with_reducible exact Upd.refl _ _ | (with_reducible refine Upd.drew ?_) | (with_reducible refine Upd.setCell ?_ (.inl (by simp)) _)))
end
end Go.Proofs.YtiimpnhjnodgpaaDoor
namespace Go.Proofs.YtiimpnhjnodgpaaDoor
open Go.RowKit

def wPtr (f : PW → Nat) (o : Option PW) : Value := .pointer (o.map fun p => ⟨f p, 0, none⟩)
def rPtr (f : PR → Nat) (o : Option PR) : Value := .pointer (o.map fun p => ⟨f p, 0, none⟩)
def wT (sb : Nat) (ef : Nat → Nat × Nat) : Option PW → Thing
  | none => Nought
  | some p => WrT p.k sb ef p.x
def wT6 : Option PW → Thing
  | none => Nought
  | some p => RwT p.kr p.y
def rT (sb : Nat) (ef : Nat → Nat × Nat) : Option PR → Thing
  | none => Nought
  | some p => RdT p.k sb ef p.x
def rT6 : Option PR → Thing
  | none => Nought
  | some p => RrT p.kr p.v p.l p.i p.aft
theorem wT.stable (sb : Nat) (ef : Nat → Nat × Nat) (o : Option PW) : Stable (wT sb ef o) := by cases o; exact Stable.nought; exact WrT.stable _ _ _ _
theorem wT6.stable (o : Option PW) : Stable (wT6 o) := by cases o; exact Stable.nought; exact RwT.stable _ _
theorem rT.stable (sb : Nat) (ef : Nat → Nat × Nat) (o : Option PR) : Stable (rT sb ef o) := by cases o; exact Stable.nought; exact RdT.stable _ _ _ _
theorem rT6.stable (o : Option PR) : Stable (rT6 o) := by cases o; exact Stable.nought; exact RrT.stable _ _ _ _ _
theorem LstT.pick {α : Type} {f : α → Thing} {a : α} : ∀ {l : List α} {i : Nat}, l[i]? = some a → LstT f l = Both (f a) (LstT f (l.eraseIdx i))
  | [], i, h => by simp at h
  | b :: l, 0, h => by simp at h; subst h; rfl
  | b :: l, i + 1, h => by
    have ih := LstT.pick (f := f) (l := l) (i := i) (by simpa using h)
    show Both (f b) (LstT f l) = Both (f a) (Both (f b) (LstT f (l.eraseIdx i)))
    rw [ih, Both.left_comm_eq]
theorem LstT.put {α : Type} {f : α → Thing} {a : α} {l : List α} {i : Nat} (h : i < l.length) : LstT f (l.set i a) = Both (f a) (LstT f (l.eraseIdx i)) := by
  rw [LstT.pick (f := f) (a := a) (l := l.set i a) (i := i) (by rw [List.getElem?_set]; simp [h]), List.eraseIdx_set_eq]
theorem LstT.more {α : Type} {f : α → Thing} {a : α} : ∀ {l : List α}, LstT f (l ++ [a]) = Both (f a) (LstT f l)
  | [] => rfl
  | b :: l => by
    show Both (f b) (LstT f (l ++ [a])) = Both (f a) (Both (f b) (LstT f l))
    rw [LstT.more, Both.left_comm_eq]
/-- The objects of a script, the program's and the document's. -/
abbrev ObjsT (sb : Nat) (ef : Nat → Nat × Nat) (ws : List (Option PW)) (rs : List (Option PR)) : Thing := Both (LstT (wT sb ef) ws) (Both (LstT wT6 ws) (Both (LstT (rT sb ef) rs) (LstT rT6 rs)))
theorem ObjsT.stable (sb : Nat) (ef : Nat → Nat × Nat) (ws : List (Option PW)) (rs : List (Option PR)) : Stable (ObjsT sb ef ws rs) :=
  (LstT.stable (wT.stable sb ef) ws).both ((LstT.stable wT6.stable ws).both ((LstT.stable (rT.stable sb ef) rs).both (LstT.stable rT6.stable rs)))
abbrev WldI (kx sb rb : Nat) (ef : Nat → Nat × Nat) (S : St) (ws : List (Option PW)) (rs : List (Option PR)) (vw vr vW vR : Value) : Thing :=
  Both (CellT kx (wldC sb rb vw vr vW vR) tWld) (Both (RowG tPW 1 vw ws.length (ws.map (wPtr PW.k))) (Both (RowG tPW6 1 vW ws.length (ws.map (wPtr PW.kr))) (Both (RowG tPR 1 vr rs.length (rs.map (rPtr PR.k))) (Both (RowG tPR6 1 vR rs.length (rs.map (rPtr PR.kr)))
    (Both (StoreT sb S) (Both (RefT rb S) (ObjsT sb ef ws rs)))))))
def WldT (kx sb rb : Nat) (ef : Nat → Nat × Nat) (S : St) (ws : List (Option PW)) (rs : List (Option PR)) : Thing := fun w fp => ∃ q : Value × Value × Value × Value, WldI kx sb rb ef S ws rs q.1 q.2.1 q.2.2.1 q.2.2.2 w fp
theorem WldI.stable (kx sb rb : Nat) (ef : Nat → Nat × Nat) (S : St) (ws : List (Option PW)) (rs : List (Option PR)) (vw vr vW vR : Value) : Stable (WldI kx sb rb ef S ws rs vw vr vW vR) :=
  (CellT.stable _ _ _).both ((RowG.stable _ _ _ _ _).both ((RowG.stable _ _ _ _ _).both ((RowG.stable _ _ _ _ _).both ((RowG.stable _ _ _ _ _).both ((StoreT.stable _ _).both ((RefT.stable _ _).both (ObjsT.stable _ _ _ _)))))))
theorem WldT.stable (kx sb rb : Nat) (ef : Nat → Nat × Nat) (S : St) (ws : List (Option PW)) (rs : List (Option PR)) : Stable (WldT kx sb rb ef S ws rs) := Stable.ex fun _ => WldI.stable _ _ _ _ _ _ _ _ _ _ _
section
variable {W w : World} {kx sb rb : Nat} {ef : Nat → Nat × Nat} {S : St} {ws : List (Option PW)} {rs : List (Option PR)}
theorem At.toWld {vw vr vW vR : Value} {R : Thing} (h : At W w (Both (WldI kx sb rb ef S ws rs vw vr vW vR) R)) : At W w (Both (WldT kx sb rb ef S ws rs) R) := At.intoEx (vw, vr, vW, vR) h
/-- What a step leaves. -/
def StepPost (W : World) (kx sb rb : Nat) (ef : Nat → Nat × Nat) (ws : List (Option PW)) (rs : List (Option PR)) (e : Ending) (w' : World) : Prop :=
  ∃ (A : An6) (va vb : Value) (S' : St) (ws' : List (Option PW)) (rs' : List (Option PR)), e = .returned (.tuple #[an6V A va, an6V A vb]) ∧ PlayI S' ws' rs' ∧ ws'.length ≤ ws.length + 1 ∧ rs'.length ≤ rs.length + 1 ∧ At W w' (Both (RowT va A.list) (Both (RowT vb A.list) (WldT kx sb rb ef S' ws' rs')))
theorem At.posts {S' : St} {ws' : List (Option PW)} {rs' : List (Option PR)} {A : An6} {e : Ending} {w' : World} {vw vr vW vR : Value} (he : e = .returned (.tuple #[an6V A (.slice none 0 0), an6V A (.slice none 0 0)])) (hl : A.list = []) (hP : PlayI S' ws' rs') (h1 : ws'.length ≤ ws.length + 1) (h2 : rs'.length ≤ rs.length + 1)
    (h : At W w' (WldI kx sb rb ef S' ws' rs' vw vr vW vR)) : StepPost W kx sb rb ef ws rs e w' := by
  have h3 : At W w' (WldT kx sb rb ef S' ws' rs') := h.impl fun fp q => ⟨(vw, vr, vW, vR), q⟩
  have h4 := (h3.noRow (WldT.stable _ _ _ _ _ _ _)).noRow ((RowT.stable _ _).both (WldT.stable _ _ _ _ _ _ _))
  refine ⟨A, _, _, S', ws', rs', he, hP, h1, h2, ?_⟩
  rw [hl]
  exact h4
theorem wPtr_at {i : Nat} {o : Option PW} (f : PW → Nat) (h : ws[i]? = some o) : (ws.map (wPtr f))[i]? = some (wPtr f o) := by rw [List.getElem?_map, h]; rfl
theorem rPtr_at {i : Nat} {o : Option PR} (f : PR → Nat) (h : rs[i]? = some o) : (rs.map (rPtr f))[i]? = some (rPtr f o) := by rw [List.getElem?_map, h]; rfl
theorem map_set_same {i : Nat} {p q : PW} (f : PW → Nat) (h : ws[i]? = some (some p)) (hf : f q = f p) : (ws.set i (some q)).map (wPtr f) = ws.map (wPtr f) := by
  rw [List.map_set]
  have e : wPtr f (some q) = wPtr f (some p) := by simp [wPtr, hf]
  rw [e]
  apply List.ext_getElem?
  intro j
  rw [List.getElem?_set]
  by_cases hj : i = j
  · subst hj
    rw [if_pos rfl, wPtr_at f h]
    have := (List.getElem?_eq_some_iff.1 h).1
    simp [this]
  · rw [if_neg hj]
theorem map_setR_same {i : Nat} {p q : PR} (f : PR → Nat) (h : rs[i]? = some (some p)) (hf : f q = f p) : (rs.set i (some q)).map (rPtr f) = rs.map (rPtr f) := by
  rw [List.map_set]
  have e : rPtr f (some q) = rPtr f (some p) := by simp [rPtr, hf]
  rw [e]
  apply List.ext_getElem?
  intro j
  rw [List.getElem?_set]
  by_cases hj : i = j
  · subst hj
    rw [if_pos rfl, rPtr_at f h]
    have := (List.getElem?_eq_some_iff.1 h).1
    simp [this]
  · rw [if_neg hj]
abbrev RestW (sb : Nat) (ef : Nat → Nat × Nat) (ws : List (Option PW)) (rs : List (Option PR)) (vr vR : Value) (i : Nat) : Thing := Both (RowG tPR 1 vr rs.length (rs.map (rPtr PR.k))) (Both (RowG tPR6 1 vR rs.length (rs.map (rPtr PR.kr))) (Both (LstT (wT sb ef) (ws.eraseIdx i)) (Both (LstT wT6 (ws.eraseIdx i)) (Both (LstT (rT sb ef) rs) (LstT rT6 rs)))))
theorem RestW.stable (sb : Nat) (ef : Nat → Nat × Nat) (ws : List (Option PW)) (rs : List (Option PR)) (vr vR : Value) (i : Nat) : Stable (RestW sb ef ws rs vr vR i) :=
  (RowG.stable _ _ _ _ _).both ((RowG.stable _ _ _ _ _).both ((LstT.stable (wT.stable sb ef) _).both ((LstT.stable wT6.stable _).both ((LstT.stable (rT.stable sb ef) _).both (LstT.stable rT6.stable _)))))
abbrev RestR (sb rb : Nat) (ef : Nat → Nat × Nat) (S : St) (ws : List (Option PW)) (rs : List (Option PR)) (vw vW : Value) (i : Nat) : Thing := Both (RowG tPW 1 vw ws.length (ws.map (wPtr PW.k))) (Both (RowG tPW6 1 vW ws.length (ws.map (wPtr PW.kr))) (Both (RefT rb S) (Both (LstT (wT sb ef) ws) (Both (LstT wT6 ws) (Both (LstT (rT sb ef) (rs.eraseIdx i)) (LstT rT6 (rs.eraseIdx i)))))))
theorem RestR.stable (sb rb : Nat) (ef : Nat → Nat × Nat) (S : St) (ws : List (Option PW)) (rs : List (Option PR)) (vw vW : Value) (i : Nat) : Stable (RestR sb rb ef S ws rs vw vW i) :=
  (RowG.stable _ _ _ _ _).both ((RowG.stable _ _ _ _ _).both ((RefT.stable _ _).both ((LstT.stable (wT.stable sb ef) _).both ((LstT.stable wT6.stable _).both ((LstT.stable (rT.stable sb ef) _).both (LstT.stable rT6.stable _))))))
theorem wld_pickW {vw vr vW vR : Value} {i : Nat} {p : PW} (hp : ws[i]? = some (some p)) : WldI kx sb rb ef S ws rs vw vr vW vR = Both (CellT kx (wldC sb rb vw vr vW vR) tWld) (Both (RowG tPW 1 vw ws.length (ws.map (wPtr PW.k))) (Both (RowG tPW6 1 vW ws.length (ws.map (wPtr PW.kr))) (Both (WrT p.k sb ef p.x) (Both (StoreT sb S) (Both (RwT p.kr p.y) (Both (RefT rb S) (RestW sb ef ws rs vr vR i))))))) := by
  unfold WldI ObjsT RestW
  have e1 : wT sb ef (some p) = WrT p.k sb ef p.x := rfl
  have e2 : wT6 (some p) = RwT p.kr p.y := rfl
  rw [LstT.pick (f := wT sb ef) hp, LstT.pick (f := wT6) hp, e1, e2]
  ac_rfl
theorem wld_putW {S' : St} {vw vr vW vR : Value} {i : Nat} {p : PW} {x y : WrD} (hp : ws[i]? = some (some p)) : WldI kx sb rb ef S' (ws.set i (some ⟨p.k, p.kr, x, y⟩)) rs vw vr vW vR = Both (CellT kx (wldC sb rb vw vr vW vR) tWld) (Both (RowG tPW 1 vw ws.length (ws.map (wPtr PW.k))) (Both (RowG tPW6 1 vW ws.length (ws.map (wPtr PW.kr))) (Both (WrT p.k sb ef x) (Both (StoreT sb S') (Both (RwT p.kr y) (Both (RefT rb S') (RestW sb ef ws rs vr vR i))))))) := by
  have hil := (List.getElem?_eq_some_iff.1 hp).1
  unfold WldI ObjsT RestW
  have e1 : wT sb ef (some ⟨p.k, p.kr, x, y⟩) = WrT p.k sb ef x := rfl
  have e2 : wT6 (some ⟨p.k, p.kr, x, y⟩) = RwT p.kr y := rfl
  rw [LstT.put (f := wT sb ef) hil, LstT.put (f := wT6) hil, map_set_same (q := ⟨p.k, p.kr, x, y⟩) PW.k hp rfl, map_set_same (q := ⟨p.k, p.kr, x, y⟩) PW.kr hp rfl, List.length_set, e1, e2]
  ac_rfl
theorem wld_pickR {vw vr vW vR : Value} {i : Nat} {p : PR} (hp : rs[i]? = some (some p)) : WldI kx sb rb ef S ws rs vw vr vW vR = Both (CellT kx (wldC sb rb vw vr vW vR) tWld) (Both (RowG tPR 1 vr rs.length (rs.map (rPtr PR.k))) (Both (RowG tPR6 1 vR rs.length (rs.map (rPtr PR.kr))) (Both (RdT p.k sb ef p.x) (Both (StoreT sb S) (Both (RrT p.kr p.v p.l p.i p.aft) (RestR sb rb ef S ws rs vw vW i)))))) := by
  unfold WldI ObjsT RestR
  have e1 : rT sb ef (some p) = RdT p.k sb ef p.x := rfl
  have e2 : rT6 (some p) = RrT p.kr p.v p.l p.i p.aft := rfl
  rw [LstT.pick (f := rT sb ef) hp, LstT.pick (f := rT6) hp, e1, e2]
  ac_rfl
theorem wld_putR {vw vr vW vR : Value} {i : Nat} {p q : PR} (hp : rs[i]? = some (some p)) (h1 : q.k = p.k) (h2 : q.kr = p.kr) : WldI kx sb rb ef S ws (rs.set i (some q)) vw vr vW vR = Both (CellT kx (wldC sb rb vw vr vW vR) tWld) (Both (RowG tPR 1 vr rs.length (rs.map (rPtr PR.k))) (Both (RowG tPR6 1 vR rs.length (rs.map (rPtr PR.kr))) (Both (RdT p.k sb ef q.x) (Both (StoreT sb S) (Both (RrT p.kr q.v q.l q.i q.aft) (RestR sb rb ef S ws rs vw vW i)))))) := by
  have hil := (List.getElem?_eq_some_iff.1 hp).1
  unfold WldI ObjsT RestR
  have e1 : rT sb ef (some q) = RdT p.k sb ef q.x := by rw [← h1]; rfl
  have e2 : rT6 (some q) = RrT p.kr q.v q.l q.i q.aft := by rw [← h2]; rfl
  rw [LstT.put (f := rT sb ef) hil, LstT.put (f := rT6) hil, map_setR_same PR.k hp h1, map_setR_same PR.kr hp h2, List.length_set, e1, e2]
  ac_rfl
abbrev NoW (sb rb : Nat) (ef : Nat → Nat × Nat) (S : St) (rs : List (Option PR)) (vr vW vR : Value) : Thing := Both (RowG tPW6 1 vW 0 []) (Both (RowG tPR 1 vr rs.length (rs.map (rPtr PR.k))) (Both (RowG tPR6 1 vR rs.length (rs.map (rPtr PR.kr))) (Both (StoreT sb S) (Both (RefT rb S) (ObjsT sb ef [] rs)))))
theorem NoW.stable (sb rb : Nat) (ef : Nat → Nat × Nat) (S : St) (rs : List (Option PR)) (vr vW vR : Value) : Stable (NoW sb rb ef S rs vr vW vR) :=
  (RowG.stable _ _ _ _ _).both ((RowG.stable _ _ _ _ _).both ((RowG.stable _ _ _ _ _).both ((StoreT.stable _ _).both ((RefT.stable _ _).both (ObjsT.stable _ _ _ _)))))
theorem wld_noW {vw vr vW vR : Value} : WldI kx sb rb ef S [] rs vw vr vW vR = Both (CellT kx (wldC sb rb vw vr vW vR) tWld) (Both (RowG tPW 1 vw 0 []) (NoW sb rb ef S rs vr vW vR)) := by
  unfold WldI NoW
  simp only [List.length_nil, List.map_nil]
abbrev NoR (sb rb : Nat) (ef : Nat → Nat × Nat) (S : St) (ws : List (Option PW)) (vw vW vR : Value) : Thing := Both (RowG tPW 1 vw ws.length (ws.map (wPtr PW.k))) (Both (RowG tPW6 1 vW ws.length (ws.map (wPtr PW.kr))) (Both (RowG tPR6 1 vR 0 []) (Both (StoreT sb S) (Both (RefT rb S) (ObjsT sb ef ws [])))))
theorem NoR.stable (sb rb : Nat) (ef : Nat → Nat × Nat) (S : St) (ws : List (Option PW)) (vw vW vR : Value) : Stable (NoR sb rb ef S ws vw vW vR) :=
  (RowG.stable _ _ _ _ _).both ((RowG.stable _ _ _ _ _).both ((RowG.stable _ _ _ _ _).both ((StoreT.stable _ _).both ((RefT.stable _ _).both (ObjsT.stable _ _ _ _)))))
theorem wld_noR {vw vr vW vR : Value} : WldI kx sb rb ef S ws [] vw vr vW vR = Both (CellT kx (wldC sb rb vw vr vW vR) tWld) (Both (RowG tPR 1 vr 0 []) (NoR sb rb ef S ws vw vW vR)) := by
  unfold WldI NoR
  simp only [List.length_nil, List.map_nil]
  ac_rfl
abbrev WInR (sb rb : Nat) (ef : Nat → Nat × Nat) (S : St) (ws : List (Option PW)) (rs : List (Option PR)) (vr vR : Value) : Thing := Both (RowG tPR 1 vr rs.length (rs.map (rPtr PR.k))) (Both (RowG tPR6 1 vR rs.length (rs.map (rPtr PR.kr))) (Both (StoreT sb S) (Both (RefT rb S) (ObjsT sb ef ws rs))))
theorem WInR.stable (sb rb : Nat) (ef : Nat → Nat × Nat) (S : St) (ws : List (Option PW)) (rs : List (Option PR)) (vr vR : Value) : Stable (WInR sb rb ef S ws rs vr vR) :=
  (RowG.stable _ _ _ _ _).both ((RowG.stable _ _ _ _ _).both ((StoreT.stable _ _).both ((RefT.stable _ _).both (ObjsT.stable _ _ _ _))))
abbrev RInR (sb rb : Nat) (ef : Nat → Nat × Nat) (S : St) (ws : List (Option PW)) (rs : List (Option PR)) (vw vW : Value) : Thing := Both (RowG tPW 1 vw ws.length (ws.map (wPtr PW.k))) (Both (RowG tPW6 1 vW ws.length (ws.map (wPtr PW.kr))) (Both (StoreT sb S) (Both (RefT rb S) (ObjsT sb ef ws rs))))
theorem RInR.stable (sb rb : Nat) (ef : Nat → Nat × Nat) (S : St) (ws : List (Option PW)) (rs : List (Option PR)) (vw vW : Value) : Stable (RInR sb rb ef S ws rs vw vW) :=
  (RowG.stable _ _ _ _ _).both ((RowG.stable _ _ _ _ _).both ((StoreT.stable _ _).both ((RefT.stable _ _).both (ObjsT.stable _ _ _ _))))
theorem wld_moreW {S' : St} {vw vr vW vR : Value} (o : Option PW) : WldI kx sb rb ef S' (ws ++ [o]) rs vw vr vW vR = Both (CellT kx (wldC sb rb vw vr vW vR) tWld) (Both (RowG tPW 1 vw (ws.length + 1) (ws.map (wPtr PW.k) ++ [wPtr PW.k o])) (Both (RowG tPW6 1 vW (ws.length + 1) (ws.map (wPtr PW.kr) ++ [wPtr PW.kr o])) (Both (wT sb ef o) (Both (wT6 o) (Both (StoreT sb S') (Both (RefT rb S') (Both (RowG tPR 1 vr rs.length (rs.map (rPtr PR.k))) (Both (RowG tPR6 1 vR rs.length (rs.map (rPtr PR.kr))) (ObjsT sb ef ws rs))))))))) := by
  unfold WldI ObjsT
  rw [LstT.more (f := wT sb ef), LstT.more (f := wT6)]
  simp only [List.length_append, List.length_cons, List.length_nil, List.map_append, List.map_cons, List.map_nil, Nat.zero_add]
  ac_rfl
theorem wld_moreR {S' : St} {vw vr vW vR : Value} (o : Option PR) : WldI kx sb rb ef S' ws (rs ++ [o]) vw vr vW vR = Both (CellT kx (wldC sb rb vw vr vW vR) tWld) (Both (RowG tPR 1 vr (rs.length + 1) (rs.map (rPtr PR.k) ++ [rPtr PR.k o])) (Both (RowG tPR6 1 vR (rs.length + 1) (rs.map (rPtr PR.kr) ++ [rPtr PR.kr o])) (Both (rT sb ef o) (Both (rT6 o) (Both (StoreT sb S') (Both (RefT rb S') (Both (RowG tPW 1 vw ws.length (ws.map (wPtr PW.k))) (Both (RowG tPW6 1 vW ws.length (ws.map (wPtr PW.kr))) (ObjsT sb ef ws rs))))))))) := by
  unfold WldI ObjsT
  rw [LstT.more (f := rT sb ef), LstT.more (f := rT6)]
  simp only [List.length_append, List.length_cons, List.length_nil, List.map_append, List.map_cons, List.map_nil, Nat.zero_add]
  ac_rfl
theorem okC_limits : okC 2 := .inr ⟨5, by decide⟩
theorem okC_made (S : St) : okC (createP S).2.2 := by
  unfold createP
  split
  · exact okC_of (.inr (.inr (.inr (.inr (.inl rfl)))))
  · split
    · exact okC_of (.inr (.inr (.inr (.inr (.inr (.inr (.inr rfl)))))))
    · exact okC_zero
theorem okC_from (S : St) (z : Int) : okC (readC S z 0 0) := by
  unfold readC
  cases hf : S.find z with
  | none => exact okC_of (.inr (.inl rfl))
  | some p =>
    dsimp only
    by_cases hs : p.2.sealed = false
    · rw [if_pos hs]; exact .inr ⟨1, by decide⟩
    · rw [if_neg hs, if_neg (by omega)]; exact okC_zero
theorem frame_le {ss : List (List UInt8)} (h : ss.length + (cat ss).length ≤ 1048576) : (frameL ss).length ≤ 16777216 := by
  have : ∀ l : List (List UInt8), (∀ r ∈ l, r.length ≤ 1048576) → (frameL l).length ≤ 10 * l.length + (cat l).length := fun l hl => by
    induction l with
    | nil => simp [frameL]
    | cons r l ih =>
      have h1 := ih fun x hx => hl x (List.mem_cons_of_mem _ hx)
      have h2 : (uintL r.length).length ≤ 10 := uintL_length10 (by have := hl r (by simp); omega)
      simp only [frameL, List.length_append, List.length_cons, cat, List.flatten_cons] at h1 ⊢
      omega
  have h2 : ∀ r ∈ ss, r.length ≤ 1048576 := fun r hr => by
    have : r.length ≤ (cat ss).length := by
      simp only [cat]
      exact (List.sublist_flatten_of_mem hr).length_le
    omega
  have h3 := this ss h2
  omega
set_option maxHeartbeats 1600000 in
theorem stepAll_calls (hF : Fails W ef fails12) (hP : PlayI S ws rs) (hlw : ws.length ≤ 1048576) (hlr : rs.length ≤ 1048576) {o : Op6} (ho : OpOk W o) (h : At W w (WldT kx sb rb ef S ws rs)) :
    Calls Tryd.prog 15 #[.pointer (some ⟨kx, 0, none⟩), .agg (cellsOp o).toArray] w (StepPost W kx sb rb ef ws rs) := by
  obtain ⟨⟨vw, vr, vW, vR⟩, h⟩ : ∃ q : Value × Value × Value × Value, At W w (WldI kx sb rb ef S ws rs q.1 q.2.1 q.2.2.1 q.2.2.2) := by
    obtain ⟨hb, fp, ⟨q, h1⟩, h2⟩ := h
    exact ⟨q, hb, fp, h1, h2⟩
  dsimp only at h
  obtain ⟨kk, o2, o3, v, ss⟩ := o
  obtain ⟨hk, ho2, ho3, hv, hlen⟩ := ho
  dsimp only at hk ho2 ho3 hv hlen
  have hsz := hP.good.sizes
  have hwi := WldI.stable kx sb rb ef S ws rs vw vr vW vR
  by_cases k10 : kk = 10
  · subst k10
    have h1 : At W w (Both (CellT kx (wldC sb rb vw vr vW vR) tWld) (Both (StoreT sb S) (Both (RefT rb S) (Both (RowG tPW 1 vw ws.length (ws.map (wPtr PW.k))) (Both (RowG tPW6 1 vW ws.length (ws.map (wPtr PW.kr))) (Both (RowG tPR 1 vr rs.length (rs.map (rPtr PR.k))) (Both (RowG tPR6 1 vR rs.length (rs.map (rPtr PR.kr))) (ObjsT sb ef ws rs)))))))) := h.perm (by unfold WldI; ac_rfl)
    refine (step_live ((RowG.stable _ _ _ _ _).both ((RowG.stable _ _ _ _ _).both ((RowG.stable _ _ _ _ _).both ((RowG.stable _ _ _ _ _).both (ObjsT.stable _ _ _ _))))) hF hP.good h1 hv).mono ?_
    rintro e w' ⟨va, vb, rfl, h2⟩
    refine ⟨⟨S.used, 0, [], false, S.keys⟩, va, vb, S, ws, rs, rfl, hP, by omega, by omega, ?_⟩
    have h3 : At W w' (Both (WldI kx sb rb ef S ws rs vw vr vW vR) (Both (RowT va S.keys) (RowT vb S.keys))) := h2.perm (by unfold WldI; ac_rfl)
    exact h3.toWld.perm (by ac_rfl)
  by_cases k9 : kk = 9
  · subst k9
    have h1 : At W w (Both (CellT kx (wldC sb rb vw vr vW vR) tWld) (Both (StoreT sb S) (Both (RefT rb S) (Both (RowG tPW 1 vw ws.length (ws.map (wPtr PW.k))) (Both (RowG tPW6 1 vW ws.length (ws.map (wPtr PW.kr))) (Both (RowG tPR 1 vr rs.length (rs.map (rPtr PR.k))) (Both (RowG tPR6 1 vR rs.length (rs.map (rPtr PR.kr))) (ObjsT sb ef ws rs)))))))) := h.perm (by unfold WldI; ac_rfl)
    refine (step_run ((RowG.stable _ _ _ _ _).both ((RowG.stable _ _ _ _ _).both ((RowG.stable _ _ _ _ _).both ((RowG.stable _ _ _ _ _).both (ObjsT.stable _ _ _ _))))) hF hP.good h1 ho2 hv).mono ?_
    rintro e w' ⟨he, h2⟩
    exact At.posts he rfl hP (by omega) (by omega) (h2.perm (show _ = WldI kx sb rb ef S ws rs vw vr vW vR by unfold WldI; ac_rfl))
  by_cases k8 : kk = 8
  · subst k8
    have h1 : At W w (Both (CellT kx (wldC sb rb vw vr vW vR) tWld) (Both (StoreT sb S) (Both (RefT rb S) (Both (RowG tPW 1 vw ws.length (ws.map (wPtr PW.k))) (Both (RowG tPW6 1 vW ws.length (ws.map (wPtr PW.kr))) (Both (RowG tPR 1 vr rs.length (rs.map (rPtr PR.k))) (Both (RowG tPR6 1 vR rs.length (rs.map (rPtr PR.kr))) (ObjsT sb ef ws rs)))))))) := h.perm (by unfold WldI; ac_rfl)
    refine (step_break ((RowG.stable _ _ _ _ _).both ((RowG.stable _ _ _ _ _).both ((RowG.stable _ _ _ _ _).both ((RowG.stable _ _ _ _ _).both (ObjsT.stable _ _ _ _))))) hF h1 ho3 hv).mono ?_
    rintro e w' ⟨he, h2⟩
    exact At.posts he rfl (hP.step (step_brk hP.good ho3)) (by omega) (by omega) (h2.perm (show _ = WldI kx sb rb ef (breakS S o3) ws rs vw vr vW vR by unfold WldI; ac_rfl))
  by_cases ko : kk < 1 ∨ 10 < kk
  · refine (step_other hwi hF h hv ko).mono ?_
    rintro e w' ⟨he, h2⟩
    exact At.posts he rfl hP (by omega) (by omega) h2
  by_cases k7 : kk = 7
  · subst k7
    have hR : Stable (Both (RowG tPW 1 vw ws.length (ws.map (wPtr PW.k))) (Both (RowG tPW6 1 vW ws.length (ws.map (wPtr PW.kr))) (Both (RowG tPR 1 vr rs.length (rs.map (rPtr PR.k))) (Both (RowG tPR6 1 vR rs.length (rs.map (rPtr PR.kr))) (ObjsT sb ef ws rs))))) :=
      (RowG.stable _ _ _ _ _).both ((RowG.stable _ _ _ _ _).both ((RowG.stable _ _ _ _ _).both ((RowG.stable _ _ _ _ _).both (ObjsT.stable _ _ _ _))))
    refine (step_pass7 (A := ⟨(rawP S ss).2.1, (rawP S ss).2.2, [], false, []⟩) (Q := fun X' => X' = WldI kx sb rb ef (rawP S ss).1 ws rs vw vr vW vR) hwi h hv fun w1 Y hY h1 => ?_).mono ?_
    · have h2 : At W w1 (Both (CellT kx (wldC sb rb vw vr vW vR) tWld) (Both (StoreT sb S) (Both (RefT rb S) (Both (Both (RowG tPW 1 vw ws.length (ws.map (wPtr PW.k))) (Both (RowG tPW6 1 vW ws.length (ws.map (wPtr PW.kr))) (Both (RowG tPR 1 vr rs.length (rs.map (rPtr PR.k))) (Both (RowG tPR6 1 vR rs.length (rs.map (rPtr PR.kr))) (ObjsT sb ef ws rs))))) Y)))) := h1.perm (by unfold WldI; ac_rfl)
      have hw' := WldI.stable kx sb rb ef (rawP S ss).1 ws rs vw vr vW vR
      by_cases hc : (createP S).2.2 = 0
      · refine (raw_ok h2 (hR.both hY) hF hP.good 7 o2 o3 v hv hlen hc).mono ?_
        rintro e w' ⟨he, h3⟩
        exact ⟨he, _, hw', rfl, h3.perm (by unfold WldI; ac_rfl)⟩
      · have e1 : rawP S ss = ((createP S).1, (createP S).2.1, (createP S).2.2) := by unfold rawP; rw [if_pos hc]
        obtain ⟨av, cv, rfl, _, _⟩ := hv.shape
        refine (raw_fail h2 (hR.both hY) hF hP.good 7 o2 o3 _ hc).mono ?_
        rintro e w' ⟨he, h3⟩
        rw [e1]
        exact ⟨he, _, WldI.stable kx sb rb ef (createP S).1 ws rs vw vr vW vR, rfl, h3.perm (by unfold WldI; ac_rfl)⟩
    · rintro e w' ⟨he, X', rfl, h3⟩
      refine At.posts he rfl (hP.step ?_) (by omega) (by omega) h3
      have h4 := step_create hP.good
      unfold rawP
      by_cases hc : (createP S).2.2 = 0
      · rw [if_neg (by simpa using hc)]
        have h5 := h4.trans (step_append h4.good (createP S).2.1 (cat ss))
        by_cases hz : (appendP (createP S).1 (createP S).2.1 (cat ss)).2 = 0
        · rw [if_neg (by simpa using hz)]
          have hm : (createP S).2.1 = S.made + 1 := by
            rcases made_create S with h | h
            · exact absurd hc h.1
            · exact h.2.1
          exact step_seal h5.good h5.made (by omega) h5
        · rw [if_pos hz]; exact h5
      · rw [if_pos hc]; exact h4
  by_cases k2 : kk = 2
  · subst k2
    rcases Nat.eq_zero_or_pos ws.length with hz | hn
    · have hz := List.eq_nil_of_length_eq_zero hz
      subst hz
      refine (step_pass2 (A := ⟨0, 0, [], false, []⟩) (Q := fun X' => X' = WldI kx sb rb ef S [] rs vw vr vW vR) hwi h hv fun w1 Y hY h1 => ?_).mono ?_
      · have h2 : At W w1 (Both (CellT kx (wldC sb rb vw vr vW vR) tWld) (Both (RowG tPW 1 vw 0 []) (Both (NoW sb rb ef S rs vr vW vR) Y))) := h1.perm (by rw [wld_noW]; ac_rfl)
        refine (writer_none ((NoW.stable _ _ _ _ _ _ _ _).both hY) h2 hv).mono ?_
        rintro e w' ⟨he, h3⟩
        exact ⟨he, _, hwi, rfl, h3.perm (by rw [wld_noW]; ac_rfl)⟩
      · rintro e w' ⟨he, X', rfl, h3⟩
        exact At.posts he rfl hP (by simp) (by omega) h3
    · obtain ⟨i, hi, hil⟩ := place6_in (a := o2) hn
      obtain ⟨op, hop⟩ : ∃ op, ws[i]? = some op := ⟨_, List.getElem?_eq_getElem hil⟩
      cases op with
      | none =>
        refine (step_pass2 (A := ⟨0, 1, [], false, []⟩) (Q := fun X' => X' = WldI kx sb rb ef S ws rs vw vr vW vR) hwi h hv fun w1 Y hY h1 => ?_).mono ?_
        · have h2 : At W w1 (Both (CellT kx (wldC sb rb vw vr vW vR) tWld) (Both (RowG tPW 1 vw ws.length (ws.map (wPtr PW.k))) (Both (RowG tPW6 1 vW ws.length (ws.map (wPtr PW.kr))) (Both (WInR sb rb ef S ws rs vr vR) Y)))) := h1.perm (by unfold WldI WInR; ac_rfl)
          refine (writer_put_nil ((WInR.stable _ _ _ _ _ _ _ _).both hY) h2 hF hn hi hil (wPtr_at PW.k hop) (wPtr_at PW.kr hop) hv (by omega)).mono ?_
          rintro e w' ⟨he, h3⟩
          exact ⟨he, _, hwi, rfl, h3.perm (by unfold WldI WInR; ac_rfl)⟩
        · rintro e w' ⟨he, X', rfl, h3⟩
          exact At.posts he rfl hP (by simp) (by omega) h3
      | some p =>
        have hw := hP.wr i p hop
        have hPy := hP.put hop ss (frame_le hlen) (putP_sim (S := S) hw.sim ss).2.2
        refine (step_pass2 (A := ⟨0, (putP S p.x ss).2.2, [], false, []⟩) (Q := fun X' => ∃ y', WSim (putP S p.x ss).2.1 y' ∧ X' = WldI kx sb rb ef (putP S p.x ss).1 (ws.set i (some ⟨p.k, p.kr, (putP S p.x ss).2.1, y'⟩)) rs vw vr vW vR) hwi h hv fun w1 Y hY h1 => ?_).mono ?_
        · have h2 : At W w1 (Both (CellT kx (wldC sb rb vw vr vW vR) tWld) (Both (RowG tPW 1 vw ws.length (ws.map (wPtr PW.k))) (Both (RowG tPW6 1 vW ws.length (ws.map (wPtr PW.kr))) (Both (WrT p.k sb ef p.x) (Both (StoreT sb S) (Both (RwT p.kr p.y) (Both (RefT rb S) (Both (RestW sb ef ws rs vr vR i) Y)))))))) := h1.perm (by rw [wld_pickW hop]; ac_rfl)
          refine (writer_put rfl h2 ((RestW.stable _ _ _ _ _ _ _).both hY) hF hP.good hw hn hi hil (wPtr_at PW.k hop) (wPtr_at PW.kr hop) hv ⟨frame_le hlen, by omega⟩ hsz.2.2.2.1 hPy.2).mono ?_
          rintro e w' ⟨he, y', hy, h3⟩
          exact ⟨he, _, WldI.stable kx sb rb ef (putP S p.x ss).1 (ws.set i (some ⟨p.k, p.kr, (putP S p.x ss).2.1, y'⟩)) rs vw vr vW vR, ⟨y', hy, rfl⟩, h3.perm (by rw [wld_putW hop]; ac_rfl)⟩
        · rintro e w' ⟨he, X', ⟨y', hy, rfl⟩, h3⟩
          exact At.posts he rfl (hP.put hop ss (frame_le hlen) hy).1 (by simp) (by omega) h3
  by_cases k3 : kk = 3
  · subst k3
    rcases Nat.eq_zero_or_pos ws.length with hz | hn
    · have hz := List.eq_nil_of_length_eq_zero hz
      subst hz
      refine (step_pass3 (A := ⟨0, 0, [], false, []⟩) (Q := fun X' => X' = WldI kx sb rb ef S [] rs vw vr vW vR) hwi h hv fun w1 Y hY h1 => ?_).mono ?_
      · have h2 : At W w1 (Both (CellT kx (wldC sb rb vw vr vW vR) tWld) (Both (RowG tPW 1 vw 0 []) (Both (NoW sb rb ef S rs vr vW vR) Y))) := h1.perm (by rw [wld_noW]; ac_rfl)
        refine (writer_none ((NoW.stable _ _ _ _ _ _ _ _).both hY) h2 hv).mono ?_
        rintro e w' ⟨he, h3⟩
        exact ⟨he, _, hwi, rfl, h3.perm (by rw [wld_noW]; ac_rfl)⟩
      · rintro e w' ⟨he, X', rfl, h3⟩
        exact At.posts he rfl hP (by simp) (by omega) h3
    · obtain ⟨i, hi, hil⟩ := place6_in (a := o2) hn
      obtain ⟨op, hop⟩ : ∃ op, ws[i]? = some op := ⟨_, List.getElem?_eq_getElem hil⟩
      cases op with
      | none =>
        refine (step_pass3 (A := ⟨0, 1, [], false, []⟩) (Q := fun X' => X' = WldI kx sb rb ef S ws rs vw vr vW vR) hwi h hv fun w1 Y hY h1 => ?_).mono ?_
        · have h2 : At W w1 (Both (CellT kx (wldC sb rb vw vr vW vR) tWld) (Both (RowG tPW 1 vw ws.length (ws.map (wPtr PW.k))) (Both (RowG tPW6 1 vW ws.length (ws.map (wPtr PW.kr))) (Both (WInR sb rb ef S ws rs vr vR) Y)))) := h1.perm (by unfold WldI WInR; ac_rfl)
          refine (writer_close_nil ((WInR.stable _ _ _ _ _ _ _ _).both hY) h2 hF hn hi hil (wPtr_at PW.k hop) (wPtr_at PW.kr hop) hv (by omega)).mono ?_
          rintro e w' ⟨he, h3⟩
          exact ⟨he, _, hwi, rfl, h3.perm (by unfold WldI WInR; ac_rfl)⟩
        · rintro e w' ⟨he, X', rfl, h3⟩
          exact At.posts he rfl hP (by simp) (by omega) h3
      | some p =>
        have hw := hP.wr i p hop
        have hPy := hP.close hop (closeP_sim (S := S) hw.sim).2.2
        refine (step_pass3 (A := ⟨(closeP S p.x).2.2.1, (closeP S p.x).2.2.2, [], false, []⟩) (Q := fun X' => ∃ y', WSim (closeP S p.x).2.1 y' ∧ X' = WldI kx sb rb ef (closeP S p.x).1 (ws.set i (some ⟨p.k, p.kr, (closeP S p.x).2.1, y'⟩)) rs vw vr vW vR) hwi h hv fun w1 Y hY h1 => ?_).mono ?_
        · have h2 : At W w1 (Both (CellT kx (wldC sb rb vw vr vW vR) tWld) (Both (RowG tPW 1 vw ws.length (ws.map (wPtr PW.k))) (Both (RowG tPW6 1 vW ws.length (ws.map (wPtr PW.kr))) (Both (WrT p.k sb ef p.x) (Both (StoreT sb S) (Both (RwT p.kr p.y) (Both (RefT rb S) (Both (RestW sb ef ws rs vr vR i) Y)))))))) := h1.perm (by rw [wld_pickW hop]; ac_rfl)
          refine (writer_close rfl h2 ((RestW.stable _ _ _ _ _ _ _).both hY) hF hP.good hw hn hi hil (wPtr_at PW.k hop) (wPtr_at PW.kr hop) hv hsz.2.2.2.1 hPy.2).mono ?_
          rintro e w' ⟨he, y', hy, h3⟩
          exact ⟨he, _, WldI.stable kx sb rb ef (closeP S p.x).1 (ws.set i (some ⟨p.k, p.kr, (closeP S p.x).2.1, y'⟩)) rs vw vr vW vR, ⟨y', hy, rfl⟩, h3.perm (by rw [wld_putW hop]; ac_rfl)⟩
        · rintro e w' ⟨he, X', ⟨y', hy, rfl⟩, h3⟩
          exact At.posts he rfl (hP.close hop hy).1 (by simp) (by omega) h3
  by_cases k4 : kk = 4
  · subst k4
    rcases Nat.eq_zero_or_pos ws.length with hz | hn
    · have hz := List.eq_nil_of_length_eq_zero hz
      subst hz
      refine (step_pass4 (A := ⟨0, 0, [], false, []⟩) (Q := fun X' => X' = WldI kx sb rb ef S [] rs vw vr vW vR) hwi h hv fun w1 Y hY h1 => ?_).mono ?_
      · have h2 : At W w1 (Both (CellT kx (wldC sb rb vw vr vW vR) tWld) (Both (RowG tPW 1 vw 0 []) (Both (NoW sb rb ef S rs vr vW vR) Y))) := h1.perm (by rw [wld_noW]; ac_rfl)
        refine (writer_none ((NoW.stable _ _ _ _ _ _ _ _).both hY) h2 hv).mono ?_
        rintro e w' ⟨he, h3⟩
        exact ⟨he, _, hwi, rfl, h3.perm (by rw [wld_noW]; ac_rfl)⟩
      · rintro e w' ⟨he, X', rfl, h3⟩
        exact At.posts he rfl hP (by simp) (by omega) h3
    · obtain ⟨i, hi, hil⟩ := place6_in (a := o2) hn
      obtain ⟨op, hop⟩ : ∃ op, ws[i]? = some op := ⟨_, List.getElem?_eq_getElem hil⟩
      cases op with
      | none =>
        refine (step_pass4 (A := ⟨0, 0, [], false, []⟩) (Q := fun X' => X' = WldI kx sb rb ef S ws rs vw vr vW vR) hwi h hv fun w1 Y hY h1 => ?_).mono ?_
        · have h2 : At W w1 (Both (CellT kx (wldC sb rb vw vr vW vR) tWld) (Both (RowG tPW 1 vw ws.length (ws.map (wPtr PW.k))) (Both (RowG tPW6 1 vW ws.length (ws.map (wPtr PW.kr))) (Both (WInR sb rb ef S ws rs vr vR) Y)))) := h1.perm (by unfold WldI WInR; ac_rfl)
          refine (writer_drop_nil ((WInR.stable _ _ _ _ _ _ _ _).both hY) h2 hF hn hi hil (wPtr_at PW.k hop) (wPtr_at PW.kr hop) hv (by omega)).mono ?_
          rintro e w' ⟨he, h3⟩
          exact ⟨he, _, hwi, rfl, h3.perm (by unfold WldI WInR; ac_rfl)⟩
        · rintro e w' ⟨he, X', rfl, h3⟩
          exact At.posts he rfl hP (by simp) (by omega) h3
      | some p =>
        have hw := hP.wr i p hop
        have hPy := hP.drop hop
        refine (step_pass4 (A := ⟨0, 0, [], false, []⟩) (Q := fun X' => X' = WldI kx sb rb ef (dropP S p.x).1 (ws.set i (some ⟨p.k, p.kr, (dropP S p.x).2, (dropP S p.y).2⟩)) rs vw vr vW vR) hwi h hv fun w1 Y hY h1 => ?_).mono ?_
        · have h2 : At W w1 (Both (CellT kx (wldC sb rb vw vr vW vR) tWld) (Both (RowG tPW 1 vw ws.length (ws.map (wPtr PW.k))) (Both (RowG tPW6 1 vW ws.length (ws.map (wPtr PW.kr))) (Both (WrT p.k sb ef p.x) (Both (StoreT sb S) (Both (RwT p.kr p.y) (Both (RefT rb S) (Both (RestW sb ef ws rs vr vR i) Y)))))))) := h1.perm (by rw [wld_pickW hop]; ac_rfl)
          refine (writer_drop rfl h2 ((RestW.stable _ _ _ _ _ _ _).both hY) hF hP.good hw hn hi hil (wPtr_at PW.k hop) (wPtr_at PW.kr hop) hv hsz.2.2.2.1 hPy.2).mono ?_
          rintro e w' ⟨he, h3⟩
          exact ⟨he, _, WldI.stable kx sb rb ef (dropP S p.x).1 (ws.set i (some ⟨p.k, p.kr, (dropP S p.x).2, (dropP S p.y).2⟩)) rs vw vr vW vR, rfl, h3.perm (by rw [wld_putW hop]; ac_rfl)⟩
        · rintro e w' ⟨he, X', rfl, h3⟩
          exact At.posts he rfl hPy.1 (by simp) (by omega) h3
  by_cases k6 : kk = 6
  · subst k6
    rcases Nat.eq_zero_or_pos rs.length with hz | hn
    · have hz := List.eq_nil_of_length_eq_zero hz
      subst hz
      have h2 : At W w (Both (CellT kx (wldC sb rb vw vr vW vR) tWld) (Both (RowG tPR 1 vr 0 []) (NoR sb rb ef S ws vw vW vR))) := h.perm wld_noR
      refine (step_next_none (NoR.stable _ _ _ _ _ _ _ _) h2 hv).mono ?_
      rintro e w' ⟨he, h3⟩
      exact At.posts he rfl hP (by simp) (by omega) (h3.perm wld_noR.symm)
    · obtain ⟨i, hi, hil⟩ := place6_in (a := o2) hn
      obtain ⟨op, hop⟩ : ∃ op, rs[i]? = some op := ⟨_, List.getElem?_eq_getElem hil⟩
      cases op with
      | none =>
        have h2 : At W w (Both (CellT kx (wldC sb rb vw vr vW vR) tWld) (Both (RowG tPR 1 vr rs.length (rs.map (rPtr PR.k))) (Both (RowG tPR6 1 vR rs.length (rs.map (rPtr PR.kr))) (RInR sb rb ef S ws rs vw vW)))) := h.perm (by unfold WldI RInR; ac_rfl)
        refine (step_next_nil (RInR.stable _ _ _ _ _ _ _ _) h2 hF hn hi hil (rPtr_at PR.k hop) (rPtr_at PR.kr hop) hv).mono ?_
        rintro e w' ⟨he, h3⟩
        exact At.posts he rfl hP (by simp) (by omega) (h3.perm (show _ = WldI kx sb rb ef S ws rs vw vr vW vR by unfold WldI RInR; ac_rfl))
      | some p =>
        obtain ⟨hn1, hn2⟩ := hP.next hop
        have hr := hP.rd i p hop
        have h2 : At W w (Both (CellT kx (wldC sb rb vw vr vW vR) tWld) (Both (RowG tPR 1 vr rs.length (rs.map (rPtr PR.k))) (Both (RowG tPR6 1 vR rs.length (rs.map (rPtr PR.kr))) (Both (RdT p.k sb ef p.x) (Both (StoreT sb S) (Both (RrT p.kr p.v p.l p.i p.aft) (RestR sb rb ef S ws rs vw vW i))))))) := h.perm (wld_pickR hop)
        have hrun : inI64 (p.x.run : Int) := by
          obtain ⟨q, hq, _⟩ := hr.has
          have := (hP.good.inside q (find_mem hq).1).2
          have := (find_mem hq).2
          unfold inI64
          omega
        refine (step_next_live rfl h2 (RestR.stable _ _ _ _ _ _ _ _ _) hF hr hn2 hrun hn hi hil (rPtr_at PR.k hop) (rPtr_at PR.kr hop) hv).mono ?_
        rintro e w' ⟨he, h3⟩
        exact At.posts he rfl hn1 (by simp) (by simp) (h3.perm (wld_putR (q := ⟨p.k, p.kr, (nextL (p.x.fin - p.x.pos + 1) S p.x).1, p.v, p.T, p.l, if p.i < p.l.length then p.i + 1 else p.i, p.aft⟩) hop rfl rfl).symm)
  have hOW : At W w (Both (CellT kx (wldC sb rb vw vr vW vR) tWld) (Both (RowG tPW 1 vw ws.length (ws.map (wPtr PW.k))) (Both (RowG tPW6 1 vW ws.length (ws.map (wPtr PW.kr))) (Both (StoreT sb S) (Both (RefT rb S) (Both (RowG tPR 1 vr rs.length (rs.map (rPtr PR.k))) (Both (RowG tPR6 1 vR rs.length (rs.map (rPtr PR.kr))) (ObjsT sb ef ws rs)))))))) := h.perm (by unfold WldI; ac_rfl)
  have hSW : Stable (Both (RowG tPR 1 vr rs.length (rs.map (rPtr PR.k))) (Both (RowG tPR6 1 vR rs.length (rs.map (rPtr PR.kr))) (ObjsT sb ef ws rs))) := (RowG.stable _ _ _ _ _).both ((RowG.stable _ _ _ _ _).both (ObjsT.stable _ _ _ _))
  have hOR : At W w (Both (CellT kx (wldC sb rb vw vr vW vR) tWld) (Both (RowG tPR 1 vr rs.length (rs.map (rPtr PR.k))) (Both (RowG tPR6 1 vR rs.length (rs.map (rPtr PR.kr))) (Both (StoreT sb S) (Both (RefT rb S) (Both (RowG tPW 1 vw ws.length (ws.map (wPtr PW.k))) (Both (RowG tPW6 1 vW ws.length (ws.map (wPtr PW.kr))) (ObjsT sb ef ws rs)))))))) := h.perm (by unfold WldI; ac_rfl)
  have hSR : Stable (Both (RowG tPW 1 vw ws.length (ws.map (wPtr PW.k))) (Both (RowG tPW6 1 vW ws.length (ws.map (wPtr PW.kr))) (ObjsT sb ef ws rs))) := (RowG.stable _ _ _ _ _).both ((RowG.stable _ _ _ _ _).both (ObjsT.stable _ _ _ _))
  by_cases k1 : kk = 1
  · subst k1
    by_cases hlim : o3 < 1 ∨ 4096 < o3
    · refine (step_open (S' := S) (X := fun _ => Nought) (Y := fun _ => Nought) (c := 2) (mo := false) (fun _ => Stable.nought) (fun _ => Stable.nought) hSW hF hOW (by omega) hv okC_limits (fun _ => none) (fun _ => none) (fun _ _ => by kernel_rfl) (fun _ _ => by kernel_rfl) (fun w1 R hR h1 => ?_) (fun w1 R hR h1 => ?_)).mono ?_
      · refine (Open_limits h1 hR (fails12_11 hF) hlim).mono ?_
        rintro e w' ⟨rfl, h2⟩
        exact ⟨0, rfl, h2.impl fun _ q => Both.nought q⟩
      · refine (rOpen_limits h1 hlim).mono ?_
        rintro e w' ⟨rfl, h2⟩
        exact ⟨0, rfl, h2.impl fun _ q => Both.nought q⟩
      · rintro e w' ⟨he, k, kr, vw', vW', h3⟩
        exact At.posts he rfl hP.addW0 (by simp) (by omega) (h3.perm (wld_moreW none).symm)
    · obtain ⟨n, rfl⟩ : ∃ n : Nat, o3 = n := ⟨o3.toNat, by omega⟩
      have hn : 1 ≤ n ∧ n ≤ 4096 := by omega
      by_cases hc : (createP S).2.2 = 0
      · refine (step_open (S' := (createP S).1) (X := fun k => WrT k sb ef ⟨(createP S).2.1, n, [], 0⟩) (Y := fun k => RwT k ⟨(createP S).2.1, n, [], 0⟩) (c := 0) (mo := true) (fun _ => WrT.stable _ _ _ _) (fun _ => RwT.stable _ _) hSW hF hOW (by omega) hv okC_zero (fun k => some ⟨k, 0, none⟩) (fun k => some ⟨k, 0, none⟩) (fun _ _ => by kernel_rfl) (fun _ _ => by kernel_rfl) (fun w1 R hR h1 => ?_) (fun w1 R hR h1 => ?_)).mono ?_
        · refine (Open_ok h1 hR (fails12_11 hF) hn hc).mono ?_
          rintro e w' ⟨k, rfl, h2⟩
          exact ⟨k, rfl, h2⟩
        · refine (rOpen_ok h1 hR hP.good hn hc).mono ?_
          rintro e w' ⟨k, rfl, h2⟩
          exact ⟨k, rfl, h2⟩
        · rintro e w' ⟨he, k, kr, vw', vW', h3⟩
          exact At.posts he rfl (hP.addW hc k kr n hn) (by simp) (by omega) (h3.perm (wld_moreW (some ⟨k, kr, ⟨(createP S).2.1, n, [], 0⟩, ⟨(createP S).2.1, n, [], 0⟩⟩)).symm)
      · refine (step_open (S' := (createP S).1) (X := fun _ => Nought) (Y := fun _ => Nought) (c := (createP S).2.2) (mo := false) (fun _ => Stable.nought) (fun _ => Stable.nought) hSW hF hOW (by omega) hv (okC_made S) (fun _ => none) (fun _ => none) (fun _ _ => by kernel_rfl) (fun _ _ => by kernel_rfl) (fun w1 R hR h1 => ?_) (fun w1 R hR h1 => ?_)).mono ?_
        · refine (Open_fail h1 hR (fails12_11 hF) hn hc).mono ?_
          rintro e w' ⟨rfl, h2⟩
          exact ⟨0, rfl, h2.impl fun _ q => Both.nought q⟩
        · refine (rOpen_fail h1 hR hP.good hn hc).mono ?_
          rintro e w' ⟨rfl, h2⟩
          exact ⟨0, rfl, h2.impl fun _ q => Both.nought q⟩
        · rintro e w' ⟨he, k, kr, vw', vW', h3⟩
          exact At.posts he rfl (hP.step (step_create hP.good)).addW0 (by simp) (by omega) (h3.perm (wld_moreW none).symm)
  have k5 : kk = 5 := by omega
  subst k5
  by_cases hlim : o3 < 1 ∨ 4096 < o3
  · refine (step_from (κ := Nat) (X := fun _ => Nought) (Y := fun _ => Nought) (c := 2) (mo := false) (fun _ => Stable.nought) (fun _ => Stable.nought) hSR hF hOR (by omega) hv okC_limits (fun _ => none) (fun _ => none) (fun _ _ => by kernel_rfl) (fun _ _ => by kernel_rfl) (fun w1 R hR h1 => ?_) (fun w1 R hR h1 => ?_)).mono ?_
    · refine (From_limits h1 hR (fails12_10 hF) hlim).mono ?_
      rintro e w' ⟨rfl, h2⟩
      exact ⟨0, rfl, h2.impl fun _ q => Both.nought q⟩
    · refine (rFrom_limits h1 hlim).mono ?_
      rintro e w' ⟨rfl, h2⟩
      exact ⟨0, rfl, h2.impl fun _ q => Both.nought q⟩
    · rintro e w' ⟨he, k, kr, vr', vR', h3⟩
      exact At.posts he rfl hP.addR0 (by omega) (by simp) (h3.perm (wld_moreR none).symm)
  · obtain ⟨n, rfl⟩ : ∃ n : Nat, o3 = n := ⟨o3.toNat, by omega⟩
    have hn : 1 ≤ n ∧ n ≤ 4096 := by omega
    by_cases hc : readC S o2 0 0 = 0
    · obtain ⟨r, T, rfl, hT, hsz1, hsz2, hlT, hnew⟩ := hP.from_ (n := n) hc hn.1
      refine (step_from (κ := Nat × Value) (X := fun k => RdT k sb ef ⟨r, n, 0, T.length, [], 0⟩) (Y := fun q => RrT q.1 q.2 (headsL T).1 0 (if (headsL T).2 = 0 then 0 else 11)) (c := 0) (mo := true) (fun _ => RdT.stable _ _ _ _) (fun _ => RrT.stable _ _ _ _ _) hSR hF hOR (by omega) hv okC_zero (fun k => some ⟨k, 0, none⟩) (fun q => some ⟨q.1, 0, none⟩) (fun _ _ => by kernel_rfl) (fun _ _ => by kernel_rfl) (fun w1 R hR h1 => ?_) (fun w1 R hR h1 => ?_)).mono ?_
      · refine (From_ok h1 hR (fails12_10 hF) hn ho2 hc hsz2).mono ?_
        rintro e w' ⟨k, rfl, h2⟩
        rw [hsz1] at h2
        exact ⟨k, rfl, h2⟩
      · refine (rFrom_ok h1 hR hP.good ho2 hn hc (by omega) hT).mono ?_
        rintro e w' ⟨k, v', rfl, h2⟩
        exact ⟨(k, v'), rfl, h2⟩
      · rintro e w' ⟨he, k, ⟨kr, v'⟩, vr', vR', h3⟩
        exact At.posts he rfl (hnew k kr v') (by omega) (by simp) (h3.perm (wld_moreR (some ⟨k, kr, ⟨r, n, 0, T.length, [], 0⟩, v', T, (headsL T).1, 0, if (headsL T).2 = 0 then 0 else 11⟩)).symm)
    · refine (step_from (κ := Nat) (X := fun _ => Nought) (Y := fun _ => Nought) (c := readC S o2 0 0) (mo := false) (fun _ => Stable.nought) (fun _ => Stable.nought) hSR hF hOR (by omega) hv (okC_from S o2) (fun _ => none) (fun _ => none) (fun _ _ => by kernel_rfl) (fun _ _ => by kernel_rfl) (fun w1 R hR h1 => ?_) (fun w1 R hR h1 => ?_)).mono ?_
      · refine (From_fail h1 hR (fails12_10 hF) hn ho2 hc).mono ?_
        rintro e w' ⟨rfl, h2⟩
        exact ⟨0, rfl, h2.impl fun _ q => Both.nought q⟩
      · refine (rFrom_fail h1 hP.good ho2 hn hc).mono ?_
        rintro e w' ⟨rfl, h2⟩
        exact ⟨0, rfl, h2.impl fun _ q => Both.nought q⟩
      · rintro e w' ⟨he, k, kr, vr', vR', h3⟩
        exact At.posts he rfl hP.addR0 (by omega) (by simp) (h3.perm (wld_moreR none).symm)
end
end Go.Proofs.YtiimpnhjnodgpaaDoor
