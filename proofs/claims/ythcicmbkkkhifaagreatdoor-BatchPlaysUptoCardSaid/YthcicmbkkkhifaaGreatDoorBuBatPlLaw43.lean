/- (*hornbooklaw09.world).step walked: New. · (*hornbooklaw09.world).step walked: Break, what lies in the store, Remove, calls of no kind. · (*hornbooklaw09.world).step walked: Remove; a former's call. · (*hornbooklaw09.world).step walked: a former's call. · batch: an argument '[]Op', opened. · (*hornbooklaw09.world).step at any call of a script. -/
import Derived.Test.YthcicmbkkkhifaaGreatDoorBuBatPlLaw42
import Derived.Test.YthcicmbkkkhifaaGreatDoorBuBatPlLaw34
import Derived.Test.YthcicmbkkkhifaaGreatDoorBuBatPlLaw25
import Derived.Test.YthcicmbkkkhifaaGreatDoorBuBatPlLaw11
import Derived.Test.YthcicmbkkkhifaaGreatDoorBuBatPlLaw36
set_option linter.unusedSimpArgs false
set_option linter.unusedVariables false
namespace Go.Proofs.YthcicmbkkkhifaaGreatDoor
open Go.RowKit

abbrev tBF : TypeId := 32
abbrev tBG : TypeId := 37
theorem info_PF : (Tryz.prog.info? tBF).map (fun i => (i.zero, i.size, i.bytes)) = some (some (.pointer none), 1, 8) := by kernel_rfl
theorem info_PG : (Tryz.prog.info? tBG).map (fun i => (i.zero, i.size, i.bytes)) = some (some (.pointer none), 1, 8) := by kernel_rfl
section
variable {W w : World} {Φ : Thing} {kx sb rb : Nat} {ef : Nat → Nat × Nat} {S : St} {fv gv : Value} {n : Nat} {As Bs : List Value}
set_option maxRecDepth 100000 in
set_option maxHeartbeats 100000000 in
theorem step_new {X Y : Nat → Thing} (hXs : ∀ k, Stable (X k)) (hYs : ∀ k, Stable (Y k)) (hΦ : Stable Φ) (hF : Fails W ef fails13) (h : At W w (Both (CellT kx (wl9C sb rb fv gv) tWl9) (Both (RowG tBF 1 fv n As) (Both (RowG tBG 1 gv n Bs) (Both (StoreT sb S) (Both (RefT rb S) Φ)))))) (hn : n ≤ 1099511627776) {o2 o3 : Int} (ho2 : inI64 o2) (av : Option Addr) (cl cv : Nat) {c : Nat} (hok : okB c ∨ c = 1 ∨ c = 2) (pa pb : Nat → Option Addr) {mo : Bool} (hma : ∀ k wz, (binOp .eql tBF (.pointer (pa k)) (.pointer none)).run Tryz.prog wz = .ok (.bool mo) wz) (hmb : ∀ k wz, (binOp .eql tBG (.pointer (pb k)) (.pointer none)).run Tryz.prog wz = .ok (.bool mo) wz)
    (hA : ∀ w1 R, Stable R → At W w1 R → Calls Tryz.prog 9 #[.pointer (some ⟨sb, 0, none⟩), .int .i64 o3] w1 fun e w' => ∃ k, e = .returned (.tuple #[.pointer (pa k), errV ef c]) ∧ At W w' (Both (X k) R))
    (hB : ∀ w1 R, Stable R → At W w1 R → Calls Tryz.prog 10 #[.int .i64 o3] w1 fun e w' => ∃ k, e = .returned (.tuple #[.pointer (pb k), .int .i64 c]) ∧ At W w' (Both (Y k) R)) :
    Calls Tryz.prog 22 #[.pointer (some ⟨kx, 0, none⟩), .agg #[.int .i64 1, .int .i64 o2, .int .i64 o3, .slice av cl cv]] w fun e w' => e = .returned (.bool true) ∧ ∃ k kr vw' vW', At W w' (Both (CellT kx (wl9C sb rb vw' vW') tWl9) (Both (RowG tBF 1 vw' (n + 1) (As ++ [.pointer (pa k)])) (Both (RowG tBG 1 vW' (n + 1) (Bs ++ [.pointer (pb kr)])) (Both (X k) (Both (Y kr) (Both (StoreT sb S) (Both (RefT rb S) Φ))))))) := by
  obtain ⟨ao, cp, rfl, hcp1, hcp2⟩ := own_shape h.drop.rowG
  have hst : Stable (Both (CellT kx (wl9C sb rb (.slice ao n cp) gv) tWl9) (Both (RowG tBF 1 (.slice ao n cp) n As) (Both (RowG tBG 1 gv n Bs) (Both (StoreT sb S) (Both (RefT rb S) Φ))))) := (CellT.stable _ _ _).both ((RowG.stable _ _ _ _ _).both ((RowG.stable _ _ _ _ _).both ((StoreT.stable _ _).both ((RefT.stable _ _).both hΦ))))
  have h0 := h.newCell hst #[.int .i64 1, .int .i64 o2, .int .i64 o3, .slice av cl cv] tOp9
  have H0 := Lib.hid h0
  have b0 := cell_at h0.cell.1 0
  have b1 := cell_at h0.cell.1 1
  have b2 := cell_at h0.cell.1 2
  have lb := lt_of_heap h0.cell.1
  have c0 := cell_at h0.drop.cell.1 0
  have c1 := cell_at h0.drop.cell.1 1
  have lx := lt_of_heap h0.drop.cell.1
  simp only [List.getElem?_toArray, List.getElem?_cons_zero, List.getElem?_cons_succ] at b0 b1 b2 c0 c1
  have hwn : IntKind.i64.wrap ((n : Int) - 1) = (n : Int) - 1 := by rw [IntKind.wrap_i64] <;> omega
  have HA := Lib.hid hA
  have HB := Lib.hid hB
  have HF := Lib.hid hF
  have HOK := Lib.hid hok
  have HCP := Lib.hid (And.intro hcp1 hcp2)
  have HO2 := Lib.hid ho2
  clear h h0 hA hB hF hok hcp1 hcp2 ho2
  have hcs : o2 < 0 ∨ (¬ o2 < 0 ∧ (n : Int) ≤ o2) ∨ (¬ o2 < 0 ∧ ¬ (n : Int) ≤ o2) := by omega
  rcases hcs with h1 | ⟨h1, h2⟩ | ⟨h1, h2⟩
  all_goals
    go_enter Tryz.func22, Tryz.ntmps22
    go_upto_region 6 with (fail)
    generalize w.alloc _ = w1 at *
    generalize w.heap.size = s at *
    generalize hfv : (Value.slice ao n cp : Value) = fv at *
    clear b0
    have hcg := And.intro c0 b2
    have h6 : At W w1.drew (Both (CellT s #[.int .i64 1, .int .i64 o2, .int .i64 o3, .slice av cl cv] tOp9) (Both (CellT kx (wl9C sb rb fv gv) tWl9) (Both (RowG tBF 1 fv n As) (Both (RowG tBG 1 gv n Bs) (Both (StoreT sb S) (Both (RefT rb S) Φ)))))) := H0.out.mono ((CellT.stable _ _ _).both hst) (Below.refl _ _).drew
    have HAA := Lib.hid (HA.out _ _ ((CellT.stable _ _ _).both hst) h6)
    have hst8 := fun k => (CellT.stable s #[.int .i64 1, .int .i64 o2, .int .i64 o3, .slice av cl cv] tOp9).both ((CellT.stable kx (wl9C sb rb fv gv) tWl9).both ((RowG.stable tBF 1 fv n As).both ((RowG.stable tBG 1 gv n Bs).both ((hXs k).both ((StoreT.stable sb S).both ((RefT.stable rb S).both hΦ))))))
    clear h6 HA b2 c0 c1
    (repeat' (first | (go_big_may; fail) | go_values | go_skip | go_guarded | go_step | go_upon | go_back | dsimp only))
    go_region_held3 (fun wx => wx.cell? ⟨kx, 0, none⟩ = some (.pointer (some ⟨sb, 0, none⟩)) ∧ wx.cell? ⟨s, 2, none⟩ = some (.int .i64 o3)) (first | assumption | go_keep) (first
      | (go_at_call 9; refine HAA.out.mono ?_; rintro e w8 ⟨k, rfl, h7⟩
         have h8 := h7.perm (show _ = Both (CellT s #[.int .i64 1, .int .i64 o2, .int .i64 o3, .slice av cl cv] tOp9) (Both (CellT kx (wl9C sb rb fv gv) tWl9) (Both (RowG tBF 1 fv n As) (Both (RowG tBG 1 gv n Bs) (Both (X k) (Both (StoreT sb S) (Both (RefT rb S) Φ)))))) by ac_rfl)
         have q0 := cell_at h8.drop.cell.1 0
         have q2 := cell_at h8.cell.1 2
         have cg8 := And.intro q0 q2
         have H8 := Lib.hid h8
         clear h7 h8))
    have b2 := cell_at H8.out.cell.1 2
    have ls8 := lt_of_heap H8.out.cell.1
    simp only [List.getElem?_toArray, List.getElem?_cons_zero, List.getElem?_cons_succ] at b2
    have HBB := Lib.hid (HB.out _ _ (hst8 k) H8.out)
    clear HAA H0 hcg cg8 q0 q2 HB lb lx
    (repeat' (first | (go_big_may; fail) | go_values | go_skip | go_guarded | go_step | go_upon | go_back | dsimp only))
    refine HBB.out.mono ?_
    rintro e w9 ⟨kr, rfl, h9⟩
    have H15 := Lib.hid (h9.perm (show _ = Both (CellT s #[.int .i64 1, .int .i64 o2, .int .i64 o3, .slice av cl cv] tOp9) (Both (CellT kx (wl9C sb rb fv gv) tWl9) (Both (RowG tBF 1 fv n As) (Both (RowG tBG 1 gv n Bs) (Both (X k) (Both (Y kr) (Both (StoreT sb S) (Both (RefT rb S) Φ))))))) by ac_rfl))
    clear h9 H8 HBB b2 ls8 hst8
    (repeat' (first | (go_big_may; fail) | go_values | go_skip | go_guarded | go_step | go_upon | go_back | dsimp only))
    have q1 := cell_at H15.out.drop.cell.1 1
    have q4 := cell_at H15.out.drop.cell.1 3
    have lkx := lt_of_heap H15.out.drop.cell.1
    simp only [List.getElem?_toArray, List.getElem?_cons_zero, List.getElem?_cons_succ] at q1 q4
    have hst9 := (CellT.stable s #[.int .i64 1, .int .i64 o2, .int .i64 o3, .slice av cl cv] tOp9).both ((CellT.stable kx (wl9C sb rb fv gv) tWl9).both ((RowG.stable tBF 1 fv n As).both ((RowG.stable tBG 1 gv n Bs).both ((hXs k).both ((hYs kr).both ((StoreT.stable sb S).both ((RefT.stable rb S).both hΦ)))))))
    have hst10 := (CellT.stable s #[.int .i64 1, .int .i64 o2, .int .i64 o3, .slice av cl cv] tOp9).both ((CellT.stable kx (wl9C sb rb fv gv) tWl9).both ((RowG.stable tBG 1 gv n Bs).both ((hXs k).both ((hYs kr).both ((StoreT.stable sb S).both ((RefT.stable rb S).both hΦ))))))
    have hst11 := fun v1 : Value => (CellT.stable s #[.int .i64 1, .int .i64 o2, .int .i64 o3, .slice av cl cv] tOp9).both ((CellT.stable kx (wl9C sb rb fv gv) tWl9).both ((RowG.stable tBF 1 v1 (n + 1) (As ++ [.pointer (pa k)])).both ((hXs k).both ((hYs kr).both ((StoreT.stable sb S).both ((RefT.stable rb S).both hΦ))))))
    have hvw : ∀ g ∈ rowOf fv, g < w9.heap.size := fun g hg => (H15.out.drop.drop.rowG.lt g (mem_rowOf.1 hg)).2
    go_cut [57] (fun v57 wx => ∃ ao1 cp1 ao2 cp2, At W wx (Both (CellT s #[.int .i64 1, .int .i64 o2, .int .i64 o3, .slice av cl cv] tOp9) (Both (CellT kx (wl9C sb rb (.slice ao1 (n + 1) cp1) (.slice ao2 (n + 1) cp2)) tWl9) (Both (RowG tBF 1 (.slice ao1 (n + 1) cp1) (n + 1) (As ++ [.pointer (pa k)])) (Both (RowG tBG 1 (.slice ao2 (n + 1) cp2) (n + 1) (Bs ++ [.pointer (pb kr)])) (Both (X k) (Both (Y kr) (Both (StoreT sb S) (Both (RefT rb S) Φ)))))))))
    case first =>
      refine wp_only ?_
      rename_i J K' hJ hK
      have HJ := Lib.hid hJ
      have HK := Lib.hid hK
      clear hJ hK
      have hS9 : w9.drew.cell? ⟨kx, 1, none⟩ = some fv ∧ w9.drew.cell? ⟨kx, 3, none⟩ = some gv := ⟨q1, q4⟩
      refine wpL.start (fun l wx => (l.getD 8 true = false → wx.cell? ⟨kx, 1, none⟩ = some fv) ∧ (l.getD 15 true = false → wx.cell? ⟨kx, 3, none⟩ = some gv)) (by kernel_rfl) ⟨fun _ => hS9.1, fun _ => hS9.2⟩ (fun hHeld => ?_)
      refine wpL.take (i := 0) (v := ?_) rfl (by kernel_rfl) (by kernel_rfl) (by kernel_rfl) (fun _ _ _ h => h) (fun l w => by (try dsimp only); rw [getD_set_ne true (show 0 ≠ 8 by decide), getD_set_ne true (show 0 ≠ 15 by decide)]) (Or.inl ⟨by rfl, ?_⟩) hHeld (fun hH2 => ?_)
      rotate_left
      next => (intro w hSw; go_simp; (try with_reducible rfl))
      clear hHeld
      have hHeld := hH2
      clear hH2
      (try simp only [List.getElem_toArray, List.getElem_cons_zero, List.getElem_cons_succ, Act.put, List.setIfInBounds_toArray, List.set_cons_zero, List.set_cons_succ])
      refine wpL.take (i := 1) (v := ?_) rfl (by kernel_rfl) (by kernel_rfl) (by kernel_rfl) (fun _ _ _ h => h) (fun l w => by (try dsimp only); rw [getD_set_ne true (show 1 ≠ 8 by decide), getD_set_ne true (show 1 ≠ 15 by decide)]) (Or.inl ⟨by rfl, ?_⟩) hHeld (fun hH2 => ?_)
      rotate_left
      next => (intro w hSw; go_simp; (try with_reducible rfl))
      clear hHeld
      have hHeld := hH2
      clear hH2
      (try simp only [List.getElem_toArray, List.getElem_cons_zero, List.getElem_cons_succ, Act.put, List.setIfInBounds_toArray, List.set_cons_zero, List.set_cons_succ])
      refine wpL.take (i := 2) (v := ?_) rfl (by kernel_rfl) (by kernel_rfl) (by kernel_rfl) (fun _ _ _ h => h) (fun l w => by (try dsimp only); rw [getD_set_ne true (show 2 ≠ 8 by decide), getD_set_ne true (show 2 ≠ 15 by decide)]) (Or.inl ⟨by rfl, ?_⟩) hHeld (fun hH2 => ?_)
      rotate_left
      next => (intro w hSw; go_simp; (try with_reducible rfl))
      clear hHeld
      have hHeld := hH2
      clear hH2
      (try simp only [List.getElem_toArray, List.getElem_cons_zero, List.getElem_cons_succ, Act.put, List.setIfInBounds_toArray, List.set_cons_zero, List.set_cons_succ])
      refine wpL.take (i := 3) (v := ?_) rfl (by kernel_rfl) (by kernel_rfl) (by kernel_rfl) (fun _ _ _ h => h) (fun l w => by (try dsimp only); rw [getD_set_ne true (show 3 ≠ 8 by decide), getD_set_ne true (show 3 ≠ 15 by decide)]) (Or.inl ⟨by rfl, ?_⟩) hHeld (fun hH2 => ?_)
      rotate_left
      next => (intro w hSw; go_simp; (try with_reducible rfl))
      clear hHeld
      have hHeld := hH2
      clear hH2
      (try simp only [List.getElem_toArray, List.getElem_cons_zero, List.getElem_cons_succ, Act.put, List.setIfInBounds_toArray, List.set_cons_zero, List.set_cons_succ])
      refine wpL.take (i := 4) (v := ?_) rfl (by kernel_rfl) (by kernel_rfl) (by kernel_rfl) (fun _ _ _ h => h) (fun l w => by (try dsimp only); rw [getD_set_ne true (show 4 ≠ 8 by decide), getD_set_ne true (show 4 ≠ 15 by decide)]) (Or.inl ⟨by rfl, ?_⟩) hHeld (fun hH2 => ?_)
      rotate_left
      next => (intro w hSw; go_simp; (try with_reducible rfl))
      clear hHeld
      have hHeld := hH2
      clear hH2
      (try simp only [List.getElem_toArray, List.getElem_cons_zero, List.getElem_cons_succ, Act.put, List.setIfInBounds_toArray, List.set_cons_zero, List.set_cons_succ])
      refine wpL.takeG (i := 5) (g := 8) (v := ?_) (T := fun wx => wx.cell? ⟨kx, 1, none⟩ = some fv) rfl rfl (by kernel_rfl) (by kernel_rfl) (by kernel_rfl) (by kernel_rfl) (by kernel_rfl) (fun _ _ _ h => h) (fun l w hl hS => hS.1 hl) (fun l w => by (try dsimp only); rw [getD_set_ne true (show 5 ≠ 8 by decide), getD_set_ne true (show 5 ≠ 15 by decide)]) (Or.inl ⟨by rfl, ?_⟩) hHeld (fun hH2 => ?_)
      rotate_left
      next => (intro w hSw; (try dsimp only at hSw); go_simp; (try with_reducible rfl))
      clear hHeld
      have hHeld := hH2
      clear hH2
      (try simp only [List.getElem_toArray, List.getElem_cons_zero, List.getElem_cons_succ, Act.put, List.setIfInBounds_toArray, List.set_cons_zero, List.set_cons_succ])
      refine wpL.take (i := 6) (v := ?_) rfl (by kernel_rfl) (by kernel_rfl) (by kernel_rfl) (fun _ _ _ h => h) (fun l w => by (try dsimp only); rw [getD_set_ne true (show 6 ≠ 8 by decide), getD_set_ne true (show 6 ≠ 15 by decide)]) (Or.inl ⟨by rfl, ?_⟩) hHeld (fun hH2 => ?_)
      rotate_left
      next => (intro w hSw; go_simp; (try with_reducible rfl))
      clear hHeld
      have hHeld := hH2
      clear hH2
      (try simp only [List.getElem_toArray, List.getElem_cons_zero, List.getElem_cons_succ, Act.put, List.setIfInBounds_toArray, List.set_cons_zero, List.set_cons_succ])
      refine wpL.take (i := 9) (v := ?_) rfl (by kernel_rfl) (by kernel_rfl) (by kernel_rfl) (fun _ _ _ h => h) (fun l w => by (try dsimp only); rw [getD_set_ne true (show 9 ≠ 8 by decide), getD_set_ne true (show 9 ≠ 15 by decide)]) (Or.inl ⟨by rfl, ?_⟩) hHeld (fun hH2 => ?_)
      rotate_left
      next => (intro w hSw; go_simp; (try with_reducible rfl))
      clear hHeld
      have hHeld := hH2
      clear hH2
      (try simp only [List.getElem_toArray, List.getElem_cons_zero, List.getElem_cons_succ, Act.put, List.setIfInBounds_toArray, List.set_cons_zero, List.set_cons_succ])
      refine wpL.take (i := 10) (v := ?_) rfl (by kernel_rfl) (by kernel_rfl) (by kernel_rfl) (fun _ _ _ h => h) (fun l w => by (try dsimp only); rw [getD_set_ne true (show 10 ≠ 8 by decide), getD_set_ne true (show 10 ≠ 15 by decide)]) (Or.inl ⟨by rfl, ?_⟩) hHeld (fun hH2 => ?_)
      rotate_left
      next => (intro w hSw; go_simp; (try with_reducible rfl))
      clear hHeld
      have hHeld := hH2
      clear hH2
      (try simp only [List.getElem_toArray, List.getElem_cons_zero, List.getElem_cons_succ, Act.put, List.setIfInBounds_toArray, List.set_cons_zero, List.set_cons_succ])
      refine wpL.take (i := 11) (v := ?_) rfl (by kernel_rfl) (by kernel_rfl) (by kernel_rfl) (fun _ _ _ h => h) (fun l w => by (try dsimp only); rw [getD_set_ne true (show 11 ≠ 8 by decide), getD_set_ne true (show 11 ≠ 15 by decide)]) (Or.inl ⟨by rfl, ?_⟩) hHeld (fun hH2 => ?_)
      rotate_left
      next => (intro w hSw; go_simp; (try with_reducible rfl))
      clear hHeld
      have hHeld := hH2
      clear hH2
      (try simp only [List.getElem_toArray, List.getElem_cons_zero, List.getElem_cons_succ, Act.put, List.setIfInBounds_toArray, List.set_cons_zero, List.set_cons_succ])
      refine wpL.takeG (i := 12) (g := 15) (v := ?_) (T := fun wx => wx.cell? ⟨kx, 3, none⟩ = some gv) rfl rfl (by kernel_rfl) (by kernel_rfl) (by kernel_rfl) (by kernel_rfl) (by kernel_rfl) (fun _ _ _ h => h) (fun l w hl hS => hS.2 hl) (fun l w => by (try dsimp only); rw [getD_set_ne true (show 12 ≠ 8 by decide), getD_set_ne true (show 12 ≠ 15 by decide)]) (Or.inl ⟨by rfl, ?_⟩) hHeld (fun hH2 => ?_)
      rotate_left
      next => (intro w hSw; (try dsimp only at hSw); go_simp; (try with_reducible rfl))
      clear hHeld
      have hHeld := hH2
      clear hH2
      (try simp only [List.getElem_toArray, List.getElem_cons_zero, List.getElem_cons_succ, Act.put, List.setIfInBounds_toArray, List.set_cons_zero, List.set_cons_succ])
      refine wpL.take (i := 13) (v := ?_) rfl (by kernel_rfl) (by kernel_rfl) (by kernel_rfl) (fun _ _ _ h => h) (fun l w => by (try dsimp only); rw [getD_set_ne true (show 13 ≠ 8 by decide), getD_set_ne true (show 13 ≠ 15 by decide)]) (Or.inl ⟨by rfl, ?_⟩) hHeld (fun hH2 => ?_)
      rotate_left
      next => (intro w hSw; go_simp; (try with_reducible rfl))
      clear hHeld
      have hHeld := hH2
      clear hH2
      (try simp only [List.getElem_toArray, List.getElem_cons_zero, List.getElem_cons_succ, Act.put, List.setIfInBounds_toArray, List.set_cons_zero, List.set_cons_succ])
      refine wpL.ready (rs := [7, 14]) (by kernel_rfl) (by simp) ?_
      refine AllL.cons rfl (fun K hK => ?_) (AllL.cons rfl (fun K hK => ?_) AllL.nil)
      · skip
        go_simp
        refine hK.out _ _ ?_ (fun hH2 => ?_)
        next =>
          (try dsimp only)
          refine ⟨fun hl => ?_, fun hl => ?_⟩
          · first | (exact lNo hl (by decide +kernel)) | assumption | exact hS9.1 | exact cell_oldA hS9.1 | exact cell_oldA (cell_oldA hS9.1)
          · first | (exact lNo hl (by decide +kernel)) | assumption | exact hS9.2 | exact cell_oldA hS9.2 | exact cell_oldA (cell_oldA hS9.2) | exact cell_oldA t4
        clear hK K hHeld
        have hHeld := hH2
        clear hH2
        (try simp only [List.getElem_toArray, List.getElem_cons_zero, List.getElem_cons_succ, Act.put, List.setIfInBounds_toArray, List.set_cons_zero, List.set_cons_succ])
        refine wpL.ready (rs := [8, 14]) (by kernel_rfl) (by simp) ?_
        refine AllL.cons rfl (fun K hK => ?_) (AllL.cons rfl (fun K hK => ?_) AllL.nil)
        · skip
          refine step_append_ex rfl _ _ 56 rfl fv _ rfl rfl (append_cell_run (R := (Both (CellT s #[.int .i64 1, .int .i64 o2, .int .i64 o3, .slice av cl cv] tOp9) (Both (CellT kx (wl9C sb rb fv gv) tWl9) (Both (RowG tBG 1 gv n Bs) (Both (X k) (Both (Y kr) (Both (StoreT sb S) (Both (RefT rb S) Φ)))))))) (xs := As) (u := .pointer (pa k)) 56 56 tBF Tryz.underlying56 info_PF rfl ((H15.out.mono hst9 (by (repeat' (first | exact (Below.refl _ _) | (with_reducible refine Below.setCell ?_ ?_ _) | (with_reducible refine Below.alloc ?_ ?_ _) | (with_reducible refine Below.drew ?_) | omega | (simp only [World.heap_size_setCell, World.heap_size_alloc, World.heap_size_drew]; omega) | (simp; done) | (simp; omega))))).perm (by ac_rfl)) hst10 (by first | exact cell_new _ _ _ | exact cell_new2 _ _ _ _ _ | exact cell_old (cell_new _ _ _)) rfl (by unfold maxLen; omega) (by omega)) ?_
          rintro ao1 cp1 w10 ⟨h10, hu10⟩
          have t1 := cell_at h10.drop.drop.cell.1 1
          have t4 := cell_at h10.drop.drop.cell.1 3
          simp only [List.getElem?_toArray, List.getElem?_cons_zero, List.getElem?_cons_succ] at t1 t4
          have H10 := Lib.hid h10
          have HU10 := Lib.hid hu10
          clear h10 hu10
          refine hK.out _ _ ?_ (fun hH2 => ?_)
          next =>
            (try dsimp only)
            refine ⟨fun hl => ?_, fun hl => ?_⟩
            · first | (exact lNo hl (by decide +kernel)) | assumption | exact hS9.1 | exact cell_oldA hS9.1 | exact cell_oldA (cell_oldA hS9.1)
            · first | (exact lNo hl (by decide +kernel)) | assumption | exact hS9.2 | exact cell_oldA hS9.2 | exact cell_oldA (cell_oldA hS9.2) | exact cell_oldA t4
          clear hK K hHeld
          have hHeld := hH2
          clear hH2
          (try simp only [List.getElem_toArray, List.getElem_cons_zero, List.getElem_cons_succ, Act.put, List.setIfInBounds_toArray, List.set_cons_zero, List.set_cons_succ])
          refine wpL.ready (rs := [14]) (by kernel_rfl) (by simp) ?_
          refine AllL.cons rfl (fun K hK => ?_) AllL.nil
          go_simp
          refine hK.out _ _ ?_ (fun hH2 => ?_)
          next =>
            (try dsimp only)
            refine ⟨fun hl => ?_, fun hl => ?_⟩
            · first | (exact lNo hl (by decide +kernel)) | assumption | exact hS9.1 | exact cell_oldA hS9.1 | exact cell_oldA (cell_oldA hS9.1)
            · first | (exact lNo hl (by decide +kernel)) | assumption | exact hS9.2 | exact cell_oldA hS9.2 | exact cell_oldA (cell_oldA hS9.2) | exact cell_oldA t4
          clear hK K hHeld
          have hHeld := hH2
          clear hH2
          (try simp only [List.getElem_toArray, List.getElem_cons_zero, List.getElem_cons_succ, Act.put, List.setIfInBounds_toArray, List.set_cons_zero, List.set_cons_succ])
          skip
          refine wpL.ready (rs := [15]) (by kernel_rfl) (by simp) ?_
          refine AllL.cons rfl (fun K hK => ?_) AllL.nil
          refine step_append_ex rfl _ _ 57 rfl gv _ rfl rfl (append_cell_run (R := (Both (CellT s #[.int .i64 1, .int .i64 o2, .int .i64 o3, .slice av cl cv] tOp9) (Both (CellT kx (wl9C sb rb fv gv) tWl9) (Both (RowG tBF 1 (.slice ao1 (n + 1) cp1) (n + 1) (As ++ [.pointer (pa k)])) (Both (X k) (Both (Y kr) (Both (StoreT sb S) (Both (RefT rb S) Φ)))))))) (xs := Bs) (u := .pointer (pb kr)) 57 57 tBG Tryz.underlying57 info_PG rfl ((H10.out.mono ((RowG.stable _ _ _ _ _).both hst10) (by (repeat' (first | exact (Below.refl _ _) | (with_reducible refine Below.setCell ?_ ?_ _) | (with_reducible refine Below.alloc ?_ ?_ _) | (with_reducible refine Below.drew ?_) | omega | (simp only [World.heap_size_setCell, World.heap_size_alloc, World.heap_size_drew]; omega) | (simp; done) | (simp; omega))))).perm (by ac_rfl)) (hst11 _) (by first | exact cell_new _ _ _ | exact upd_cell HU10.out (by first | (simp; done) | (simp; omega)) (fun hm => by have := hvw _ hm; omega) (cell_new2 _ _ _ _ _) | exact upd_cell HU10.out (by first | (simp; done) | (simp; omega)) (fun hm => by have := hvw _ hm; omega) (cell_new _ _ _) | exact upd_cell HU10.out (by first | (simp; done) | (simp; omega)) (fun hm => by have := hvw _ hm; omega) (cell_old (cell_new _ _ _))) rfl (by unfold maxLen; omega) (by omega)) ?_
          rintro ao2 cp2 w11 ⟨h11, hu11⟩
          have u1 := cell_at h11.drop.drop.cell.1 1
          have u4 := cell_at h11.drop.drop.cell.1 3
          have uf := thaw_at h11.drop.drop.cell.1
          have lk11 := lt_of_heap h11.drop.drop.cell.1
          simp only [List.getElem?_toArray, List.getElem?_cons_zero, List.getElem?_cons_succ] at u1 u4
          have H11 := Lib.hid h11
          clear h11 hu11
          refine hK.out _ _ ?_ (fun hH2 => ?_)
          next =>
            (try dsimp only)
            refine ⟨fun hl => ?_, fun hl => ?_⟩
            · first | (exact lNo hl (by decide +kernel)) | assumption | exact hS9.1 | exact cell_oldA hS9.1 | exact cell_oldA (cell_oldA hS9.1)
            · first | (exact lNo hl (by decide +kernel)) | assumption | exact hS9.2 | exact cell_oldA hS9.2 | exact cell_oldA (cell_oldA hS9.2) | exact cell_oldA t4
          clear hK K hHeld
          have hHeld := hH2
          clear hH2
          (try simp only [List.getElem_toArray, List.getElem_cons_zero, List.getElem_cons_succ, Act.put, List.setIfInBounds_toArray, List.set_cons_zero, List.set_cons_succ])
          refine wpL.ready (rs := [16]) (by kernel_rfl) (by simp) ?_
          refine AllL.cons rfl (fun K hK => ?_) AllL.nil
          go_simp
          refine hK.out _ _ ?_ (fun hH2 => ?_)
          next =>
            (try dsimp only)
            refine ⟨fun hl => ?_, fun hl => ?_⟩
            · first | (exact lNo hl (by decide +kernel)) | assumption | exact hS9.1 | exact cell_oldA hS9.1 | exact cell_oldA (cell_oldA hS9.1)
            · first | (exact lNo hl (by decide +kernel)) | assumption | exact hS9.2 | exact cell_oldA hS9.2 | exact cell_oldA (cell_oldA hS9.2) | exact cell_oldA t4
          clear hK K hHeld
          have hHeld := hH2
          clear hH2
          (try simp only [List.getElem_toArray, List.getElem_cons_zero, List.getElem_cons_succ, Act.put, List.setIfInBounds_toArray, List.set_cons_zero, List.set_cons_succ])
          refine wpL.ready (rs := [17]) (by kernel_rfl) (by simp) ?_
          refine AllL.cons rfl (fun K hK => ?_) AllL.nil
          go_simp
          refine hK.out _ _ ?_ (fun hH2 => ?_)
          next =>
            (try dsimp only)
            refine ⟨fun hl => ?_, fun hl => ?_⟩
            · first | (exact lNo hl (by decide +kernel)) | assumption | exact hS9.1 | exact cell_oldA hS9.1 | exact cell_oldA (cell_oldA hS9.1)
            · first | (exact lNo hl (by decide +kernel)) | assumption | exact hS9.2 | exact cell_oldA hS9.2 | exact cell_oldA (cell_oldA hS9.2) | exact cell_oldA t4
          clear hK K hHeld
          have hHeld := hH2
          clear hH2
          (try simp only [List.getElem_toArray, List.getElem_cons_zero, List.getElem_cons_succ, Act.put, List.setIfInBounds_toArray, List.set_cons_zero, List.set_cons_succ])
          refine wpL.ready (rs := [18]) (by kernel_rfl) (by simp) ?_
          refine AllL.cons rfl (fun K hK => ?_) AllL.nil
          go_simp
          refine hK.out _ _ ?_ (fun hH2 => ?_)
          next =>
            (try dsimp only)
            refine ⟨fun hl => ?_, fun hl => ?_⟩
            · first | (exact lNo hl (by decide +kernel)) | assumption | exact hS9.1 | exact cell_oldA hS9.1 | exact cell_oldA (cell_oldA hS9.1)
            · first | (exact lNo hl (by decide +kernel)) | assumption | exact hS9.2 | exact cell_oldA hS9.2 | exact cell_oldA (cell_oldA hS9.2) | exact cell_oldA t4
          clear hK K hHeld
          have hHeld := hH2
          clear hH2
          (try simp only [List.getElem_toArray, List.getElem_cons_zero, List.getElem_cons_succ, Act.put, List.setIfInBounds_toArray, List.set_cons_zero, List.set_cons_succ])
          refine wpL.ready (rs := [19]) (by kernel_rfl) (by simp) ?_
          refine AllL.cons rfl (fun K hK => ?_) AllL.nil
          go_simp
          refine hK.out _ _ ?_ (fun hH2 => ?_)
          next =>
            (try dsimp only)
            refine ⟨fun hl => ?_, fun hl => ?_⟩
            · first | (exact lNo hl (by decide +kernel)) | assumption | exact hS9.1 | exact cell_oldA hS9.1 | exact cell_oldA (cell_oldA hS9.1)
            · first | (exact lNo hl (by decide +kernel)) | assumption | exact hS9.2 | exact cell_oldA hS9.2 | exact cell_oldA (cell_oldA hS9.2) | exact cell_oldA t4
          clear hK K hHeld
          have hHeld := hH2
          clear hH2
          (try simp only [List.getElem_toArray, List.getElem_cons_zero, List.getElem_cons_succ, Act.put, List.setIfInBounds_toArray, List.set_cons_zero, List.set_cons_succ])
          refine wpL.ready (rs := [20]) (by kernel_rfl) (by simp) ?_
          refine AllL.cons rfl (fun K hK => ?_) AllL.nil
          go_simp
          refine hK.out _ _ ?_ (fun hH2 => ?_)
          next =>
            (try dsimp only)
            refine ⟨fun hl => ?_, fun hl => ?_⟩
            · first | (exact lNo hl (by decide +kernel)) | assumption | exact hS9.1 | exact cell_oldA hS9.1 | exact cell_oldA (cell_oldA hS9.1)
            · first | (exact lNo hl (by decide +kernel)) | assumption | exact hS9.2 | exact cell_oldA hS9.2 | exact cell_oldA (cell_oldA hS9.2) | exact cell_oldA t4
          clear hK K hHeld
          have hHeld := hH2
          clear hH2
          (try simp only [List.getElem_toArray, List.getElem_cons_zero, List.getElem_cons_succ, Act.put, List.setIfInBounds_toArray, List.set_cons_zero, List.set_cons_succ])
          refine wpL.ready (rs := [21]) (by kernel_rfl) (by simp) ?_
          refine AllL.cons rfl (fun K hK => ?_) AllL.nil
          go_simp
          refine hK.out _ _ ?_ (fun hH2 => ?_)
          next =>
            (try dsimp only)
            refine ⟨fun hl => ?_, fun hl => ?_⟩
            · first | (exact lNo hl (by decide +kernel)) | assumption | exact hS9.1 | exact cell_oldA hS9.1 | exact cell_oldA (cell_oldA hS9.1)
            · first | (exact lNo hl (by decide +kernel)) | assumption | exact hS9.2 | exact cell_oldA hS9.2 | exact cell_oldA (cell_oldA hS9.2) | exact cell_oldA t4
          clear hK K hHeld
          have hHeld := hH2
          clear hH2
          (try simp only [List.getElem_toArray, List.getElem_cons_zero, List.getElem_cons_succ, Act.put, List.setIfInBounds_toArray, List.set_cons_zero, List.set_cons_succ])
          refine wpL.done (by kernel_rfl) ?_ _
          have hRR := (CellT.stable s #[.int .i64 1, .int .i64 o2, .int .i64 o3, .slice av cl cv] tOp9).both ((RowG.stable tBF 1 (.slice ao1 (n + 1) cp1) (n + 1) (As ++ [.pointer (pa k)])).both ((RowG.stable tBG 1 (.slice ao2 (n + 1) cp2) (n + 1) (Bs ++ [.pointer (pb kr)])).both ((hXs k).both ((hYs kr).both ((StoreT.stable sb S).both ((RefT.stable rb S).both hΦ))))))
          have g0 := (H11.out.perm (show _ = Both (CellT kx (wl9C sb rb fv gv) tWl9) (Both (CellT s #[.int .i64 1, .int .i64 o2, .int .i64 o3, .slice av cl cv] tOp9) (Both (RowG tBF 1 (.slice ao1 (n + 1) cp1) (n + 1) (As ++ [.pointer (pa k)])) (Both (RowG tBG 1 (.slice ao2 (n + 1) cp2) (n + 1) (Bs ++ [.pointer (pb kr)])) (Both (X k) (Both (Y kr) (Both (StoreT sb S) (Both (RefT rb S) Φ))))))) by ac_rfl))
          have g1 := (g0.setCell hRR 1 (.slice ao1 (n + 1) cp1)).setCell hRR 3 (.slice ao2 (n + 1) cp2)
          have g2 : At W _ (Both (CellT kx (wl9C sb rb (.slice ao1 (n + 1) cp1) (.slice ao2 (n + 1) cp2)) tWl9) (Both (CellT s #[.int .i64 1, .int .i64 o2, .int .i64 o3, .slice av cl cv] tOp9) (Both (RowG tBF 1 (.slice ao1 (n + 1) cp1) (n + 1) (As ++ [.pointer (pa k)])) (Both (RowG tBG 1 (.slice ao2 (n + 1) cp2) (n + 1) (Bs ++ [.pointer (pb kr)])) (Both (X k) (Both (Y kr) (Both (StoreT sb S) (Both (RefT rb S) Φ)))))))) := g1
          have g3 : At W _ (Both (CellT s #[.int .i64 1, .int .i64 o2, .int .i64 o3, .slice av cl cv] tOp9) (Both (CellT kx (wl9C sb rb (.slice ao1 (n + 1) cp1) (.slice ao2 (n + 1) cp2)) tWl9) (Both (RowG tBF 1 (.slice ao1 (n + 1) cp1) (n + 1) (As ++ [.pointer (pa k)])) (Both (RowG tBG 1 (.slice ao2 (n + 1) cp2) (n + 1) (Bs ++ [.pointer (pb kr)])) (Both (X k) (Both (Y kr) (Both (StoreT sb S) (Both (RefT rb S) Φ)))))))) := g2.perm (by ac_rfl)
          refine HK.out _ _ ?_
          have hJ := HJ.out
          go_meet
          case rel => exact ⟨ao1, cp1, ao2, cp2, g3⟩
        · skip
          go_simp
          refine hK.out _ _ ?_ (fun hH2 => ?_)
          next =>
            (try dsimp only)
            refine ⟨fun hl => ?_, fun hl => ?_⟩
            · first | (exact lNo hl (by decide +kernel)) | assumption | exact hS9.1 | exact cell_oldA hS9.1 | exact cell_oldA (cell_oldA hS9.1)
            · first | (exact lNo hl (by decide +kernel)) | assumption | exact hS9.2 | exact cell_oldA hS9.2 | exact cell_oldA (cell_oldA hS9.2) | exact cell_oldA t4
          clear hK K hHeld
          have hHeld := hH2
          clear hH2
          (try simp only [List.getElem_toArray, List.getElem_cons_zero, List.getElem_cons_succ, Act.put, List.setIfInBounds_toArray, List.set_cons_zero, List.set_cons_succ])
          refine wpL.ready (rs := [8]) (by kernel_rfl) (by simp) ?_
          refine AllL.cons rfl (fun K hK => ?_) AllL.nil
          refine step_append_ex rfl _ _ 56 rfl fv _ rfl rfl (append_cell_run (R := (Both (CellT s #[.int .i64 1, .int .i64 o2, .int .i64 o3, .slice av cl cv] tOp9) (Both (CellT kx (wl9C sb rb fv gv) tWl9) (Both (RowG tBG 1 gv n Bs) (Both (X k) (Both (Y kr) (Both (StoreT sb S) (Both (RefT rb S) Φ)))))))) (xs := As) (u := .pointer (pa k)) 56 56 tBF Tryz.underlying56 info_PF rfl ((H15.out.mono hst9 (by (repeat' (first | exact (Below.refl _ _) | (with_reducible refine Below.setCell ?_ ?_ _) | (with_reducible refine Below.alloc ?_ ?_ _) | (with_reducible refine Below.drew ?_) | omega | (simp only [World.heap_size_setCell, World.heap_size_alloc, World.heap_size_drew]; omega) | (simp; done) | (simp; omega))))).perm (by ac_rfl)) hst10 (by first | exact cell_new _ _ _ | exact cell_new2 _ _ _ _ _ | exact cell_old (cell_new _ _ _)) rfl (by unfold maxLen; omega) (by omega)) ?_
          rintro ao1 cp1 w10 ⟨h10, hu10⟩
          have t1 := cell_at h10.drop.drop.cell.1 1
          have t4 := cell_at h10.drop.drop.cell.1 3
          simp only [List.getElem?_toArray, List.getElem?_cons_zero, List.getElem?_cons_succ] at t1 t4
          have H10 := Lib.hid h10
          have HU10 := Lib.hid hu10
          clear h10 hu10
          refine hK.out _ _ ?_ (fun hH2 => ?_)
          next =>
            (try dsimp only)
            refine ⟨fun hl => ?_, fun hl => ?_⟩
            · first | (exact lNo hl (by decide +kernel)) | assumption | exact hS9.1 | exact cell_oldA hS9.1 | exact cell_oldA (cell_oldA hS9.1)
            · first | (exact lNo hl (by decide +kernel)) | assumption | exact hS9.2 | exact cell_oldA hS9.2 | exact cell_oldA (cell_oldA hS9.2) | exact cell_oldA t4
          clear hK K hHeld
          have hHeld := hH2
          clear hH2
          (try simp only [List.getElem_toArray, List.getElem_cons_zero, List.getElem_cons_succ, Act.put, List.setIfInBounds_toArray, List.set_cons_zero, List.set_cons_succ])
          skip
          refine wpL.ready (rs := [15]) (by kernel_rfl) (by simp) ?_
          refine AllL.cons rfl (fun K hK => ?_) AllL.nil
          refine step_append_ex rfl _ _ 57 rfl gv _ rfl rfl (append_cell_run (R := (Both (CellT s #[.int .i64 1, .int .i64 o2, .int .i64 o3, .slice av cl cv] tOp9) (Both (CellT kx (wl9C sb rb fv gv) tWl9) (Both (RowG tBF 1 (.slice ao1 (n + 1) cp1) (n + 1) (As ++ [.pointer (pa k)])) (Both (X k) (Both (Y kr) (Both (StoreT sb S) (Both (RefT rb S) Φ)))))))) (xs := Bs) (u := .pointer (pb kr)) 57 57 tBG Tryz.underlying57 info_PG rfl ((H10.out.mono ((RowG.stable _ _ _ _ _).both hst10) (by (repeat' (first | exact (Below.refl _ _) | (with_reducible refine Below.setCell ?_ ?_ _) | (with_reducible refine Below.alloc ?_ ?_ _) | (with_reducible refine Below.drew ?_) | omega | (simp only [World.heap_size_setCell, World.heap_size_alloc, World.heap_size_drew]; omega) | (simp; done) | (simp; omega))))).perm (by ac_rfl)) (hst11 _) (by first | exact cell_new _ _ _ | exact upd_cell HU10.out (by first | (simp; done) | (simp; omega)) (fun hm => by have := hvw _ hm; omega) (cell_new2 _ _ _ _ _) | exact upd_cell HU10.out (by first | (simp; done) | (simp; omega)) (fun hm => by have := hvw _ hm; omega) (cell_new _ _ _) | exact upd_cell HU10.out (by first | (simp; done) | (simp; omega)) (fun hm => by have := hvw _ hm; omega) (cell_old (cell_new _ _ _))) rfl (by unfold maxLen; omega) (by omega)) ?_
          rintro ao2 cp2 w11 ⟨h11, hu11⟩
          have u1 := cell_at h11.drop.drop.cell.1 1
          have u4 := cell_at h11.drop.drop.cell.1 3
          have uf := thaw_at h11.drop.drop.cell.1
          have lk11 := lt_of_heap h11.drop.drop.cell.1
          simp only [List.getElem?_toArray, List.getElem?_cons_zero, List.getElem?_cons_succ] at u1 u4
          have H11 := Lib.hid h11
          clear h11 hu11
          refine hK.out _ _ ?_ (fun hH2 => ?_)
          next =>
            (try dsimp only)
            refine ⟨fun hl => ?_, fun hl => ?_⟩
            · first | (exact lNo hl (by decide +kernel)) | assumption | exact hS9.1 | exact cell_oldA hS9.1 | exact cell_oldA (cell_oldA hS9.1)
            · first | (exact lNo hl (by decide +kernel)) | assumption | exact hS9.2 | exact cell_oldA hS9.2 | exact cell_oldA (cell_oldA hS9.2) | exact cell_oldA t4
          clear hK K hHeld
          have hHeld := hH2
          clear hH2
          (try simp only [List.getElem_toArray, List.getElem_cons_zero, List.getElem_cons_succ, Act.put, List.setIfInBounds_toArray, List.set_cons_zero, List.set_cons_succ])
          refine wpL.ready (rs := [16]) (by kernel_rfl) (by simp) ?_
          refine AllL.cons rfl (fun K hK => ?_) AllL.nil
          go_simp
          refine hK.out _ _ ?_ (fun hH2 => ?_)
          next =>
            (try dsimp only)
            refine ⟨fun hl => ?_, fun hl => ?_⟩
            · first | (exact lNo hl (by decide +kernel)) | assumption | exact hS9.1 | exact cell_oldA hS9.1 | exact cell_oldA (cell_oldA hS9.1)
            · first | (exact lNo hl (by decide +kernel)) | assumption | exact hS9.2 | exact cell_oldA hS9.2 | exact cell_oldA (cell_oldA hS9.2) | exact cell_oldA t4
          clear hK K hHeld
          have hHeld := hH2
          clear hH2
          (try simp only [List.getElem_toArray, List.getElem_cons_zero, List.getElem_cons_succ, Act.put, List.setIfInBounds_toArray, List.set_cons_zero, List.set_cons_succ])
          refine wpL.ready (rs := [17]) (by kernel_rfl) (by simp) ?_
          refine AllL.cons rfl (fun K hK => ?_) AllL.nil
          go_simp
          refine hK.out _ _ ?_ (fun hH2 => ?_)
          next =>
            (try dsimp only)
            refine ⟨fun hl => ?_, fun hl => ?_⟩
            · first | (exact lNo hl (by decide +kernel)) | assumption | exact hS9.1 | exact cell_oldA hS9.1 | exact cell_oldA (cell_oldA hS9.1)
            · first | (exact lNo hl (by decide +kernel)) | assumption | exact hS9.2 | exact cell_oldA hS9.2 | exact cell_oldA (cell_oldA hS9.2) | exact cell_oldA t4
          clear hK K hHeld
          have hHeld := hH2
          clear hH2
          (try simp only [List.getElem_toArray, List.getElem_cons_zero, List.getElem_cons_succ, Act.put, List.setIfInBounds_toArray, List.set_cons_zero, List.set_cons_succ])
          refine wpL.ready (rs := [18]) (by kernel_rfl) (by simp) ?_
          refine AllL.cons rfl (fun K hK => ?_) AllL.nil
          go_simp
          refine hK.out _ _ ?_ (fun hH2 => ?_)
          next =>
            (try dsimp only)
            refine ⟨fun hl => ?_, fun hl => ?_⟩
            · first | (exact lNo hl (by decide +kernel)) | assumption | exact hS9.1 | exact cell_oldA hS9.1 | exact cell_oldA (cell_oldA hS9.1)
            · first | (exact lNo hl (by decide +kernel)) | assumption | exact hS9.2 | exact cell_oldA hS9.2 | exact cell_oldA (cell_oldA hS9.2) | exact cell_oldA t4
          clear hK K hHeld
          have hHeld := hH2
          clear hH2
          (try simp only [List.getElem_toArray, List.getElem_cons_zero, List.getElem_cons_succ, Act.put, List.setIfInBounds_toArray, List.set_cons_zero, List.set_cons_succ])
          refine wpL.ready (rs := [19]) (by kernel_rfl) (by simp) ?_
          refine AllL.cons rfl (fun K hK => ?_) AllL.nil
          go_simp
          refine hK.out _ _ ?_ (fun hH2 => ?_)
          next =>
            (try dsimp only)
            refine ⟨fun hl => ?_, fun hl => ?_⟩
            · first | (exact lNo hl (by decide +kernel)) | assumption | exact hS9.1 | exact cell_oldA hS9.1 | exact cell_oldA (cell_oldA hS9.1)
            · first | (exact lNo hl (by decide +kernel)) | assumption | exact hS9.2 | exact cell_oldA hS9.2 | exact cell_oldA (cell_oldA hS9.2) | exact cell_oldA t4
          clear hK K hHeld
          have hHeld := hH2
          clear hH2
          (try simp only [List.getElem_toArray, List.getElem_cons_zero, List.getElem_cons_succ, Act.put, List.setIfInBounds_toArray, List.set_cons_zero, List.set_cons_succ])
          refine wpL.ready (rs := [20]) (by kernel_rfl) (by simp) ?_
          refine AllL.cons rfl (fun K hK => ?_) AllL.nil
          go_simp
          refine hK.out _ _ ?_ (fun hH2 => ?_)
          next =>
            (try dsimp only)
            refine ⟨fun hl => ?_, fun hl => ?_⟩
            · first | (exact lNo hl (by decide +kernel)) | assumption | exact hS9.1 | exact cell_oldA hS9.1 | exact cell_oldA (cell_oldA hS9.1)
            · first | (exact lNo hl (by decide +kernel)) | assumption | exact hS9.2 | exact cell_oldA hS9.2 | exact cell_oldA (cell_oldA hS9.2) | exact cell_oldA t4
          clear hK K hHeld
          have hHeld := hH2
          clear hH2
          (try simp only [List.getElem_toArray, List.getElem_cons_zero, List.getElem_cons_succ, Act.put, List.setIfInBounds_toArray, List.set_cons_zero, List.set_cons_succ])
          refine wpL.ready (rs := [21]) (by kernel_rfl) (by simp) ?_
          refine AllL.cons rfl (fun K hK => ?_) AllL.nil
          go_simp
          refine hK.out _ _ ?_ (fun hH2 => ?_)
          next =>
            (try dsimp only)
            refine ⟨fun hl => ?_, fun hl => ?_⟩
            · first | (exact lNo hl (by decide +kernel)) | assumption | exact hS9.1 | exact cell_oldA hS9.1 | exact cell_oldA (cell_oldA hS9.1)
            · first | (exact lNo hl (by decide +kernel)) | assumption | exact hS9.2 | exact cell_oldA hS9.2 | exact cell_oldA (cell_oldA hS9.2) | exact cell_oldA t4
          clear hK K hHeld
          have hHeld := hH2
          clear hH2
          (try simp only [List.getElem_toArray, List.getElem_cons_zero, List.getElem_cons_succ, Act.put, List.setIfInBounds_toArray, List.set_cons_zero, List.set_cons_succ])
          refine wpL.done (by kernel_rfl) ?_ _
          have hRR := (CellT.stable s #[.int .i64 1, .int .i64 o2, .int .i64 o3, .slice av cl cv] tOp9).both ((RowG.stable tBF 1 (.slice ao1 (n + 1) cp1) (n + 1) (As ++ [.pointer (pa k)])).both ((RowG.stable tBG 1 (.slice ao2 (n + 1) cp2) (n + 1) (Bs ++ [.pointer (pb kr)])).both ((hXs k).both ((hYs kr).both ((StoreT.stable sb S).both ((RefT.stable rb S).both hΦ))))))
          have g0 := (H11.out.perm (show _ = Both (CellT kx (wl9C sb rb fv gv) tWl9) (Both (CellT s #[.int .i64 1, .int .i64 o2, .int .i64 o3, .slice av cl cv] tOp9) (Both (RowG tBF 1 (.slice ao1 (n + 1) cp1) (n + 1) (As ++ [.pointer (pa k)])) (Both (RowG tBG 1 (.slice ao2 (n + 1) cp2) (n + 1) (Bs ++ [.pointer (pb kr)])) (Both (X k) (Both (Y kr) (Both (StoreT sb S) (Both (RefT rb S) Φ))))))) by ac_rfl))
          have g1 := (g0.setCell hRR 1 (.slice ao1 (n + 1) cp1)).setCell hRR 3 (.slice ao2 (n + 1) cp2)
          have g2 : At W _ (Both (CellT kx (wl9C sb rb (.slice ao1 (n + 1) cp1) (.slice ao2 (n + 1) cp2)) tWl9) (Both (CellT s #[.int .i64 1, .int .i64 o2, .int .i64 o3, .slice av cl cv] tOp9) (Both (RowG tBF 1 (.slice ao1 (n + 1) cp1) (n + 1) (As ++ [.pointer (pa k)])) (Both (RowG tBG 1 (.slice ao2 (n + 1) cp2) (n + 1) (Bs ++ [.pointer (pb kr)])) (Both (X k) (Both (Y kr) (Both (StoreT sb S) (Both (RefT rb S) Φ)))))))) := g1
          have g3 : At W _ (Both (CellT s #[.int .i64 1, .int .i64 o2, .int .i64 o3, .slice av cl cv] tOp9) (Both (CellT kx (wl9C sb rb (.slice ao1 (n + 1) cp1) (.slice ao2 (n + 1) cp2)) tWl9) (Both (RowG tBF 1 (.slice ao1 (n + 1) cp1) (n + 1) (As ++ [.pointer (pa k)])) (Both (RowG tBG 1 (.slice ao2 (n + 1) cp2) (n + 1) (Bs ++ [.pointer (pb kr)])) (Both (X k) (Both (Y kr) (Both (StoreT sb S) (Both (RefT rb S) Φ)))))))) := g2.perm (by ac_rfl)
          refine HK.out _ _ ?_
          have hJ := HJ.out
          go_meet
          case rel => exact ⟨ao1, cp1, ao2, cp2, g3⟩
      · skip
        go_simp
        refine hK.out _ _ ?_ (fun hH2 => ?_)
        next =>
          (try dsimp only)
          refine ⟨fun hl => ?_, fun hl => ?_⟩
          · first | (exact lNo hl (by decide +kernel)) | assumption | exact hS9.1 | exact cell_oldA hS9.1 | exact cell_oldA (cell_oldA hS9.1)
          · first | (exact lNo hl (by decide +kernel)) | assumption | exact hS9.2 | exact cell_oldA hS9.2 | exact cell_oldA (cell_oldA hS9.2) | exact cell_oldA t4
        clear hK K hHeld
        have hHeld := hH2
        clear hH2
        (try simp only [List.getElem_toArray, List.getElem_cons_zero, List.getElem_cons_succ, Act.put, List.setIfInBounds_toArray, List.set_cons_zero, List.set_cons_succ])
        refine wpL.ready (rs := [7]) (by kernel_rfl) (by simp) ?_
        refine AllL.cons rfl (fun K hK => ?_) AllL.nil
        go_simp
        refine hK.out _ _ ?_ (fun hH2 => ?_)
        next =>
          (try dsimp only)
          refine ⟨fun hl => ?_, fun hl => ?_⟩
          · first | (exact lNo hl (by decide +kernel)) | assumption | exact hS9.1 | exact cell_oldA hS9.1 | exact cell_oldA (cell_oldA hS9.1)
          · first | (exact lNo hl (by decide +kernel)) | assumption | exact hS9.2 | exact cell_oldA hS9.2 | exact cell_oldA (cell_oldA hS9.2) | exact cell_oldA t4
        clear hK K hHeld
        have hHeld := hH2
        clear hH2
        (try simp only [List.getElem_toArray, List.getElem_cons_zero, List.getElem_cons_succ, Act.put, List.setIfInBounds_toArray, List.set_cons_zero, List.set_cons_succ])
        refine wpL.ready (rs := [8]) (by kernel_rfl) (by simp) ?_
        refine AllL.cons rfl (fun K hK => ?_) AllL.nil
        refine step_append_ex rfl _ _ 56 rfl fv _ rfl rfl (append_cell_run (R := (Both (CellT s #[.int .i64 1, .int .i64 o2, .int .i64 o3, .slice av cl cv] tOp9) (Both (CellT kx (wl9C sb rb fv gv) tWl9) (Both (RowG tBG 1 gv n Bs) (Both (X k) (Both (Y kr) (Both (StoreT sb S) (Both (RefT rb S) Φ)))))))) (xs := As) (u := .pointer (pa k)) 56 56 tBF Tryz.underlying56 info_PF rfl ((H15.out.mono hst9 (by (repeat' (first | exact (Below.refl _ _) | (with_reducible refine Below.setCell ?_ ?_ _) | (with_reducible refine Below.alloc ?_ ?_ _) | (with_reducible refine Below.drew ?_) | omega | (simp only [World.heap_size_setCell, World.heap_size_alloc, World.heap_size_drew]; omega) | (simp; done) | (simp; omega))))).perm (by ac_rfl)) hst10 (by first | exact cell_new _ _ _ | exact cell_new2 _ _ _ _ _ | exact cell_old (cell_new _ _ _)) rfl (by unfold maxLen; omega) (by omega)) ?_
        rintro ao1 cp1 w10 ⟨h10, hu10⟩
        have t1 := cell_at h10.drop.drop.cell.1 1
        have t4 := cell_at h10.drop.drop.cell.1 3
        simp only [List.getElem?_toArray, List.getElem?_cons_zero, List.getElem?_cons_succ] at t1 t4
        have H10 := Lib.hid h10
        have HU10 := Lib.hid hu10
        clear h10 hu10
        refine hK.out _ _ ?_ (fun hH2 => ?_)
        next =>
          (try dsimp only)
          refine ⟨fun hl => ?_, fun hl => ?_⟩
          · first | (exact lNo hl (by decide +kernel)) | assumption | exact hS9.1 | exact cell_oldA hS9.1 | exact cell_oldA (cell_oldA hS9.1)
          · first | (exact lNo hl (by decide +kernel)) | assumption | exact hS9.2 | exact cell_oldA hS9.2 | exact cell_oldA (cell_oldA hS9.2) | exact cell_oldA t4
        clear hK K hHeld
        have hHeld := hH2
        clear hH2
        (try simp only [List.getElem_toArray, List.getElem_cons_zero, List.getElem_cons_succ, Act.put, List.setIfInBounds_toArray, List.set_cons_zero, List.set_cons_succ])
        skip
        refine wpL.ready (rs := [15]) (by kernel_rfl) (by simp) ?_
        refine AllL.cons rfl (fun K hK => ?_) AllL.nil
        refine step_append_ex rfl _ _ 57 rfl gv _ rfl rfl (append_cell_run (R := (Both (CellT s #[.int .i64 1, .int .i64 o2, .int .i64 o3, .slice av cl cv] tOp9) (Both (CellT kx (wl9C sb rb fv gv) tWl9) (Both (RowG tBF 1 (.slice ao1 (n + 1) cp1) (n + 1) (As ++ [.pointer (pa k)])) (Both (X k) (Both (Y kr) (Both (StoreT sb S) (Both (RefT rb S) Φ)))))))) (xs := Bs) (u := .pointer (pb kr)) 57 57 tBG Tryz.underlying57 info_PG rfl ((H10.out.mono ((RowG.stable _ _ _ _ _).both hst10) (by (repeat' (first | exact (Below.refl _ _) | (with_reducible refine Below.setCell ?_ ?_ _) | (with_reducible refine Below.alloc ?_ ?_ _) | (with_reducible refine Below.drew ?_) | omega | (simp only [World.heap_size_setCell, World.heap_size_alloc, World.heap_size_drew]; omega) | (simp; done) | (simp; omega))))).perm (by ac_rfl)) (hst11 _) (by first | exact cell_new _ _ _ | exact upd_cell HU10.out (by first | (simp; done) | (simp; omega)) (fun hm => by have := hvw _ hm; omega) (cell_new2 _ _ _ _ _) | exact upd_cell HU10.out (by first | (simp; done) | (simp; omega)) (fun hm => by have := hvw _ hm; omega) (cell_new _ _ _) | exact upd_cell HU10.out (by first | (simp; done) | (simp; omega)) (fun hm => by have := hvw _ hm; omega) (cell_old (cell_new _ _ _))) rfl (by unfold maxLen; omega) (by omega)) ?_
        rintro ao2 cp2 w11 ⟨h11, hu11⟩
        have u1 := cell_at h11.drop.drop.cell.1 1
        have u4 := cell_at h11.drop.drop.cell.1 3
        have uf := thaw_at h11.drop.drop.cell.1
        have lk11 := lt_of_heap h11.drop.drop.cell.1
        simp only [List.getElem?_toArray, List.getElem?_cons_zero, List.getElem?_cons_succ] at u1 u4
        have H11 := Lib.hid h11
        clear h11 hu11
        refine hK.out _ _ ?_ (fun hH2 => ?_)
        next =>
          (try dsimp only)
          refine ⟨fun hl => ?_, fun hl => ?_⟩
          · first | (exact lNo hl (by decide +kernel)) | assumption | exact hS9.1 | exact cell_oldA hS9.1 | exact cell_oldA (cell_oldA hS9.1)
          · first | (exact lNo hl (by decide +kernel)) | assumption | exact hS9.2 | exact cell_oldA hS9.2 | exact cell_oldA (cell_oldA hS9.2) | exact cell_oldA t4
        clear hK K hHeld
        have hHeld := hH2
        clear hH2
        (try simp only [List.getElem_toArray, List.getElem_cons_zero, List.getElem_cons_succ, Act.put, List.setIfInBounds_toArray, List.set_cons_zero, List.set_cons_succ])
        refine wpL.ready (rs := [16]) (by kernel_rfl) (by simp) ?_
        refine AllL.cons rfl (fun K hK => ?_) AllL.nil
        go_simp
        refine hK.out _ _ ?_ (fun hH2 => ?_)
        next =>
          (try dsimp only)
          refine ⟨fun hl => ?_, fun hl => ?_⟩
          · first | (exact lNo hl (by decide +kernel)) | assumption | exact hS9.1 | exact cell_oldA hS9.1 | exact cell_oldA (cell_oldA hS9.1)
          · first | (exact lNo hl (by decide +kernel)) | assumption | exact hS9.2 | exact cell_oldA hS9.2 | exact cell_oldA (cell_oldA hS9.2) | exact cell_oldA t4
        clear hK K hHeld
        have hHeld := hH2
        clear hH2
        (try simp only [List.getElem_toArray, List.getElem_cons_zero, List.getElem_cons_succ, Act.put, List.setIfInBounds_toArray, List.set_cons_zero, List.set_cons_succ])
        refine wpL.ready (rs := [17]) (by kernel_rfl) (by simp) ?_
        refine AllL.cons rfl (fun K hK => ?_) AllL.nil
        go_simp
        refine hK.out _ _ ?_ (fun hH2 => ?_)
        next =>
          (try dsimp only)
          refine ⟨fun hl => ?_, fun hl => ?_⟩
          · first | (exact lNo hl (by decide +kernel)) | assumption | exact hS9.1 | exact cell_oldA hS9.1 | exact cell_oldA (cell_oldA hS9.1)
          · first | (exact lNo hl (by decide +kernel)) | assumption | exact hS9.2 | exact cell_oldA hS9.2 | exact cell_oldA (cell_oldA hS9.2) | exact cell_oldA t4
        clear hK K hHeld
        have hHeld := hH2
        clear hH2
        (try simp only [List.getElem_toArray, List.getElem_cons_zero, List.getElem_cons_succ, Act.put, List.setIfInBounds_toArray, List.set_cons_zero, List.set_cons_succ])
        refine wpL.ready (rs := [18]) (by kernel_rfl) (by simp) ?_
        refine AllL.cons rfl (fun K hK => ?_) AllL.nil
        go_simp
        refine hK.out _ _ ?_ (fun hH2 => ?_)
        next =>
          (try dsimp only)
          refine ⟨fun hl => ?_, fun hl => ?_⟩
          · first | (exact lNo hl (by decide +kernel)) | assumption | exact hS9.1 | exact cell_oldA hS9.1 | exact cell_oldA (cell_oldA hS9.1)
          · first | (exact lNo hl (by decide +kernel)) | assumption | exact hS9.2 | exact cell_oldA hS9.2 | exact cell_oldA (cell_oldA hS9.2) | exact cell_oldA t4
        clear hK K hHeld
        have hHeld := hH2
        clear hH2
        (try simp only [List.getElem_toArray, List.getElem_cons_zero, List.getElem_cons_succ, Act.put, List.setIfInBounds_toArray, List.set_cons_zero, List.set_cons_succ])
        refine wpL.ready (rs := [19]) (by kernel_rfl) (by simp) ?_
        refine AllL.cons rfl (fun K hK => ?_) AllL.nil
        go_simp
        refine hK.out _ _ ?_ (fun hH2 => ?_)
        next =>
          (try dsimp only)
          refine ⟨fun hl => ?_, fun hl => ?_⟩
          · first | (exact lNo hl (by decide +kernel)) | assumption | exact hS9.1 | exact cell_oldA hS9.1 | exact cell_oldA (cell_oldA hS9.1)
          · first | (exact lNo hl (by decide +kernel)) | assumption | exact hS9.2 | exact cell_oldA hS9.2 | exact cell_oldA (cell_oldA hS9.2) | exact cell_oldA t4
        clear hK K hHeld
        have hHeld := hH2
        clear hH2
        (try simp only [List.getElem_toArray, List.getElem_cons_zero, List.getElem_cons_succ, Act.put, List.setIfInBounds_toArray, List.set_cons_zero, List.set_cons_succ])
        refine wpL.ready (rs := [20]) (by kernel_rfl) (by simp) ?_
        refine AllL.cons rfl (fun K hK => ?_) AllL.nil
        go_simp
        refine hK.out _ _ ?_ (fun hH2 => ?_)
        next =>
          (try dsimp only)
          refine ⟨fun hl => ?_, fun hl => ?_⟩
          · first | (exact lNo hl (by decide +kernel)) | assumption | exact hS9.1 | exact cell_oldA hS9.1 | exact cell_oldA (cell_oldA hS9.1)
          · first | (exact lNo hl (by decide +kernel)) | assumption | exact hS9.2 | exact cell_oldA hS9.2 | exact cell_oldA (cell_oldA hS9.2) | exact cell_oldA t4
        clear hK K hHeld
        have hHeld := hH2
        clear hH2
        (try simp only [List.getElem_toArray, List.getElem_cons_zero, List.getElem_cons_succ, Act.put, List.setIfInBounds_toArray, List.set_cons_zero, List.set_cons_succ])
        refine wpL.ready (rs := [21]) (by kernel_rfl) (by simp) ?_
        refine AllL.cons rfl (fun K hK => ?_) AllL.nil
        go_simp
        refine hK.out _ _ ?_ (fun hH2 => ?_)
        next =>
          (try dsimp only)
          refine ⟨fun hl => ?_, fun hl => ?_⟩
          · first | (exact lNo hl (by decide +kernel)) | assumption | exact hS9.1 | exact cell_oldA hS9.1 | exact cell_oldA (cell_oldA hS9.1)
          · first | (exact lNo hl (by decide +kernel)) | assumption | exact hS9.2 | exact cell_oldA hS9.2 | exact cell_oldA (cell_oldA hS9.2) | exact cell_oldA t4
        clear hK K hHeld
        have hHeld := hH2
        clear hH2
        (try simp only [List.getElem_toArray, List.getElem_cons_zero, List.getElem_cons_succ, Act.put, List.setIfInBounds_toArray, List.set_cons_zero, List.set_cons_succ])
        refine wpL.done (by kernel_rfl) ?_ _
        have hRR := (CellT.stable s #[.int .i64 1, .int .i64 o2, .int .i64 o3, .slice av cl cv] tOp9).both ((RowG.stable tBF 1 (.slice ao1 (n + 1) cp1) (n + 1) (As ++ [.pointer (pa k)])).both ((RowG.stable tBG 1 (.slice ao2 (n + 1) cp2) (n + 1) (Bs ++ [.pointer (pb kr)])).both ((hXs k).both ((hYs kr).both ((StoreT.stable sb S).both ((RefT.stable rb S).both hΦ))))))
        have g0 := (H11.out.perm (show _ = Both (CellT kx (wl9C sb rb fv gv) tWl9) (Both (CellT s #[.int .i64 1, .int .i64 o2, .int .i64 o3, .slice av cl cv] tOp9) (Both (RowG tBF 1 (.slice ao1 (n + 1) cp1) (n + 1) (As ++ [.pointer (pa k)])) (Both (RowG tBG 1 (.slice ao2 (n + 1) cp2) (n + 1) (Bs ++ [.pointer (pb kr)])) (Both (X k) (Both (Y kr) (Both (StoreT sb S) (Both (RefT rb S) Φ))))))) by ac_rfl))
        have g1 := (g0.setCell hRR 1 (.slice ao1 (n + 1) cp1)).setCell hRR 3 (.slice ao2 (n + 1) cp2)
        have g2 : At W _ (Both (CellT kx (wl9C sb rb (.slice ao1 (n + 1) cp1) (.slice ao2 (n + 1) cp2)) tWl9) (Both (CellT s #[.int .i64 1, .int .i64 o2, .int .i64 o3, .slice av cl cv] tOp9) (Both (RowG tBF 1 (.slice ao1 (n + 1) cp1) (n + 1) (As ++ [.pointer (pa k)])) (Both (RowG tBG 1 (.slice ao2 (n + 1) cp2) (n + 1) (Bs ++ [.pointer (pb kr)])) (Both (X k) (Both (Y kr) (Both (StoreT sb S) (Both (RefT rb S) Φ)))))))) := g1
        have g3 : At W _ (Both (CellT s #[.int .i64 1, .int .i64 o2, .int .i64 o3, .slice av cl cv] tOp9) (Both (CellT kx (wl9C sb rb (.slice ao1 (n + 1) cp1) (.slice ao2 (n + 1) cp2)) tWl9) (Both (RowG tBF 1 (.slice ao1 (n + 1) cp1) (n + 1) (As ++ [.pointer (pa k)])) (Both (RowG tBG 1 (.slice ao2 (n + 1) cp2) (n + 1) (Bs ++ [.pointer (pb kr)])) (Both (X k) (Both (Y kr) (Both (StoreT sb S) (Both (RefT rb S) Φ)))))))) := g2.perm (by ac_rfl)
        refine HK.out _ _ ?_
        have hJ := HJ.out
        go_meet
        case rel => exact ⟨ao1, cp1, ao2, cp2, g3⟩
    case rest =>
      obtain ⟨ao1, cp1, ao2, cp2, hcu⟩ := hcut
      have HR := Lib.hid hcu
      clear hcu H15 hst9 hst10 hst11 hvw q1 q4 lkx
      have hmk := hma k
      have hmk2 := hmb kr
      have HCO := Lib.hid (code9_calls (HF.out.below HR.out.below) HOK.out)
      clear hma hmb
      generalize errV ef c = dv at *
      (repeat' (first | (go_big_may; fail) | go_values | go_skip | go_guarded | go_step | go_upon | go_back | dsimp only))
      refine HCO.out.mono ?_
      rintro e w20 ⟨rfl, rfl⟩
      (repeat' (first | (go_big_may; fail) | go_values | go_skip | go_guarded | go_step | go_upon | go_back | dsimp only))
      go_ret
      exact ⟨rfl, k, kr, _, _, HR.out.drop⟩
end
end Go.Proofs.YthcicmbkkkhifaaGreatDoor
namespace Go.Proofs.YthcicmbkkkhifaaGreatDoor
open Go.RowKit

section
variable {W w : World} {Φ : Thing} {kx sb rb : Nat} {ef : Nat → Nat × Nat} {S : St} {fv gv : Value} {n : Nat} {As Bs : List Value} {o1 o2 o3 : Int}
set_option maxRecDepth 100000 in
set_option maxHeartbeats 100000000 in
theorem step_break (h : At W w (Both (CellT kx (wl9C sb rb fv gv) tWl9) (Both (RowG tBF 1 fv n As) (Both (StoreT sb S) (Both (RefT rb S) Φ))))) (hΦ : Stable Φ) (hn : n ≤ 1099511627776) (ho : o1 = 5) (ho2 : inI64 o2) (ho3 : inI64 o3) (av : Option Addr) (cl cv : Nat) :
    Calls Tryz.prog 22 #[.pointer (some ⟨kx, 0, none⟩), .agg #[.int .i64 o1, .int .i64 o2, .int .i64 o3, .slice av cl cv]] w fun e w' => e = .returned (.bool true) ∧ At W w' (Both (CellT kx (wl9C sb rb fv gv) tWl9) (Both (RowG tBF 1 fv n As) (Both (StoreT sb (breakS S o3)) (Both (RefT rb (breakS S o3)) Φ)))) := by
  have hst : Stable (Both (CellT kx (wl9C sb rb fv gv) tWl9) (Both (RowG tBF 1 fv n As) (Both (StoreT sb S) (Both (RefT rb S) Φ)))) := (CellT.stable _ _ _).both ((RowG.stable _ _ _ _ _).both ((StoreT.stable _ _).both ((RefT.stable _ _).both hΦ)))
  have HΦ := Lib.hid hΦ
  have HO3 := Lib.hid ho3
  clear hΦ ho3
  subst ho
  obtain ⟨ao, cp, rfl, hcp1, hcp2⟩ := own_shape h.drop.rowG
  have h0 := h.newCell hst #[.int .i64 5, .int .i64 o2, .int .i64 o3, .slice av cl cv] tOp9
  have H0 := Lib.hid h0
  have b0 := cell_at h0.cell.1 0
  have b1 := cell_at h0.cell.1 1
  have b2 := cell_at h0.cell.1 2
  have lb := lt_of_heap h0.cell.1
  have c0 := cell_at h0.drop.cell.1 0
  have c1 := cell_at h0.drop.cell.1 1
  have c2 := cell_at h0.drop.cell.1 2
  have lx := lt_of_heap h0.drop.cell.1
  simp only [List.getElem?_toArray, List.getElem?_cons_zero, List.getElem?_cons_succ] at b0 b1 b2 c0 c1 c2
  have HCP := Lib.hid (And.intro hcp1 hcp2)
  have HST := Lib.hid hst
  clear h h0 hcp1 hcp2 hst
  have hcs : (o2 < 0 ∧ (n : Int) - 1 < 0) ∨ (o2 < 0 ∧ ¬ (n : Int) - 1 < 0) ∨ (¬ o2 < 0 ∧ (n : Int) ≤ o2 ∧ (n : Int) - 1 < 0) ∨ (¬ o2 < 0 ∧ (n : Int) ≤ o2 ∧ ¬ (n : Int) - 1 < 0) ∨ (¬ o2 < 0 ∧ ¬ (n : Int) ≤ o2) := by omega
  rcases hcs with ⟨h1, h3⟩ | ⟨h1, h3⟩ | ⟨h1, h2, h3⟩ | ⟨h1, h2, h3⟩ | ⟨h1, h2⟩
  all_goals
    go_enter Tryz.func22, Tryz.ntmps22
    go_upto_region 11 with (fail)
    generalize w.alloc _ = w1 at *
    generalize w.heap.size = s at *
    (refine region_still_tail 6 (by kernel_rfl) (by kernel_rfl) ?_; simp only [List.take_succ_cons, List.take_zero, List.drop_succ_cons, List.drop_zero]; (iterate 6 (first | ((with_reducible refine still_plain ?_ rfl ?_ ?_); rotate_left; (next => (go_simp; (try with_reducible rfl))); simp only [Act.put, List.setIfInBounds_toArray, List.set_cons_zero, List.set_cons_succ]) | ((with_reducible refine still_skip ?_ ?_); (next => (go_simp; done)); simp only [Act.put, List.setIfInBounds_toArray, List.set_cons_zero, List.set_cons_succ]) | ((with_reducible refine still_val ?_ ?_ ?_ ?_); rotate_left; (next => (go_simp; done)); (next => (go_simp; (try with_reducible rfl))); simp only [Act.put, List.setIfInBounds_toArray, List.set_cons_zero, List.set_cons_succ]))); (with_reducible refine wpStill_nil ?_))
    (repeat' (first | (go_big_may; fail) | go_values | go_skip | go_guarded | go_step | go_upon | go_back | dsimp only))
    have hA : Stable (Both (CellT s #[.int .i64 5, .int .i64 o2, .int .i64 o3, .slice av cl cv] tOp9) (Both (CellT kx (wl9C sb rb (.slice ao n cp) gv) tWl9) (Both (RowG tBF 1 (.slice ao n cp) n As) (Both (RefT rb S) Φ)))) := (CellT.stable _ _ _).both ((CellT.stable _ _ _).both ((RowG.stable _ _ _ _ _).both ((RefT.stable _ _).both HΦ.out)))
    have h6 : At W w1.drew (Both (StoreT sb S) (Both (CellT s #[.int .i64 5, .int .i64 o2, .int .i64 o3, .slice av cl cv] tOp9) (Both (CellT kx (wl9C sb rb (.slice ao n cp) gv) tWl9) (Both (RowG tBF 1 (.slice ao n cp) n As) (Both (RefT rb S) Φ))))) := (H0.out.mono ((CellT.stable _ _ _).both HST.out) (Below.refl _ _).drew).perm (by ac_rfl)
    refine (Break_at h6 hA HO3.out).mono ?_
    rintro e w7 ⟨rfl, h7⟩
    have h8 := h7.perm (show _ = Both (CellT s #[.int .i64 5, .int .i64 o2, .int .i64 o3, .slice av cl cv] tOp9) (Both (CellT kx (wl9C sb rb (.slice ao n cp) gv) tWl9) (Both (RefT rb S) (Both (RowG tBF 1 (.slice ao n cp) n As) (Both (StoreT sb (breakS S o3)) Φ)))) by ac_rfl)
    have b0 := cell_at h8.cell.1 0
    have b2 := cell_at h8.cell.1 2
    have lb := lt_of_heap h8.cell.1
    have c0 := cell_at h8.drop.cell.1 0
    have c2 := cell_at h8.drop.cell.1 2
    have lx := lt_of_heap h8.drop.cell.1
    simp only [List.getElem?_toArray, List.getElem?_cons_zero, List.getElem?_cons_succ] at b0 b2 c0 c2
    have H8 := Lib.hid h8
    clear h6 h7 h8 hA H0
    (repeat' (first | (go_big_may; fail) | go_values | go_skip | go_guarded | go_step | go_upon | go_back | dsimp only))
    (refine region_still_tail 6 (by kernel_rfl) (by kernel_rfl) ?_; simp only [List.take_succ_cons, List.take_zero, List.drop_succ_cons, List.drop_zero]; (iterate 6 (first | ((with_reducible refine still_plain ?_ rfl ?_ ?_); rotate_left; (next => (go_simp; (try with_reducible rfl))); simp only [Act.put, List.setIfInBounds_toArray, List.set_cons_zero, List.set_cons_succ]) | ((with_reducible refine still_skip ?_ ?_); (next => (go_simp; done)); simp only [Act.put, List.setIfInBounds_toArray, List.set_cons_zero, List.set_cons_succ]) | ((with_reducible refine still_val ?_ ?_ ?_ ?_); rotate_left; (next => (go_simp; done)); (next => (go_simp; (try with_reducible rfl))); simp only [Act.put, List.setIfInBounds_toArray, List.set_cons_zero, List.set_cons_succ]))); (with_reducible refine wpStill_nil ?_))
    (repeat' (first | (go_big_may; fail) | go_values | go_skip | go_guarded | go_step | go_upon | go_back | dsimp only))
    have hB : Stable (Both (CellT s #[.int .i64 5, .int .i64 o2, .int .i64 o3, .slice av cl cv] tOp9) (Both (CellT kx (wl9C sb rb (.slice ao n cp) gv) tWl9) (Both (RowG tBF 1 (.slice ao n cp) n As) (Both (StoreT sb (breakS S o3)) Φ)))) := (CellT.stable _ _ _).both ((CellT.stable _ _ _).both ((RowG.stable _ _ _ _ _).both ((StoreT.stable _ _).both HΦ.out)))
    have h9 := (H8.out.perm (show _ = Both (RefT rb S) (Both (CellT s #[.int .i64 5, .int .i64 o2, .int .i64 o3, .slice av cl cv] tOp9) (Both (CellT kx (wl9C sb rb (.slice ao n cp) gv) tWl9) (Both (RowG tBF 1 (.slice ao n cp) n As) (Both (StoreT sb (breakS S o3)) Φ)))) by ac_rfl)).mono ((RefT.stable _ _).both hB) (Below.refl _ _).drew
    refine (rBreak_at h9 hB HO3.out).mono ?_
    rintro e w10 ⟨rfl, h10⟩
    have h11 := h10.perm (show _ = Both (CellT s #[.int .i64 5, .int .i64 o2, .int .i64 o3, .slice av cl cv] tOp9) (Both (CellT kx (wl9C sb rb (.slice ao n cp) gv) tWl9) (Both (RowG tBF 1 (.slice ao n cp) n As) (Both (StoreT sb (breakS S o3)) (Both (RefT rb (breakS S o3)) Φ)))) by ac_rfl)
    have b0 := cell_at h11.cell.1 0
    have lb := lt_of_heap h11.cell.1
    simp only [List.getElem?_toArray, List.getElem?_cons_zero, List.getElem?_cons_succ] at b0
    have HEND := Lib.hid h11
    clear h9 h10 h11 hB H8
    (repeat' (first | (go_big_may; fail) | go_values | go_skip | go_guarded | go_step | go_upon | go_back | dsimp only))
    go_ret
    exact ⟨rfl, HEND.out.drop⟩
set_option maxRecDepth 100000 in
set_option maxHeartbeats 100000000 in
theorem step_store (h : At W w (Both (CellT kx (wl9C sb rb fv gv) tWl9) (Both (RowG tBF 1 fv n As) (Both (StoreT sb S) (Both (RefT rb S) Φ))))) (hΦ : Stable Φ) (hG : GoodS S) (hS : Sealed S) (hn : n ≤ 1099511627776) (ho : o1 = 6) (ho2 : inI64 o2) (av : Option Addr) (cl cv : Nat) :
    Calls Tryz.prog 22 #[.pointer (some ⟨kx, 0, none⟩), .agg #[.int .i64 o1, .int .i64 o2, .int .i64 o3, .slice av cl cv]] w fun e w' => e = .returned (.bool true) ∧ At W w' (Both (CellT kx (wl9C sb rb fv gv) tWl9) (Both (RowG tBF 1 fv n As) (Both (StoreT sb S) (Both (RefT rb S) Φ)))) := by
  have hst : Stable (Both (CellT kx (wl9C sb rb fv gv) tWl9) (Both (RowG tBF 1 fv n As) (Both (StoreT sb S) (Both (RefT rb S) Φ)))) := (CellT.stable _ _ _).both ((RowG.stable _ _ _ _ _).both ((StoreT.stable _ _).both ((RefT.stable _ _).both hΦ)))
  have HΦ := Lib.hid hΦ
  have HG := Lib.hid (And.intro hG hS)
  clear hΦ hG hS
  subst ho
  obtain ⟨ao, cp, rfl, hcp1, hcp2⟩ := own_shape h.drop.rowG
  have h0 := h.newCell hst #[.int .i64 6, .int .i64 o2, .int .i64 o3, .slice av cl cv] tOp9
  have H0 := Lib.hid h0
  have b0 := cell_at h0.cell.1 0
  have b1 := cell_at h0.cell.1 1
  have b2 := cell_at h0.cell.1 2
  have lb := lt_of_heap h0.cell.1
  have c0 := cell_at h0.drop.cell.1 0
  have c1 := cell_at h0.drop.cell.1 1
  have c2 := cell_at h0.drop.cell.1 2
  have lx := lt_of_heap h0.drop.cell.1
  simp only [List.getElem?_toArray, List.getElem?_cons_zero, List.getElem?_cons_succ] at b0 b1 b2 c0 c1 c2
  have HCP := Lib.hid (And.intro hcp1 hcp2)
  have HST := Lib.hid hst
  clear h h0 hcp1 hcp2 hst
  have hcs : (o2 < 0 ∧ (n : Int) - 1 < 0) ∨ (o2 < 0 ∧ ¬ (n : Int) - 1 < 0) ∨ (¬ o2 < 0 ∧ (n : Int) ≤ o2 ∧ (n : Int) - 1 < 0) ∨ (¬ o2 < 0 ∧ (n : Int) ≤ o2 ∧ ¬ (n : Int) - 1 < 0) ∨ (¬ o2 < 0 ∧ ¬ (n : Int) ≤ o2) := by omega
  rcases hcs with ⟨h1, h3⟩ | ⟨h1, h3⟩ | ⟨h1, h2, h3⟩ | ⟨h1, h2, h3⟩ | ⟨h1, h2⟩
  all_goals
    go_enter Tryz.func22, Tryz.ntmps22
    go_upto_region 14 with (fail)
    generalize w.alloc _ = w1 at *
    generalize w.heap.size = s at *
    (repeat' (first | (go_big_may; fail) | go_values | go_skip | go_guarded | go_step | go_upon | go_back | dsimp only))
    refine (alike_calls (H0.out.perm (show _ = Both (CellT kx (wl9C sb rb (.slice ao n cp) gv) tWl9) (Both (StoreT sb S) (Both (RefT rb S) (Both (RowG tBF 1 (.slice ao n cp) n As) (Both (CellT s #[.int .i64 6, .int .i64 o2, .int .i64 o3, .slice av cl cv] tOp9) Φ)))) by ac_rfl)) ((RowG.stable _ _ _ _ _).both ((CellT.stable _ _ _).both HΦ.out)) HG.out.1 HG.out.2).mono ?_
    rintro e w7 ⟨rfl, h7⟩
    have HEND := Lib.hid (h7.perm (show _ = Both (CellT s #[.int .i64 6, .int .i64 o2, .int .i64 o3, .slice av cl cv] tOp9) (Both (CellT kx (wl9C sb rb (.slice ao n cp) gv) tWl9) (Both (RowG tBF 1 (.slice ao n cp) n As) (Both (StoreT sb S) (Both (RefT rb S) Φ)))) by ac_rfl))
    clear h7 H0 b0 b1 b2 c0 c1 c2 lb lx
    (repeat' (first | (go_big_may; fail) | go_values | go_skip | go_guarded | go_step | go_upon | go_back | dsimp only))
    go_ret
    exact ⟨rfl, HEND.out.drop⟩
set_option maxRecDepth 100000 in
set_option maxHeartbeats 100000000 in
theorem step_other (h : At W w (Both (CellT kx (wl9C sb rb fv gv) tWl9) (Both (RowG tBF 1 fv n As) Φ))) (hΦ : Stable Φ) (hn : n ≤ 1099511627776) (ho : o1 < 1 ∨ 7 < o1 ∨ (n = 0 ∧ (o1 = 2 ∨ o1 = 3 ∨ o1 = 4))) (ho2 : inI64 o2) (av : Option Addr) (cl cv : Nat) :
    Calls Tryz.prog 22 #[.pointer (some ⟨kx, 0, none⟩), .agg #[.int .i64 o1, .int .i64 o2, .int .i64 o3, .slice av cl cv]] w fun e w' => e = .returned (.bool true) ∧ At W w' (Both (CellT kx (wl9C sb rb fv gv) tWl9) (Both (RowG tBF 1 fv n As) Φ)) := by
  have hst : Stable (Both (CellT kx (wl9C sb rb fv gv) tWl9) (Both (RowG tBF 1 fv n As) Φ)) := (CellT.stable _ _ _).both ((RowG.stable _ _ _ _ _).both hΦ)
  have HΦ := Lib.hid hΦ
  clear hΦ
  have k1 : (o1 == 1) = false := beq_eq_false_iff_ne.2 (by omega)
  have k5 : (o1 == 5) = false := beq_eq_false_iff_ne.2 (by omega)
  have k6 : (o1 == 6) = false := beq_eq_false_iff_ne.2 (by omega)
  have k7 : (o1 == 7) = false := beq_eq_false_iff_ne.2 (by omega)
  obtain ⟨ao, cp, rfl, hcp1, hcp2⟩ := own_shape h.drop.rowG
  have h0 := h.newCell hst #[.int .i64 o1, .int .i64 o2, .int .i64 o3, .slice av cl cv] tOp9
  have H0 := Lib.hid h0
  have b0 := cell_at h0.cell.1 0
  have b1 := cell_at h0.cell.1 1
  have b2 := cell_at h0.cell.1 2
  have lb := lt_of_heap h0.cell.1
  have c0 := cell_at h0.drop.cell.1 0
  have c1 := cell_at h0.drop.cell.1 1
  have c2 := cell_at h0.drop.cell.1 2
  have lx := lt_of_heap h0.drop.cell.1
  simp only [List.getElem?_toArray, List.getElem?_cons_zero, List.getElem?_cons_succ] at b0 b1 b2 c0 c1 c2
  have HCP := Lib.hid (And.intro hcp1 hcp2)
  have HST := Lib.hid hst
  clear h h0 hcp1 hcp2 hst
  rcases ho with ho | ho | ⟨h0n, ho⟩
  · have k2 : o1 < 2 := by omega
    clear ho
    have hcs : (o2 < 0 ∧ (n : Int) - 1 < 0) ∨ (o2 < 0 ∧ ¬ (n : Int) - 1 < 0) ∨ (¬ o2 < 0 ∧ (n : Int) ≤ o2 ∧ (n : Int) - 1 < 0) ∨ (¬ o2 < 0 ∧ (n : Int) ≤ o2 ∧ ¬ (n : Int) - 1 < 0) ∨ (¬ o2 < 0 ∧ ¬ (n : Int) ≤ o2) := by omega
    rcases hcs with ⟨h1, h3⟩ | ⟨h1, h3⟩ | ⟨h1, h2, h3⟩ | ⟨h1, h2, h3⟩ | ⟨h1, h2⟩
    all_goals
      go_enter Tryz.func22, Tryz.ntmps22
      go_upto_region 18 with (fail)
      generalize w.alloc _ = w1 at *
      generalize w.heap.size = s at *
      (repeat' (first | (go_big_may; fail) | go_values | go_skip | go_guarded | go_step | go_upon | go_back | dsimp only))
      go_ret
      exact ⟨rfl, H0.out.drop⟩
  · have k2 : ¬ o1 < 2 := by omega
    have k4 : 4 < o1 := by omega
    clear ho
    have hcs : (o2 < 0 ∧ (n : Int) - 1 < 0) ∨ (o2 < 0 ∧ ¬ (n : Int) - 1 < 0) ∨ (¬ o2 < 0 ∧ (n : Int) ≤ o2 ∧ (n : Int) - 1 < 0) ∨ (¬ o2 < 0 ∧ (n : Int) ≤ o2 ∧ ¬ (n : Int) - 1 < 0) ∨ (¬ o2 < 0 ∧ ¬ (n : Int) ≤ o2) := by omega
    rcases hcs with ⟨h1, h3⟩ | ⟨h1, h3⟩ | ⟨h1, h2, h3⟩ | ⟨h1, h2, h3⟩ | ⟨h1, h2⟩
    all_goals
      go_enter Tryz.func22, Tryz.ntmps22
      go_upto_region 18 with (fail)
      generalize w.alloc _ = w1 at *
      generalize w.heap.size = s at *
      (repeat' (first | (go_big_may; fail) | go_values | go_skip | go_guarded | go_step | go_upon | go_back | dsimp only))
      go_ret
      exact ⟨rfl, H0.out.drop⟩
  · have hcs : (o2 < 0 ∧ (n : Int) - 1 < 0) ∨ (¬ o2 < 0 ∧ (n : Int) ≤ o2 ∧ (n : Int) - 1 < 0) := by omega
    clear ho h0n
    rcases hcs with ⟨h1, h3⟩ | ⟨h1, h2, h3⟩
    all_goals
      go_enter Tryz.func22, Tryz.ntmps22
      go_upto_region 18 with (fail)
      generalize w.alloc _ = w1 at *
      generalize w.heap.size = s at *
      (repeat' (first | (go_big_may; fail) | go_values | go_skip | go_guarded | go_step | go_upon | go_back | dsimp only))
      go_ret
      exact ⟨rfl, H0.out.drop⟩
end
end Go.Proofs.YthcicmbkkkhifaaGreatDoor
namespace Go.Proofs.YthcicmbkkkhifaaGreatDoor
open Go.RowKit

section
variable {W w : World} {Φ : Thing} {kx sb rb : Nat} {ef : Nat → Nat × Nat} {S : St} {fv gv : Value} {n : Nat} {As Bs : List Value} {o1 o2 o3 : Int}
set_option maxRecDepth 100000 in
set_option maxHeartbeats 100000000 in
theorem step_remove (h : At W w (Both (CellT kx (wl9C sb rb fv gv) tWl9) (Both (RowG tBF 1 fv n As) (Both (StoreT sb S) (Both (RefT rb S) Φ))))) (hΦ : Stable Φ) (hF : Fails W ef fails13) (hG : GoodS S) (hn : n ≤ 1099511627776) (ho : o1 = 7) (ho2 : inI64 o2) (ho3 : inI64 o3) (av : Option Addr) (cl cv : Nat) :
    Calls Tryz.prog 22 #[.pointer (some ⟨kx, 0, none⟩), .agg #[.int .i64 o1, .int .i64 o2, .int .i64 o3, .slice av cl cv]] w fun e w' => e = .returned (.bool true) ∧ At W w' (Both (CellT kx (wl9C sb rb fv gv) tWl9) (Both (RowG tBF 1 fv n As) (Both (StoreT sb (removeP S o3).1) (Both (RefT rb (removeP S o3).1) Φ)))) := by
  have hst : Stable (Both (CellT kx (wl9C sb rb fv gv) tWl9) (Both (RowG tBF 1 fv n As) (Both (StoreT sb S) (Both (RefT rb S) Φ)))) := (CellT.stable _ _ _).both ((RowG.stable _ _ _ _ _).both ((StoreT.stable _ _).both ((RefT.stable _ _).both hΦ)))
  have HΦ := Lib.hid hΦ
  have HO3 := Lib.hid ho3
  have HF := Lib.hid hF
  have HG := Lib.hid hG
  obtain ⟨P, hP⟩ : ∃ P, P = removeP S o3 := ⟨_, rfl⟩
  rw [← hP]
  have HP := Lib.hid hP
  clear hΦ ho3 hP hF hG
  subst ho
  obtain ⟨ao, cp, rfl, hcp1, hcp2⟩ := own_shape h.drop.rowG
  have h0 := h.newCell hst #[.int .i64 7, .int .i64 o2, .int .i64 o3, .slice av cl cv] tOp9
  have H0 := Lib.hid h0
  have b0 := cell_at h0.cell.1 0
  have b1 := cell_at h0.cell.1 1
  have b2 := cell_at h0.cell.1 2
  have lb := lt_of_heap h0.cell.1
  have c0 := cell_at h0.drop.cell.1 0
  have c1 := cell_at h0.drop.cell.1 1
  have c2 := cell_at h0.drop.cell.1 2
  have lx := lt_of_heap h0.drop.cell.1
  simp only [List.getElem?_toArray, List.getElem?_cons_zero, List.getElem?_cons_succ] at b0 b1 b2 c0 c1 c2
  have HCP := Lib.hid (And.intro hcp1 hcp2)
  have HST := Lib.hid hst
  clear h h0 hcp1 hcp2 hst
  obtain ⟨c, hc⟩ : ∃ c, P.2 = c := ⟨_, rfl⟩
  have HC := Lib.hid hc
  clear hc
  by_cases hz : c = 0
  · skip
    subst hz
    have heq := eql_nil
    have hcs : (o2 < 0 ∧ (n : Int) - 1 < 0) ∨ (o2 < 0 ∧ ¬ (n : Int) - 1 < 0) ∨ (¬ o2 < 0 ∧ (n : Int) ≤ o2 ∧ (n : Int) - 1 < 0) ∨ (¬ o2 < 0 ∧ (n : Int) ≤ o2 ∧ ¬ (n : Int) - 1 < 0) ∨ (¬ o2 < 0 ∧ ¬ (n : Int) ≤ o2) := by omega
    rcases hcs with ⟨h1, h3⟩ | ⟨h1, h3⟩ | ⟨h1, h2, h3⟩ | ⟨h1, h2, h3⟩ | ⟨h1, h2⟩
    all_goals
      go_enter Tryz.func22, Tryz.ntmps22
      go_upto_region 16 with (fail)
      generalize w.alloc _ = w1 at *
      generalize w.heap.size = s at *
      have hst1 : Stable (Both (CellT s #[.int .i64 7, .int .i64 o2, .int .i64 o3, .slice av cl cv] tOp9) (Both (CellT kx (wl9C sb rb (.slice ao n cp) gv) tWl9) (Both (RowG tBF 1 (.slice ao n cp) n As) (Both (StoreT sb S) (Both (RefT rb S) Φ))))) := (CellT.stable _ _ _).both HST.out
      have hrem := fun (w' : World) (hb : Below w1.heap.size w1 w') => Remove_7 ((H0.out.mono hst1 hb).perm (show _ = Both (StoreT sb S) (Both (CellT s #[.int .i64 7, .int .i64 o2, .int .i64 o3, .slice av cl cv] tOp9) (Both (CellT kx (wl9C sb rb (.slice ao n cp) gv) tWl9) (Both (RowG tBF 1 (.slice ao n cp) n As) (Both (RefT rb S) Φ)))) by ac_rfl)) ((CellT.stable _ _ _).both ((CellT.stable _ _ _).both ((RowG.stable _ _ _ _ _).both ((RefT.stable _ _).both HΦ.out)))) (fails11_7 (fails12_11 (fails13_12 HF.out))) HO3.out HG.out.le
      have hrrm := fun (w' : World) (h : At W w' (Both (RefT rb S) (Both (CellT s #[.int .i64 7, .int .i64 o2, .int .i64 o3, .slice av cl cv] tOp9) (Both (CellT kx (wl9C sb rb (.slice ao n cp) gv) tWl9) (Both (RowG tBF 1 (.slice ao n cp) n As) (Both (StoreT sb P.1) Φ)))))) => rRemove_at h ((CellT.stable _ _ _).both ((CellT.stable _ _ _).both ((RowG.stable _ _ _ _ _).both ((StoreT.stable _ _).both HΦ.out)))) HG.out HO3.out
      rw [← HP.out] at hrem hrrm
      rw [HC.out] at hrem hrrm
      simp only [errV_zero] at hrem
      have HREM := Lib.hid hrem
      have HRRM := Lib.hid hrrm
      have hcg := And.intro c0 (And.intro c2 b2)
      clear hrem hrrm hst1 b0 b1 c0 c1 c2 b2
      (repeat' (first | (go_big_may; fail) | go_values | go_skip | go_guarded | go_step | go_upon | go_back | dsimp only))
      go_region_held3 (fun wx => wx.cell? ⟨kx, 0, none⟩ = some (.pointer (some ⟨sb, 0, none⟩)) ∧ wx.cell? ⟨kx, 2, none⟩ = some (.pointer (some ⟨rb, 0, none⟩)) ∧ wx.cell? ⟨s, 2, none⟩ = some (.int .i64 o3)) (first | assumption | go_keep) ((first
        | (go_at_call 33; (refine Calls.mono (HRRM.out _ H7.out) ?_); rintro e w8 ⟨rfl, h8⟩
           have h9 := h8.perm (show _ = Both (CellT s #[.int .i64 7, .int .i64 o2, .int .i64 o3, .slice av cl cv] tOp9) (Both (CellT kx (wl9C sb rb (.slice ao n cp) gv) tWl9) (Both (RowG tBF 1 (.slice ao n cp) n As) (Both (StoreT sb P.1) (Both (RefT rb P.1) Φ)))) by ac_rfl)
           have q0 := cell_at h9.drop.cell.1 0
           have q2 := cell_at h9.drop.cell.1 2
           have q3 := cell_at h9.cell.1 2
           have cg9 := And.intro q0 (And.intro q2 q3)
           have H8 := Lib.hid h9
           clear h8 h9)
        | (go_at_call 32; (refine Calls.mono (HREM.out _ (by exact ⟨rfl, rfl, rfl, Nat.le_refl _, fun _ _ => rfl⟩)) ?_); rintro e w7 ⟨rfl, h7⟩
           have h9 := h7.perm (show _ = Both (RefT rb S) (Both (CellT s #[.int .i64 7, .int .i64 o2, .int .i64 o3, .slice av cl cv] tOp9) (Both (CellT kx (wl9C sb rb (.slice ao n cp) gv) tWl9) (Both (RowG tBF 1 (.slice ao n cp) n As) (Both (StoreT sb P.1) Φ)))) by ac_rfl)
           have p0 := cell_at h9.drop.drop.cell.1 0
           have p2 := cell_at h9.drop.drop.cell.1 2
           have p3 := cell_at h9.drop.cell.1 2
           have cg7 := And.intro p0 (And.intro p2 p3)
           have l7 := lt_of_heap h9.drop.drop.cell.1
           have l7s := lt_of_heap h9.drop.cell.1
           have H7 := Lib.hid h9
           clear h7 h9)))
      all_goals
        (repeat' (first | (go_big_may; fail) | go_values | go_skip | go_guarded | go_step | go_upon | go_back | dsimp only))
        go_ret
        exact ⟨rfl, H8.out.drop⟩
  · have heq := eql_errV ef hz
    have hq0 : ((c : Int) == 0) = false := beq_eq_false_iff_ne.2 (by omega)
    have hep := errV_pos ef hz
    rw [hep] at heq
    have HEP := Lib.hid hep
    clear hz hep
    have hcs : (o2 < 0 ∧ (n : Int) - 1 < 0) ∨ (o2 < 0 ∧ ¬ (n : Int) - 1 < 0) ∨ (¬ o2 < 0 ∧ (n : Int) ≤ o2 ∧ (n : Int) - 1 < 0) ∨ (¬ o2 < 0 ∧ (n : Int) ≤ o2 ∧ ¬ (n : Int) - 1 < 0) ∨ (¬ o2 < 0 ∧ ¬ (n : Int) ≤ o2) := by omega
    rcases hcs with ⟨h1, h3⟩ | ⟨h1, h3⟩ | ⟨h1, h2, h3⟩ | ⟨h1, h2, h3⟩ | ⟨h1, h2⟩
    all_goals
      go_enter Tryz.func22, Tryz.ntmps22
      go_upto_region 16 with (fail)
      generalize w.alloc _ = w1 at *
      generalize w.heap.size = s at *
      have hst1 : Stable (Both (CellT s #[.int .i64 7, .int .i64 o2, .int .i64 o3, .slice av cl cv] tOp9) (Both (CellT kx (wl9C sb rb (.slice ao n cp) gv) tWl9) (Both (RowG tBF 1 (.slice ao n cp) n As) (Both (StoreT sb S) (Both (RefT rb S) Φ))))) := (CellT.stable _ _ _).both HST.out
      have hrem := fun (w' : World) (hb : Below w1.heap.size w1 w') => Remove_7 ((H0.out.mono hst1 hb).perm (show _ = Both (StoreT sb S) (Both (CellT s #[.int .i64 7, .int .i64 o2, .int .i64 o3, .slice av cl cv] tOp9) (Both (CellT kx (wl9C sb rb (.slice ao n cp) gv) tWl9) (Both (RowG tBF 1 (.slice ao n cp) n As) (Both (RefT rb S) Φ)))) by ac_rfl)) ((CellT.stable _ _ _).both ((CellT.stable _ _ _).both ((RowG.stable _ _ _ _ _).both ((RefT.stable _ _).both HΦ.out)))) (fails11_7 (fails12_11 (fails13_12 HF.out))) HO3.out HG.out.le
      have hrrm := fun (w' : World) (h : At W w' (Both (RefT rb S) (Both (CellT s #[.int .i64 7, .int .i64 o2, .int .i64 o3, .slice av cl cv] tOp9) (Both (CellT kx (wl9C sb rb (.slice ao n cp) gv) tWl9) (Both (RowG tBF 1 (.slice ao n cp) n As) (Both (StoreT sb P.1) Φ)))))) => rRemove_at h ((CellT.stable _ _ _).both ((CellT.stable _ _ _).both ((RowG.stable _ _ _ _ _).both ((StoreT.stable _ _).both HΦ.out)))) HG.out HO3.out
      rw [← HP.out] at hrem hrrm
      rw [HC.out] at hrem hrrm
      simp only [HEP.out] at hrem
      have HREM := Lib.hid hrem
      have HRRM := Lib.hid hrrm
      have hcg := And.intro c0 (And.intro c2 b2)
      clear hrem hrrm hst1 b0 b1 c0 c1 c2 b2
      (repeat' (first | (go_big_may; fail) | go_values | go_skip | go_guarded | go_step | go_upon | go_back | dsimp only))
      go_region_held3 (fun wx => wx.cell? ⟨kx, 0, none⟩ = some (.pointer (some ⟨sb, 0, none⟩)) ∧ wx.cell? ⟨kx, 2, none⟩ = some (.pointer (some ⟨rb, 0, none⟩)) ∧ wx.cell? ⟨s, 2, none⟩ = some (.int .i64 o3)) (first | assumption | go_keep) ((first
        | (go_at_call 33; (refine Calls.mono (HRRM.out _ H7.out) ?_); rintro e w8 ⟨rfl, h8⟩
           have h9 := h8.perm (show _ = Both (CellT s #[.int .i64 7, .int .i64 o2, .int .i64 o3, .slice av cl cv] tOp9) (Both (CellT kx (wl9C sb rb (.slice ao n cp) gv) tWl9) (Both (RowG tBF 1 (.slice ao n cp) n As) (Both (StoreT sb P.1) (Both (RefT rb P.1) Φ)))) by ac_rfl)
           have q0 := cell_at h9.drop.cell.1 0
           have q2 := cell_at h9.drop.cell.1 2
           have q3 := cell_at h9.cell.1 2
           have cg9 := And.intro q0 (And.intro q2 q3)
           have H8 := Lib.hid h9
           clear h8 h9)
        | (go_at_call 32; (refine Calls.mono (HREM.out _ (by exact ⟨rfl, rfl, rfl, Nat.le_refl _, fun _ _ => rfl⟩)) ?_); rintro e w7 ⟨rfl, h7⟩
           have h9 := h7.perm (show _ = Both (RefT rb S) (Both (CellT s #[.int .i64 7, .int .i64 o2, .int .i64 o3, .slice av cl cv] tOp9) (Both (CellT kx (wl9C sb rb (.slice ao n cp) gv) tWl9) (Both (RowG tBF 1 (.slice ao n cp) n As) (Both (StoreT sb P.1) Φ)))) by ac_rfl)
           have p0 := cell_at h9.drop.drop.cell.1 0
           have p2 := cell_at h9.drop.drop.cell.1 2
           have p3 := cell_at h9.drop.cell.1 2
           have cg7 := And.intro p0 (And.intro p2 p3)
           have l7 := lt_of_heap h9.drop.drop.cell.1
           have l7s := lt_of_heap h9.drop.cell.1
           have H7 := Lib.hid h9
           clear h7 h9)))
      all_goals
        (repeat' (first | (go_big_may; fail) | go_values | go_skip | go_guarded | go_step | go_upon | go_back | dsimp only))
        go_ret
        exact ⟨rfl, H8.out.drop⟩
end
end Go.Proofs.YthcicmbkkkhifaaGreatDoor
namespace Go.Proofs.YthcicmbkkkhifaaGreatDoor
open Go.RowKit

section
variable {W w : World} {Z Z' : Thing} {kx sb rb : Nat} {fv gv : Value} {n : Nat} {As Bs : List Value} {o1 o2 o3 : Int}
set_option maxRecDepth 100000 in
set_option maxHeartbeats 100000000 in
theorem step_former (h : At W w (Both (CellT kx (wl9C sb rb fv gv) tWl9) (Both (RowG tBF 1 fv n As) (Both (RowG tBG 1 gv n Bs) Z)))) (hZ : Stable Z) (hZ' : Stable Z') (hn : n ≤ 1099511627776) (ho : o1 = 2 ∨ o1 = 3 ∨ o1 = 4) (ho2 : inI64 o2) (av : Option Addr) (cl cv : Nat)
    {i : Nat} (hi : i < n) (hi2 : (0 ≤ o2 ∧ o2 = (i : Int)) ∨ ((o2 < 0 ∨ (n : Int) ≤ o2) ∧ i + 1 = n)) {pa pb : Option Addr} (hpa : As[i]? = some (.pointer pa)) (hpb : Bs[i]? = some (.pointer pb))
    (hFo : ∀ w1 R', Stable R' → At W w1 (Both (CellT kx (wl9C sb rb fv gv) tWl9) (Both Z R')) → Calls Tryz.prog 34 #[.pointer (some ⟨kx, 0, none⟩), .pointer pa, .pointer pb, .agg #[.int .i64 o1, .int .i64 o2, .int .i64 o3, .slice av cl cv]] w1 fun e w' => e = .returned (.bool true) ∧ At W w' (Both (CellT kx (wl9C sb rb fv gv) tWl9) (Both Z' R'))) :
    Calls Tryz.prog 22 #[.pointer (some ⟨kx, 0, none⟩), .agg #[.int .i64 o1, .int .i64 o2, .int .i64 o3, .slice av cl cv]] w fun e w' => e = .returned (.bool true) ∧ At W w' (Both (CellT kx (wl9C sb rb fv gv) tWl9) (Both (RowG tBF 1 fv n As) (Both (RowG tBG 1 gv n Bs) Z'))) := by
  have hst : Stable (Both (CellT kx (wl9C sb rb fv gv) tWl9) (Both (RowG tBF 1 fv n As) (Both (RowG tBG 1 gv n Bs) Z))) := (CellT.stable _ _ _).both ((RowG.stable _ _ _ _ _).both ((RowG.stable _ _ _ _ _).both hZ))
  have HZ := Lib.hid (And.intro hZ hZ')
  have HFO := Lib.hid hFo
  obtain ⟨gp, cp, hgp, _, _, _⟩ := own_cut h.drop.rowG (by omega)
  obtain ⟨gq, cq, hgq, _, _, _⟩ := own_cut h.drop.drop.rowG (by omega)
  subst hgp hgq
  have h0 := h.newCell hst #[.int .i64 o1, .int .i64 o2, .int .i64 o3, .slice av cl cv] tOp9
  have p0 := (h0.drop.drop.rowG).cellAt i (by omega)
  have r0 := (h0.drop.drop.drop.rowG).cellAt i (by omega)
  rw [hpa] at p0
  rw [hpb] at r0
  have lp := World.block_lt_of_cell? _ _ p0
  have lr := World.block_lt_of_cell? _ _ r0
  have H0 := Lib.hid h0
  have b0 := cell_at h0.cell.1 0
  have b1 := cell_at h0.cell.1 1
  have b2 := cell_at h0.cell.1 2
  have b3 := cell_at h0.cell.1 3
  have lb := lt_of_heap h0.cell.1
  have c1 := cell_at h0.drop.cell.1 1
  have c3 := cell_at h0.drop.cell.1 3
  have lx := lt_of_heap h0.drop.cell.1
  simp only [List.getElem?_toArray, List.getElem?_cons_zero, List.getElem?_cons_succ] at b0 b1 b2 b3 c1 c3
  have HST := Lib.hid hst
  have hi0 : (0 : Int) ≤ i := by omega
  have hi1 : (i : Int) < n := by omega
  have hcs : (o2 = (i : Int) ∧ ¬ o2 < 0 ∧ ¬ (n : Int) ≤ o2) ∨ (o2 < 0 ∧ (n : Int) - 1 = (i : Int)) ∨ (¬ o2 < 0 ∧ (n : Int) ≤ o2 ∧ (n : Int) - 1 = (i : Int)) := by omega
  clear h h0 hst hFo hZ hZ' hi2 hpa hpb hi
  rcases ho with rfl | rfl | rfl
  all_goals
    rcases hcs with ⟨rfl, h1, h2⟩ | ⟨h1, h3⟩ | ⟨h1, h2, h3⟩
  all_goals
    go_enter Tryz.func22, Tryz.ntmps22
    go_upto_region 19 with (fail)
    generalize w.alloc _ = w1 at *
    generalize w.heap.size = s at *
    (repeat' (first | (go_big_may; fail) | go_values | go_skip | go_guarded | go_step | go_upon | go_back | dsimp only))
    (refine region_still_tail 16 (by kernel_rfl) (by kernel_rfl) ?_; simp only [List.take_succ_cons, List.take_zero, List.drop_succ_cons, List.drop_zero]; (iterate 16 (first | ((with_reducible refine still_plain ?_ rfl ?_ ?_); rotate_left; (next => (go_simp; (try with_reducible rfl))); simp only [Act.put, List.setIfInBounds_toArray, List.set_cons_zero, List.set_cons_succ]) | ((with_reducible refine still_skip ?_ ?_); (next => (go_simp; done)); simp only [Act.put, List.setIfInBounds_toArray, List.set_cons_zero, List.set_cons_succ]) | ((with_reducible refine still_val ?_ ?_ ?_ ?_); rotate_left; (next => (go_simp; done)); (next => (go_simp; (try with_reducible rfl))); simp only [Act.put, List.setIfInBounds_toArray, List.set_cons_zero, List.set_cons_succ]))); (with_reducible refine wpStill_nil ?_))
    (repeat' (first | (go_big_may; fail) | go_values | go_skip | go_guarded | go_step | go_upon | go_back | dsimp only))
    refine (HFO.out _ (Both (CellT s _ tOp9) (Both (RowG tBF 1 _ n As) (RowG tBG 1 _ n Bs))) ((CellT.stable _ _ _).both ((RowG.stable _ _ _ _ _).both (RowG.stable _ _ _ _ _))) ((H0.out.mono ((CellT.stable _ _ _).both HST.out) (Below.refl _ _).drew).perm (by ac_rfl))).mono ?_
    rintro e w7 ⟨rfl, h7⟩
    have HEND := Lib.hid h7
    clear h7 H0 b0 b1 b2 b3 c1 c3 lb lx p0 r0 lp lr
    (repeat' (first | (go_big_may; fail) | go_values | go_skip | go_guarded | go_step | go_upon | go_back | dsimp only))
    go_ret
    exact ⟨rfl, (HEND.out.perm (show _ = Both (CellT s _ tOp9) (Both (CellT kx _ tWl9) (Both (RowG tBF 1 _ n As) (Both (RowG tBG 1 _ n Bs) Z'))) by ac_rfl)).drop⟩
end
end Go.Proofs.YthcicmbkkkhifaaGreatDoor
namespace Go.Proofs.YthcicmbkkkhifaaGreatDoor
open Go.ChangeShapes Go.WideShapes Go.ChangeAt Go.RowKit

structure Op9 where
  k : Int
  at_ : Int
  n : Int
  v : Value
  recs : List (List UInt8)
instance : Inhabited Op9 := ⟨⟨0, 0, 0, .slice none 0 0, []⟩⟩
structure OpOk (W : World) (o : Op9) : Prop where
  k : inI64 o.k
  run : inI64 o.at_
  n : inI64 o.n
  row : RdRow W o.v o.recs.length 1 (strs o.recs)
  len : o.recs.length + sumLen o.recs ≤ 1048576
abbrev cellsO9 (o : Op9) : List Value := [.int .i64 o.k, .int .i64 o.at_, .int .i64 o.n, o.v]
theorem cellsO9_len : ∀ o, (cellsO9 o).length = 4 := fun _ => rfl
/-- A script, that is read. -/
structure OpsRow (W : World) (v : Value) (ops : List Op9) : Prop where
  row : RdRow W v ops.length 4 (ops.flatMap cellsO9)
  each : ∀ o ∈ ops, OpOk W o
theorem OpOk.below {w w' : World} {o : Op9} (h : OpOk w o) (hb : Below w.heap.size w w') : OpOk w' o := ⟨h.k, h.run, h.n, h.row.below hb, h.len⟩
theorem OpsRow.below {w w' : World} {v : Value} {ops : List Op9} (h : OpsRow w v ops) (hb : Below w.heap.size w w') : OpsRow w' v ops := ⟨h.row.below hb, fun o ho => (h.each o ho).below hb⟩
set_option maxRecDepth 100000 in
/-- The i-th call of a script. -/
theorem OpsRow.op {w : World} {v : Value} {ops : List Op9} (h : OpsRow w v ops) {i : Nat} (hi : i < ops.length) :
    ∃ b off cap, v = .slice (some ⟨b, off, none⟩) ops.length cap ∧ (w.cell? ⟨b, off + i * 4, none⟩ = some (.int .i64 (ops.getD i default).k) ∧ w.cell? ⟨b, off + i * 4 + 1, none⟩ = some (.int .i64 (ops.getD i default).at_) ∧
      w.cell? ⟨b, off + i * 4 + 2, none⟩ = some (.int .i64 (ops.getD i default).n) ∧ w.cell? ⟨b, off + i * 4 + 3, none⟩ = some (ops.getD i default).v) ∧
      OpOk w (ops.getD i default) := by
  obtain ⟨b, off, cap, rfl, h0⟩ := h.row.at cellsO9_len hi (by decide)
  refine ⟨b, off, cap, rfl, ⟨h0 0 (by decide), h0 1 (by decide), h0 2 (by decide), h0 3 (by decide)⟩, h.each _ ?_⟩
  rw [List.getD_eq_getElem?_getD, List.getElem?_eq_getElem hi]
  exact List.getElem_mem hi

section
variable {H : Type} {enc : TypeId × Value → H}
theorem inI64_of {n : Int} (w : (Lit.int .i64 n).wf = true) : inI64 n := by
  have := w
  simp [Lit.wf, IntKind.min, IntKind.max, IntKind.signed, IntKind.bits] at this
  unfold inI64
  omega
set_option maxRecDepth 100000 in
theorem op_of {W : World} (fuel : Nat) (cs : List Value) (y : DataW H × List MemPlace) (hl : cs.length = 4) (h : DataW.trod enc Tryz.prog W 0 (fun _ => true) true fuel 61 cs = some y) :
    ∃ o : Op9, cs = cellsO9 o ∧ (inI64 o.k ∧ inI64 o.at_ ∧ inI64 o.n ∧ RdRow W o.v o.recs.length 1 (strs o.recs)) ∧ 1 + (o.recs.length + sumLen o.recs) ≤ Rows.uptoBulk y.1 := by
  obtain ⟨xs, n, rfl, rfl, _, hxl, hf⟩ := DataW.trod_struct Tryz.underlying61 h
  match xs, hxl, cs, hl with
  | [y0, y1, y2, y3], _, [v0, v1, v2, v3], _ =>
    have ci : Tryz.prog.cellsOf 3 = 1 := by kernel_rfl
    have cs : Tryz.prog.cellsOf 22 = 1 := by kernel_rfl
    have g0 := hf 0 _ rfl
    have g1 := hf 1 _ rfl
    have g2 := hf 2 _ rfl
    have g3 := hf 3 _ rfl
    simp [ci, cs] at g0 g1 g2 g3
    obtain ⟨k0, e0, z0, w0⟩ := DataW.trod_int Tryz.underlying3 g0
    obtain ⟨k1, e1, z1, w1⟩ := DataW.trod_int Tryz.underlying3 g1
    obtain ⟨k2, e2, z2, w2⟩ := DataW.trod_int Tryz.underlying3 g2
    obtain ⟨ss, r4, b4⟩ := strs_of Tryz.underlying22 Tryz.underlying9 (by kernel_rfl) (d := y3.1) (ps := y3.2) g3
    simp only [List.cons.injEq, and_true] at e0 e1 e2
    subst e0 e1 e2
    refine ⟨⟨k0, k1, k2, v3, ss⟩, rfl, ⟨inI64_of w0, inI64_of w1, inI64_of w2, r4⟩, ?_⟩
    simp [Rows.uptoBulk, Rows.uptoBulkAll, z0, z1, z2]
    omega

set_option maxRecDepth 100000 in
/-- An argument '[]Op', opened. -/
theorem open_ops {W : World} {r : Reach} {b0 : Nat} {v : Value} {d : DataW H} {ps : List MemPlace}
    (hval : Value.okWide Tryz.prog W r b0 54 v) (hd : DataW.Trod enc Tryz.prog W 0 (fun _ => true) true 54 v d ps) (hk : Rows.uptoBulk d ≤ 1048576) :
    ∃ ops : List Op9, OpsRow W v ops ∧ ops.length ≤ 1048576 := by
  obtain ⟨a0, len, cap, rfl⟩ := okWide_slice Tryz.underlying54 hval
  obtain ⟨fuel, hf⟩ := hd
  obtain ⟨ops, h1, h2, h3⟩ := open_rowsG (c := cellsO9) (Q := fun o => inI64 o.k ∧ inI64 o.at_ ∧ inI64 o.n ∧ RdRow W o.v o.recs.length 1 (strs o.recs)) (B := fun o => 1 + (o.recs.length + sumLen o.recs)) cellsO9_len (by decide) Tryz.underlying54 (by kernel_rfl) op_of (by simpa [Value.cells] using hf)
  have hs : ∀ l : List Op9, l.length ≤ (l.map fun o => 1 + (o.recs.length + sumLen o.recs)).sum ∧ ∀ o ∈ l, o.recs.length + sumLen o.recs ≤ (l.map fun o => 1 + (o.recs.length + sumLen o.recs)).sum := fun l => by
    induction l with
    | nil => simp
    | cons a l ih =>
      simp only [List.length_cons, List.map_cons, List.sum_cons, List.mem_cons]
      refine ⟨by omega, fun o ho => ?_⟩
      rcases ho with rfl | ho
      · omega
      · have := ih.2 o ho; omega
  refine ⟨ops, ⟨h1, fun o ho => ?_⟩, by have := (hs ops).1; omega⟩
  obtain ⟨i0, i1, i2, i3⟩ := h2 o ho
  refine ⟨i0, i1, i2, i3, ?_⟩
  have h4 := (hs ops).2 o ho
  omega
end
end Go.Proofs.YthcicmbkkkhifaaGreatDoor
namespace Go.Proofs.YthcicmbkkkhifaaGreatDoor
open Go.RowKit

/-- A former, the program's and the document's. -/
structure PF where
  k : Nat
  kr : Nat
  f : FmD
structure Play9 (S : St) (l : List (Option PF)) : Prop where
  good : GoodS S
  seal_ : Sealed S
  each : ∀ p, some p ∈ l → FOk S p.f ∧ okB p.f.dead
theorem Play9.new (c : Int) : Play9 (newSt c) [] := ⟨GoodS.new c, (fun _ hp => by cases hp), (fun _ h => by cases h)⟩
theorem Play9.step {S S' : St} {l : List (Option PF)} (h : Play9 S l) (hg : GoodS S') (hs : Sealed S') (hm : S.made ≤ S'.made) : Play9 S' l := ⟨hg, hs, fun p hp => ⟨(h.each p hp).1.step hm, (h.each p hp).2⟩⟩
theorem Play9.more {S : St} {l : List (Option PF)} (h : Play9 S l) (o : Option PF) (ho : ∀ p, o = some p → FOk S p.f ∧ okB p.f.dead) : Play9 S (l ++ [o]) := ⟨h.good, h.seal_, fun p hp => by
  rcases List.mem_append.1 hp with h1 | h1
  · exact h.each p h1
  · exact ho p (List.mem_singleton.1 h1).symm⟩
theorem Play9.set {S S' : St} {l : List (Option PF)} (h : Play9 S l) (i : Nat) {f0 : FmD} {p : PF} (hk : FKeep S S' f0 p.f) (hb : okB p.f.dead) : Play9 S' (l.set i (some p)) := ⟨hk.good, hk.seal_, fun q hq => by
  rcases List.mem_or_eq_of_mem_set hq with h1 | h1
  · exact ⟨(h.each q h1).1.step hk.made, (h.each q h1).2⟩
  · cases h1; exact ⟨hk.ok, hb⟩⟩
theorem seal_remove9 {S : St} (hs : Sealed S) (z : Int) : Sealed (removeP S z).1 := fun p hp => by
  unfold removeP at hp
  split at hp
  · exact hs p hp
  · exact hs p ((List.mem_filter.1 hp).1)
def fPtr (g : PF → Nat) (o : Option PF) : Value := .pointer (o.map fun p => ⟨g p, 0, none⟩)
def fT (sb : Nat) (ef : Nat → Nat × Nat) : Option PF → Thing
  | none => Both Nought Nought
  | some p => Both (FoT p.k sb ef p.f) (RfT p.kr p.f)
theorem fT.stable (sb : Nat) (ef : Nat → Nat × Nat) (o : Option PF) : Stable (fT sb ef o) := by cases o; exact Stable.nought.both Stable.nought; exact (FoT.stable _ _ _ _).both (RfT.stable _ _)
/-- The things of a list, each on blocks of its own. -/
def FsT (sb : Nat) (ef : Nat → Nat × Nat) : List (Option PF) → Thing
  | [] => Nought
  | a :: l => Both (fT sb ef a) (FsT sb ef l)
section
variable {sb : Nat} {ef : Nat → Nat × Nat}
theorem FsT.stable : ∀ l, Stable (FsT sb ef l)
  | [] => Stable.nought
  | a :: l => (fT.stable sb ef a).both (FsT.stable l)
theorem FsT.pick {a : Option PF} : ∀ {l : List (Option PF)} {i : Nat}, l[i]? = some a → FsT sb ef l = Both (fT sb ef a) (FsT sb ef (l.eraseIdx i))
  | [], i, h => by simp at h
  | b :: l, 0, h => by simp at h; subst h; rfl
  | b :: l, i + 1, h => by
    have ih := FsT.pick (l := l) (i := i) (by simpa using h)
    show Both (fT sb ef b) (FsT sb ef l) = Both (fT sb ef a) (Both (fT sb ef b) (FsT sb ef (l.eraseIdx i)))
    rw [ih, Both.left_comm_eq]
theorem FsT.put {a : Option PF} {l : List (Option PF)} {i : Nat} (h : i < l.length) : FsT sb ef (l.set i a) = Both (fT sb ef a) (FsT sb ef (l.eraseIdx i)) := by
  rw [FsT.pick (a := a) (l := l.set i a) (i := i) (by rw [List.getElem?_set]; simp [h]), List.eraseIdx_set_eq]
theorem FsT.more {a : Option PF} : ∀ {l : List (Option PF)}, FsT sb ef (l ++ [a]) = Both (fT sb ef a) (FsT sb ef l)
  | [] => rfl
  | b :: l => by
    show Both (fT sb ef b) (FsT sb ef (l ++ [a])) = Both (fT sb ef a) (Both (fT sb ef b) (FsT sb ef l))
    rw [FsT.more, Both.left_comm_eq]
end
abbrev Wl9I (kx sb rb : Nat) (ef : Nat → Nat × Nat) (S : St) (l : List (Option PF)) (fv gv : Value) : Thing :=
  Both (CellT kx (wl9C sb rb fv gv) tWl9) (Both (RowG tBF 1 fv l.length (l.map (fPtr PF.k))) (Both (RowG tBG 1 gv l.length (l.map (fPtr PF.kr))) (Both (StoreT sb S) (Both (RefT rb S) (FsT sb ef l)))))
def Wl9T (kx sb rb : Nat) (ef : Nat → Nat × Nat) (S : St) (l : List (Option PF)) : Thing := fun w fp => ∃ q : Value × Value, Wl9I kx sb rb ef S l q.1 q.2 w fp
theorem Wl9I.stable (kx sb rb : Nat) (ef : Nat → Nat × Nat) (S : St) (l : List (Option PF)) (fv gv : Value) : Stable (Wl9I kx sb rb ef S l fv gv) :=
  (CellT.stable _ _ _).both ((RowG.stable _ _ _ _ _).both ((RowG.stable _ _ _ _ _).both ((StoreT.stable _ _).both ((RefT.stable _ _).both (FsT.stable _)))))
theorem Wl9T.stable (kx sb rb : Nat) (ef : Nat → Nat × Nat) (S : St) (l : List (Option PF)) : Stable (Wl9T kx sb rb ef S l) := Stable.ex fun _ => Wl9I.stable _ _ _ _ _ _ _ _
section
variable {W w : World} {kx sb rb : Nat} {ef : Nat → Nat × Nat} {S : St} {l : List (Option PF)}
theorem At.wl9 (h : At W w (Wl9T kx sb rb ef S l)) : ∃ fv gv, At W w (Wl9I kx sb rb ef S l fv gv) := by
  obtain ⟨h0, fp, ⟨q, h1⟩, h2⟩ := h
  exact ⟨q.1, q.2, h0, fp, h1, h2⟩
theorem At.toWl9 {fv gv : Value} (h : At W w (Wl9I kx sb rb ef S l fv gv)) : At W w (Wl9T kx sb rb ef S l) := h.impl fun _ q => ⟨(fv, gv), q⟩
theorem fPtr_at {i : Nat} {o : Option PF} (g : PF → Nat) (h : l[i]? = some o) : (l.map (fPtr g))[i]? = some (fPtr g o) := by rw [List.getElem?_map, h]; rfl
theorem fmap_set {i : Nat} {p q : PF} (g : PF → Nat) (h : l[i]? = some (some p)) (hg : g q = g p) : (l.set i (some q)).map (fPtr g) = l.map (fPtr g) := by
  rw [List.map_set]
  have e : fPtr g (some q) = fPtr g (some p) := by simp [fPtr, hg]
  rw [e]
  apply List.ext_getElem?
  intro j
  rw [List.getElem?_set]
  by_cases hj : i = j
  · subst hj
    rw [if_pos rfl, fPtr_at g h]
    have := (List.getElem?_eq_some_iff.1 h).1
    simp [this]
  · rw [if_neg hj]
/-- What a step leaves. -/
def StepPost9 (W : World) (kx sb rb : Nat) (ef : Nat → Nat × Nat) (l : List (Option PF)) (e : Ending) (w' : World) : Prop :=
  e = .returned (.bool true) ∧ ∃ (S' : St) (l' : List (Option PF)), Play9 S' l' ∧ l'.length ≤ l.length + 1 ∧ At W w' (Wl9T kx sb rb ef S' l')
theorem place9 {o2 : Int} {n : Nat} (hn : 0 < n) : ∃ i, i < n ∧ ((0 ≤ o2 ∧ o2 = (i : Int)) ∨ ((o2 < 0 ∨ (n : Int) ≤ o2) ∧ i + 1 = n)) := by
  by_cases h : 0 ≤ o2 ∧ o2 < n
  · exact ⟨o2.toNat, by omega, .inl ⟨h.1, by omega⟩⟩
  · exact ⟨n - 1, by omega, .inr ⟨by omega, by omega⟩⟩
set_option maxRecDepth 100000 in
set_option maxHeartbeats 6400000 in
theorem stepAll9 (hF : Fails W ef fails13) (hP : Play9 S l) (hl : l.length ≤ 1048576) {o : Op9} (ho : OpOk W o) (h : At W w (Wl9T kx sb rb ef S l)) :
    Calls Tryz.prog 22 #[.pointer (some ⟨kx, 0, none⟩), .agg (cellsO9 o).toArray] w (StepPost9 W kx sb rb ef l) := by
  obtain ⟨fv, gv, h1⟩ := h.wl9
  obtain ⟨kk, o2, o3, v, ss⟩ := o
  obtain ⟨hk0, ho2, ho3, hv, hlen⟩ := ho
  dsimp only at hk0 ho2 ho3 hv hlen
  obtain ⟨hss, hsx⟩ := bulk_each (ss := ss) (by omega)
  have hv0 := hv
  obtain ⟨av, cv, rfl, _, _⟩ := hv.shape
  have hn : l.length ≤ 1099511627776 := by omega
  show Calls Tryz.prog _ #[.pointer (some ⟨kx, 0, none⟩), .agg #[.int .i64 kk, .int .i64 o2, .int .i64 o3, .slice av ss.length cv]] w _
  by_cases e1 : kk = 1
  · subst e1
    by_cases hlim : o3 < 1 ∨ 65536 < o3
    · refine (step_new (X := fun _ => Nought) (Y := fun _ => Nought) (c := 2) (mo := true) (fun _ => Stable.nought) (fun _ => Stable.nought) (FsT.stable l) hF h1 hn ho2 av ss.length cv (.inr (.inr rfl)) (fun _ => none) (fun _ => none) (fun _ _ => by kernel_rfl) (fun _ _ => by kernel_rfl) (fun w1 R hR h2 => ?_) (fun w1 R hR h2 => ?_)).mono ?_
      · refine (FNew_no (hF.below h2.below) ho3 hlim).mono ?_
        rintro e w' ⟨rfl, hb⟩
        exact ⟨0, rfl, (h2.mono hR hb).impl fun _ q => Both.nought q⟩
      · refine (rFNew_no hlim).mono ?_
        rintro e w' ⟨rfl, rfl⟩
        exact ⟨0, rfl, h2.impl fun _ q => Both.nought q⟩
      · rintro e w' ⟨rfl, k, kr, vw, vg, h3⟩
        refine ⟨rfl, S, l ++ [none], hP.more none (fun _ h => by cases h), by simp, At.toWl9 (fv := vw) (gv := vg) (h3.perm ?_)⟩
        unfold Wl9I
        rw [List.length_append, List.map_append, List.map_append, FsT.more]
        show _ = Both _ (Both (RowG tBF 1 vw (l.length + 1) (l.map (fPtr PF.k) ++ [.pointer none])) (Both (RowG tBG 1 vg (l.length + 1) (l.map (fPtr PF.kr) ++ [.pointer none])) (Both _ (Both _ (Both (Both Nought Nought) _)))))
        ac_rfl
    · obtain ⟨n, rfl⟩ : ∃ n : Nat, o3 = n := ⟨o3.toNat, by omega⟩
      have hn2 : 1 ≤ n ∧ n ≤ 65536 := by omega
      refine (step_new (X := fun k => FoT k sb ef (newF n)) (Y := fun k => RfT k (newF n)) (c := 0) (mo := false) (fun _ => FoT.stable _ _ _ _) (fun _ => RfT.stable _ _) (FsT.stable l) hF h1 hn ho2 av ss.length cv (.inl okB_zero) (fun k => some ⟨k, 0, none⟩) (fun k => some ⟨k, 0, none⟩) (fun _ _ => by kernel_rfl) (fun _ _ => by kernel_rfl) (fun w1 R hR h2 => ?_) (fun w1 R hR h2 => ?_)).mono ?_
      · rw [errV_zero]
        refine (FNew_at (b := sb) (ef := ef) h2 hR hn2).mono ?_
        rintro e w' ⟨k, rfl, h3⟩
        exact ⟨k, rfl, h3⟩
      · refine (rFNew_at h2 hR hn2).mono ?_
        rintro e w' ⟨k, rfl, h3⟩
        exact ⟨k, rfl, h3⟩
      · rintro e w' ⟨rfl, k, kr, vw, vg, h3⟩
        refine ⟨rfl, S, l ++ [some ⟨k, kr, newF n⟩], hP.more _ (fun p h => by cases h; exact ⟨newF_ok S hn2, okB_zero⟩), by simp, At.toWl9 (fv := vw) (gv := vg) (h3.perm ?_)⟩
        unfold Wl9I
        rw [List.length_append, List.map_append, List.map_append, FsT.more]
        show _ = Both _ (Both (RowG tBF 1 vw (l.length + 1) (l.map (fPtr PF.k) ++ [.pointer (some ⟨k, 0, none⟩)])) (Both (RowG tBG 1 vg (l.length + 1) (l.map (fPtr PF.kr) ++ [.pointer (some ⟨kr, 0, none⟩)])) (Both _ (Both _ (Both (Both (FoT k sb ef (newF n)) (RfT kr (newF n))) _)))))
        ac_rfl
  by_cases e5 : kk = 5
  · refine (step_break (Φ := Both (RowG tBG 1 gv l.length (l.map (fPtr PF.kr))) (FsT sb ef l)) (h1.perm (by unfold Wl9I; ac_rfl)) ((RowG.stable _ _ _ _ _).both (FsT.stable l)) hn e5 ho2 ho3 av ss.length cv).mono ?_
    rintro e w' ⟨rfl, h3⟩
    exact ⟨rfl, breakS S o3, l, hP.step (hP.good.brk ho3) (fun p hp => hP.seal_ p hp) (Nat.le_refl _), by omega, At.toWl9 (fv := fv) (gv := gv) (h3.perm (by unfold Wl9I; ac_rfl))⟩
  by_cases e6 : kk = 6
  · refine (step_store (o3 := o3) (Φ := Both (RowG tBG 1 gv l.length (l.map (fPtr PF.kr))) (FsT sb ef l)) (h1.perm (by unfold Wl9I; ac_rfl)) ((RowG.stable _ _ _ _ _).both (FsT.stable l)) hP.good hP.seal_ hn e6 ho2 av ss.length cv).mono ?_
    rintro e w' ⟨rfl, h3⟩
    exact ⟨rfl, S, l, hP, by omega, At.toWl9 (fv := fv) (gv := gv) (h3.perm (by unfold Wl9I; ac_rfl))⟩
  by_cases e7 : kk = 7
  · refine (step_remove (Φ := Both (RowG tBG 1 gv l.length (l.map (fPtr PF.kr))) (FsT sb ef l)) (h1.perm (by unfold Wl9I; ac_rfl)) ((RowG.stable _ _ _ _ _).both (FsT.stable l)) hF hP.good hn e7 ho2 ho3 av ss.length cv).mono ?_
    rintro e w' ⟨rfl, h3⟩
    exact ⟨rfl, (removeP S o3).1, l, hP.step (hP.good.remove o3) (seal_remove9 hP.seal_ o3) (by rw [made_remove]; exact Nat.le_refl _), by omega, At.toWl9 (fv := fv) (gv := gv) (h3.perm (by unfold Wl9I; ac_rfl))⟩
  by_cases hmid : (kk = 2 ∨ kk = 3 ∨ kk = 4) ∧ 0 < l.length
  · obtain ⟨hkk, hpos⟩ := hmid
    obtain ⟨i, hi, hi2⟩ := place9 (o2 := o2) hpos
    obtain ⟨op, hop⟩ : ∃ op, l[i]? = some op := ⟨_, List.getElem?_eq_getElem hi⟩
    cases op with
    | none =>
      refine (step_former (pa := none) (pb := none) (Z := Both (StoreT sb S) (Both (RefT rb S) (FsT sb ef l))) (Z' := Both (StoreT sb S) (Both (RefT rb S) (FsT sb ef l))) h1 ((StoreT.stable _ _).both ((RefT.stable _ _).both (FsT.stable l))) ((StoreT.stable _ _).both ((RefT.stable _ _).both (FsT.stable l))) hn hkk ho2 av ss.length cv hi hi2 (fPtr_at PF.k hop) (fPtr_at PF.kr hop) (fun w1 R' hR' h2 => former_none (kx := kx) h2 ((CellT.stable _ _ _).both (((StoreT.stable _ _).both ((RefT.stable _ _).both (FsT.stable l))).both hR')) hF _ kk o2 o3 hkk hv hss rfl)).mono ?_
      rintro e w' ⟨rfl, h3⟩
      exact ⟨rfl, S, l, hP, by omega, At.toWl9 (fv := fv) (gv := gv) h3⟩
    | some p =>
      obtain ⟨hO, hB⟩ := hP.each p (List.mem_of_getElem? hop)
      have key : ∀ (S' : St) (f' : FmD), FKeep S S' p.f f' → okB f'.dead →
          (∀ w1 R', Stable R' → At W w1 (Both (FoT p.k sb ef p.f) (Both (StoreT sb S) (Both (RfT p.kr p.f) (Both (RefT rb S) (Both (CellT kx (wl9C sb rb fv gv) tWl9) R'))))) → Calls Tryz.prog 34 #[.pointer (some ⟨kx, 0, none⟩), .pointer (some ⟨p.k, 0, none⟩), .pointer (some ⟨p.kr, 0, none⟩), .agg #[.int .i64 kk, .int .i64 o2, .int .i64 o3, .slice av ss.length cv]] w1 fun e w' => e = .returned (.bool true) ∧ At W w' (Both (FoT p.k sb ef f') (Both (StoreT sb S') (Both (RfT p.kr f') (Both (RefT rb S') (Both (CellT kx (wl9C sb rb fv gv) tWl9) R')))))) →
          Calls Tryz.prog 22 #[.pointer (some ⟨kx, 0, none⟩), .agg #[.int .i64 kk, .int .i64 o2, .int .i64 o3, .slice av ss.length cv]] w (StepPost9 W kx sb rb ef l) := fun S' f' hkeep hbd hfo => by
        have hl2 : FsT sb ef l = Both (Both (FoT p.k sb ef p.f) (RfT p.kr p.f)) (FsT sb ef (l.eraseIdx i)) := FsT.pick hop
        have hl3 : FsT sb ef (l.set i (some ⟨p.k, p.kr, f'⟩)) = Both (Both (FoT p.k sb ef f') (RfT p.kr f')) (FsT sb ef (l.eraseIdx i)) := FsT.put hi
        refine (step_former (pa := some ⟨p.k, 0, none⟩) (pb := some ⟨p.kr, 0, none⟩) (Z := Both (StoreT sb S) (Both (RefT rb S) (FsT sb ef l))) (Z' := Both (StoreT sb S') (Both (RefT rb S') (FsT sb ef (l.set i (some ⟨p.k, p.kr, f'⟩))))) h1 ((StoreT.stable _ _).both ((RefT.stable _ _).both (FsT.stable l))) ((StoreT.stable _ _).both ((RefT.stable _ _).both (FsT.stable _))) hn hkk ho2 av ss.length cv hi hi2 (fPtr_at PF.k hop) (fPtr_at PF.kr hop) (fun w1 R' hR' h2 => ?_)).mono ?_
        · rw [hl2] at h2
          refine (hfo w1 (Both (FsT sb ef (l.eraseIdx i)) R') ((FsT.stable _).both hR') (h2.perm (by ac_rfl))).mono ?_
          rintro e w' ⟨rfl, h3⟩
          rw [hl3]
          exact ⟨rfl, h3.perm (by ac_rfl)⟩
        · rintro e w' ⟨rfl, h3⟩
          refine ⟨rfl, S', l.set i (some ⟨p.k, p.kr, f'⟩), hP.set i hkeep hbd, by rw [List.length_set]; omega, At.toWl9 (fv := fv) (gv := gv) ?_⟩
          unfold Wl9I
          rw [fmap_set (q := ⟨p.k, p.kr, f'⟩) PF.k hop rfl, fmap_set (q := ⟨p.k, p.kr, f'⟩) PF.kr hop rfl, List.length_set]
          exact h3
      rcases hkk with rfl | rfl | rfl
      · exact key _ _ (addP_keep hP.good hP.seal_ hO ss).1 (addP_codeB hP.good hP.seal_ hO hB ss).2 (fun w1 R' hR' h2 => former_add h2 hR' hF hP.good hP.seal_ hO hB o2 o3 hv hss hsx)
      · exact key _ _ (finishP_keep hP.good hP.seal_ hO).1 (finishP_codeB hP.good hO hB).2 (fun w1 R' hR' h2 => former_finish h2 hR' hF hP.good hP.seal_ hO hB o2 o3 hv)
      · exact key _ _ (dropF_keep hP.good hP.seal_ hO) (dropF_codeB hB) (fun w1 R' hR' h2 => former_drop h2 hR' hF hP.good hO o2 o3 hv)
  · refine (step_other (o3 := o3) (Φ := Both (RowG tBG 1 gv l.length (l.map (fPtr PF.kr))) (Both (StoreT sb S) (Both (RefT rb S) (FsT sb ef l)))) (h1.perm (by unfold Wl9I; ac_rfl)) ((RowG.stable _ _ _ _ _).both ((StoreT.stable _ _).both ((RefT.stable _ _).both (FsT.stable l)))) hn (by omega) ho2 av ss.length cv).mono ?_
    rintro e w' ⟨rfl, h3⟩
    exact ⟨rfl, S, l, hP, by omega, At.toWl9 (fv := fv) (gv := gv) (h3.perm (by unfold Wl9I; ac_rfl))⟩
end
end Go.Proofs.YthcicmbkkkhifaaGreatDoor
