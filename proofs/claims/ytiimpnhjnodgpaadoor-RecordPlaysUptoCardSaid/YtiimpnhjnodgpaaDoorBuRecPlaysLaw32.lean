/- (*hornbooklaw06.world).step walked: Run (written by port/recstr.py). · (*hornbooklaw06.world).step walked: Live. · (*hornbooklaw06.world).step walked: Next. -/
import Derived.Test.YtiimpnhjnodgpaaDoorBuRecPlaysLaw31
set_option linter.unusedSimpArgs false
set_option linter.unusedVariables false
namespace Go.Proofs.YtiimpnhjnodgpaaDoor
open Go.RowKit

theorem keep2 {w : World} {p a b : Addr} {u x y : Value} (h : w.cell? a = some x ∧ w.cell? b = some y) (ha : p ≠ a) (hb : p ≠ b) : (w.setCell p u).cell? a = some x ∧ (w.setCell p u).cell? b = some y :=
  ⟨(World.cell?_setCell_other _ _ _ _ ha).trans h.1, (World.cell?_setCell_other _ _ _ _ hb).trans h.2⟩
theorem keep3 {w : World} {p a b c : Addr} {u x y z : Value} (h : w.cell? a = some x ∧ w.cell? b = some y ∧ w.cell? c = some z) (ha : p ≠ a) (hb : p ≠ b) (hc : p ≠ c) : (w.setCell p u).cell? a = some x ∧ (w.setCell p u).cell? b = some y ∧ (w.setCell p u).cell? c = some z :=
  ⟨(World.cell?_setCell_other _ _ _ _ ha).trans h.1, (World.cell?_setCell_other _ _ _ _ hb).trans h.2.1, (World.cell?_setCell_other _ _ _ _ hc).trans h.2.2⟩
theorem size_le {S : St} (hG : GoodS S) (z : Int) : sizeN S z ≤ 67108864 := by
  have hs := hG.sizes
  unfold sizeN
  cases hf : S.find z with
  | none => simp
  | some p => have := hG.le p hf; dsimp only; omega
theorem run_ok (S : St) (z : Int) : okC (readC S z 0 (sizeN S z : Nat)) := by
  unfold readC sizeN
  cases hf : S.find z with
  | none => exact okC_of (.inr (.inl rfl))
  | some p =>
    dsimp only
    by_cases hs : p.2.sealed = false
    · rw [if_pos hs]; exact .inr ⟨1, by decide⟩
    · rw [if_neg hs, if_neg (by omega)]; exact okC_zero
section
variable {W w : World} {R Φ : Thing} {kx sb rb : Nat} {ef : Nat → Nat × Nat} {S : St} {vw vr vW vR v : Value} {n i : Nat} {As Bs : List Value} {ss : List (List UInt8)}
set_option maxRecDepth 100000 in
set_option maxHeartbeats 6400000 in
theorem step_run (hΦ : Stable Φ) (hF : Fails W ef fails12) (hG : GoodS S) (h : At W w (Both (CellT kx (wldC sb rb vw vr vW vR) tWld) (Both (StoreT sb S) (Both (RefT rb S) Φ)))) {o2 o3 : Int} (ho2 : inI64 o2) (hv : RdRow W v ss.length 1 (strs ss)) :
    Calls Tryd.prog 15 #[.pointer (some ⟨kx, 0, none⟩), .agg #[.int .i64 9, .int .i64 o2, .int .i64 o3, v]] w fun e w' => e = .returned (.tuple #[an6V ⟨(sizeN S o2 : Nat), (readC S o2 0 (sizeN S o2 : Nat)), (readT S o2 0 (sizeN S o2 : Nat)), false, []⟩ (.slice none 0 0), an6V ⟨(sizeN S o2 : Nat), (readC S o2 0 (sizeN S o2 : Nat)), (readT S o2 0 (sizeN S o2 : Nat)), false, []⟩ (.slice none 0 0)]) ∧ At W w' (Both (CellT kx (wldC sb rb vw vr vW vR) tWld) (Both (StoreT sb S) (Both (RefT rb S) Φ))) := by
  obtain ⟨av, cv, rfl, _, _⟩ := hv.shape
  have hX := ((CellT.stable kx (wldC sb rb vw vr vW vR) tWld).both ((StoreT.stable sb S).both ((RefT.stable rb S).both hΦ)))
  have hkx := lt_of_heap h.cell.1
  have hok := run_ok S o2
  have hsz := size_le hG o2
  have h5 : At W _ (Both (FiveT w.heap.size #[.int .i64 9, .int .i64 o2, .int .i64 o3, .slice av ss.length cv] noAn noAn noAn noAn) (Both (CellT kx (wldC sb rb vw vr vW vR) tWld) (Both (StoreT sb S) (Both (RefT rb S) Φ)))) := (h.five6 hX #[.int .i64 9, .int .i64 o2, .int .i64 o3, .slice av ss.length cv]).perm (by unfold FiveT; ac_rfl)
  have H5 := Lib.hid h5
  clear h5 h
  go_enter Tryd.func15, Tryd.ntmps15
  (repeat' (first | (go_big_may; fail) | go_values | go_skip | go_guarded | go_step | go_upon | go_back | dsimp only))
  generalize ((((w.alloc _).alloc _).alloc _).alloc _).alloc _ = w1 at *
  generalize w.heap.size = s at *
  obtain ⟨y4, y2, y1, y3, y0⟩ := five_get H5.out
  have b0 := cell_at y0 0; have b1 := cell_at y0 1; have b2 := cell_at y0 2; have b3 := cell_at y0 3
  have lk0 := lt_of_heap y0
  simp only [List.getElem?_toArray, List.getElem?_cons_zero, List.getElem?_cons_succ] at b0 b1 b2 b3
  clear y4 y2 y1 y3 y0
  have HX := H5
  have hx32 : At W w1 (Both (FiveT s #[.int .i64 9, .int .i64 o2, .int .i64 o3, .slice av ss.length cv] noAn noAn (an6C ⟨0, 0, [], false, []⟩ (.slice none 0 0)) (an6C ⟨0, 0, [], false, []⟩ (.slice none 0 0))) (Both (CellT kx (wldC sb rb vw vr vW vR) tWld) (Both (StoreT sb S) (Both (RefT rb S) Φ)))) := HX.out
  obtain ⟨y4, y2, y1, y3, y0⟩ := five_get hx32
  have cx32 := cell_at hx32.drop.cell.1 0
  have lk32 := lt_of_heap hx32.drop.cell.1
  have ls32 := lt_of_heap y0
  have l332 := lt_of_heap y3
  have l432 := lt_of_heap y4
  have b32 := cell_at y0 1
  obtain ⟨m0, m1, m2, m3, m4⟩ := five_at y3
  obtain ⟨n0, n1, n2, n3, n4⟩ := five_at y4
  have fm := thaw_at y3
  have fn := thaw_at y4
  have hd32 : At W w1.drew (Both (StoreT sb S) (Both (FiveT s #[.int .i64 9, .int .i64 o2, .int .i64 o3, .slice av ss.length cv] noAn noAn (an6C ⟨0, 0, [], false, []⟩ (.slice none 0 0)) (an6C ⟨0, 0, [], false, []⟩ (.slice none 0 0))) (Both (CellT kx (wldC sb rb vw vr vW vR) tWld) (Both (RefT rb S) Φ)))) := (hx32.drew ((FiveT.stable _ _ _ _ _ _).both ((CellT.stable kx (wldC sb rb vw vr vW vR) tWld).both ((StoreT.stable sb S).both ((RefT.stable rb S).both hΦ))))).perm (by ac_rfl)
  have HC32 := Lib.hid (Size_at hd32 ((FiveT.stable s #[.int .i64 9, .int .i64 o2, .int .i64 o3, .slice av ss.length cv] noAn noAn (an6C ⟨0, 0, [], false, []⟩ (.slice none 0 0)) (an6C ⟨0, 0, [], false, []⟩ (.slice none 0 0))).both ((CellT.stable kx (wldC sb rb vw vr vW vR) tWld).both ((RefT.stable rb S).both hΦ))) (fails12_all hF) ho2)
  have hcg32 := And.intro cx32 (b32)
  clear hx32 hd32 y4 y2 y1 y3 y0 HX b0 b1 b2 b3 H5
  go_region_held3 (fun wx => wx.cell? ⟨kx, 0, none⟩ = some (.pointer (some ⟨sb, 0, none⟩)) ∧ wx.cell? ⟨s, 1, none⟩ = some (.int .i64 o2)) (first | assumption | exact keep2 (by assumption) (fun e => by injection e; omega) (fun e => by injection e; omega) | go_keep) (first
    | (go_at_call 41; refine HC32.out.mono ?_; rintro e w8 ⟨rfl, h13⟩
       have h14 : At W w8 (Both (FiveT s #[.int .i64 9, .int .i64 o2, .int .i64 o3, .slice av ss.length cv] noAn noAn (an6C ⟨0, 0, [], false, []⟩ (.slice none 0 0)) (an6C ⟨0, 0, [], false, []⟩ (.slice none 0 0))) (Both (CellT kx (wldC sb rb vw vr vW vR) tWld) (Both (StoreT sb S) (Both (RefT rb S) Φ)))) := h13.perm (by ac_rfl)
       obtain ⟨y4, y2, y1, y3, y0⟩ := five_get h14
       have p0 := cell_at h14.drop.cell.1 0
       have p1 := cell_at y0 1
       obtain ⟨ka, ka1, ka2, ka3, ka4⟩ := five_at y3
       obtain ⟨kb, kb1, kb2, kb3, kb4⟩ := five_at y4
       have kfm := thaw_at y3
       have kfn := thaw_at y4
       have kl3 := lt_of_heap y3; have kl4 := lt_of_heap y4; have kl5 := lt_of_heap y0; have kl6 := lt_of_heap h14.drop.cell.1
       have cg8 := And.intro p0 p1
       have H14 := Lib.hid h14
       clear h13 h14 y0 y1 y2 y3 y4))
  all_goals
    have hy32 := H14.out
    have HX := Lib.hid (show At W _ (Both (FiveT s #[.int .i64 9, .int .i64 o2, .int .i64 o3, .slice av ss.length cv] noAn noAn (an6C ⟨(sizeN S o2 : Nat), 0, [], false, []⟩ (.slice none 0 0)) (an6C ⟨0, 0, [], false, []⟩ (.slice none 0 0))) (Both (CellT kx (wldC sb rb vw vr vW vR) tWld) (Both (StoreT sb S) (Both (RefT rb S) Φ)))) from (five_set3 hy32 ((CellT.stable kx (wldC sb rb vw vr vW vR) tWld).both ((StoreT.stable sb S).both ((RefT.stable rb S).both hΦ))) 0 (.int .i64 (sizeN S o2 : Nat))))
    clear hy32 hcg32 m0 m1 m2 m3 m4 n0 n1 n2 n3 n4 fm fn cx32 lk32 ls32 l332 l432 b32
    clear H14 cg8 p0 p1 ka ka1 ka2 ka3 ka4 kb kb1 kb2 kb3 kb4 kfm kfn kl3 kl4 kl5 kl6 HC32
    generalize World.setCell _ (⟨s + 1 + 1 + 1, 0, none⟩ : Addr) _ = wa at *
    (repeat' (first | (go_big_may; fail) | go_values | go_skip | go_guarded | go_step | go_upon | go_back | dsimp only))
    have hx33 : At W wa (Both (FiveT s #[.int .i64 9, .int .i64 o2, .int .i64 o3, .slice av ss.length cv] noAn noAn (an6C ⟨(sizeN S o2 : Nat), 0, [], false, []⟩ (.slice none 0 0)) (an6C ⟨0, 0, [], false, []⟩ (.slice none 0 0))) (Both (CellT kx (wldC sb rb vw vr vW vR) tWld) (Both (StoreT sb S) (Both (RefT rb S) Φ)))) := HX.out
    obtain ⟨y4, y2, y1, y3, y0⟩ := five_get hx33
    have cx33 := cell_at hx33.drop.cell.1 0
    have lk33 := lt_of_heap hx33.drop.cell.1
    have ls33 := lt_of_heap y0
    have l333 := lt_of_heap y3
    have l433 := lt_of_heap y4
    have b33 := cell_at y0 1
    obtain ⟨m0, m1, m2, m3, m4⟩ := five_at y3
    obtain ⟨n0, n1, n2, n3, n4⟩ := five_at y4
    have fm := thaw_at y3
    have fn := thaw_at y4
    have hd33 : At W wa.drew (Both (StoreT sb S) (Both (FiveT s #[.int .i64 9, .int .i64 o2, .int .i64 o3, .slice av ss.length cv] noAn noAn (an6C ⟨(sizeN S o2 : Nat), 0, [], false, []⟩ (.slice none 0 0)) (an6C ⟨0, 0, [], false, []⟩ (.slice none 0 0))) (Both (CellT kx (wldC sb rb vw vr vW vR) tWld) (Both (RefT rb S) Φ)))) := (hx33.drew ((FiveT.stable _ _ _ _ _ _).both ((CellT.stable kx (wldC sb rb vw vr vW vR) tWld).both ((StoreT.stable sb S).both ((RefT.stable rb S).both hΦ))))).perm (by ac_rfl)
    have HC33 := Lib.hid (Read_at hd33 ((FiveT.stable s #[.int .i64 9, .int .i64 o2, .int .i64 o3, .slice av ss.length cv] noAn noAn (an6C ⟨(sizeN S o2 : Nat), 0, [], false, []⟩ (.slice none 0 0)) (an6C ⟨0, 0, [], false, []⟩ (.slice none 0 0))).both ((CellT.stable kx (wldC sb rb vw vr vW vR) tWld).both ((RefT.stable rb S).both hΦ))) (fails12_all hF) ho2 (a := 0) (n := (sizeN S o2 : Nat)) (by unfold inI64; omega) (by unfold inI64; omega))
    have hcg33 := And.intro cx33 (And.intro b33 (m0))
    clear hx33 hd33 y4 y2 y1 y3 y0 HX 
    go_region_held3 (fun wx => wx.cell? ⟨kx, 0, none⟩ = some (.pointer (some ⟨sb, 0, none⟩)) ∧ wx.cell? ⟨s, 1, none⟩ = some (.int .i64 o2) ∧ wx.cell? ⟨s + 1 + 1 + 1, 0, none⟩ = some (.int .i64 (sizeN S o2 : Nat))) (first | assumption | exact keep3 (by assumption) (fun e => by injection e; omega) (fun e => by injection e; omega) (fun e => by injection e; omega) | go_keep) (first
      | (go_at_call 42; refine HC33.out.mono ?_; rintro e w8 ⟨rfl, h13⟩
         have h14 : At W w8 (Both (FiveT s #[.int .i64 9, .int .i64 o2, .int .i64 o3, .slice av ss.length cv] noAn noAn (an6C ⟨(sizeN S o2 : Nat), 0, [], false, []⟩ (.slice none 0 0)) (an6C ⟨0, 0, [], false, []⟩ (.slice none 0 0))) (Both (CellT kx (wldC sb rb vw vr vW vR) tWld) (Both (StoreT sb S) (Both (RefT rb S) Φ)))) := h13.perm (by ac_rfl)
         obtain ⟨y4, y2, y1, y3, y0⟩ := five_get h14
         have p0 := cell_at h14.drop.cell.1 0
         have p1 := cell_at y0 1
         obtain ⟨ka, ka1, ka2, ka3, ka4⟩ := five_at y3
         obtain ⟨kb, kb1, kb2, kb3, kb4⟩ := five_at y4
         have kfm := thaw_at y3
         have kfn := thaw_at y4
         have kl3 := lt_of_heap y3; have kl4 := lt_of_heap y4; have kl5 := lt_of_heap y0; have kl6 := lt_of_heap h14.drop.cell.1
         have cg8 := And.intro p0 (And.intro p1 ka)
         have H14 := Lib.hid h14
         clear h13 h14 y0 y1 y2 y3 y4))
    all_goals
      have hy33 := H14.out
      have HX := Lib.hid (show At W _ (Both (FiveT s #[.int .i64 9, .int .i64 o2, .int .i64 o3, .slice av ss.length cv] noAn noAn (an6C ⟨(sizeN S o2 : Nat), 0, (readT S o2 0 (sizeN S o2 : Nat)), false, []⟩ (.slice none 0 0)) (an6C ⟨0, 0, [], false, []⟩ (.slice none 0 0))) (Both (CellT kx (wldC sb rb vw vr vW vR) tWld) (Both (StoreT sb S) (Both (RefT rb S) Φ)))) from (five_set3 hy33 ((CellT.stable kx (wldC sb rb vw vr vW vR) tWld).both ((StoreT.stable sb S).both ((RefT.stable rb S).both hΦ))) 2 (.string ⟨(readT S o2 0 (sizeN S o2 : Nat)).toArray⟩)))
      clear hy33 hcg33 m0 m1 m2 m3 m4 n0 n1 n2 n3 n4 fm fn cx33 lk33 ls33 l333 l433 b33
      clear H14 cg8 p0 p1 ka ka1 ka2 ka3 ka4 kb kb1 kb2 kb3 kb4 kfm kfn kl3 kl4 kl5 kl6 HC33
      generalize World.setCell _ (⟨s + 1 + 1 + 1, 2, none⟩ : Addr) _ = wb at *
      (repeat' (first | (go_big_may; fail) | go_values | go_skip | go_guarded | go_step | go_upon | go_back | dsimp only))
      have hxx34 := HX.out
      have hx34 : At W wb (Both (FiveT s #[.int .i64 9, .int .i64 o2, .int .i64 o3, .slice av ss.length cv] noAn noAn (an6C ⟨(sizeN S o2 : Nat), 0, (readT S o2 0 (sizeN S o2 : Nat)), false, []⟩ (.slice none 0 0)) (an6C ⟨0, 0, [], false, []⟩ (.slice none 0 0))) (Both (CellT kx (wldC sb rb vw vr vW vR) tWld) (Both (StoreT sb S) (Both (RefT rb S) Φ)))) := HX.out
      obtain ⟨y4, y2, y1, y3, y0⟩ := five_get hx34
      have cx34 := cell_at hx34.drop.cell.1 3
      have lk34 := lt_of_heap hx34.drop.cell.1
      have ls34 := lt_of_heap y0
      have l334 := lt_of_heap y3
      have l434 := lt_of_heap y4
      have b34 := cell_at y0 1
      obtain ⟨m0, m1, m2, m3, m4⟩ := five_at y3
      obtain ⟨n0, n1, n2, n3, n4⟩ := five_at y4
      have fm := thaw_at y3
      have fn := thaw_at y4
      have hd34 : At W wb.drew (Both (RefT rb S) (Both (FiveT s #[.int .i64 9, .int .i64 o2, .int .i64 o3, .slice av ss.length cv] noAn noAn (an6C ⟨(sizeN S o2 : Nat), 0, (readT S o2 0 (sizeN S o2 : Nat)), false, []⟩ (.slice none 0 0)) (an6C ⟨0, 0, [], false, []⟩ (.slice none 0 0))) (Both (CellT kx (wldC sb rb vw vr vW vR) tWld) (Both (StoreT sb S) Φ)))) := (hx34.drew ((FiveT.stable _ _ _ _ _ _).both ((CellT.stable kx (wldC sb rb vw vr vW vR) tWld).both ((StoreT.stable sb S).both ((RefT.stable rb S).both hΦ))))).perm (by ac_rfl)
      have HC34 := Lib.hid (rSize_at hd34 hG ho2)
      have hcg34 := And.intro cx34 (b34)
      clear hx34 hd34 y4 y2 y1 y3 y0 HX 
      have HX34 := Lib.hid hxx34
      go_region_held3 (fun wx => wx.cell? ⟨kx, 3, none⟩ = some (.pointer (some ⟨rb, 0, none⟩)) ∧ wx.cell? ⟨s, 1, none⟩ = some (.int .i64 o2)) (first | assumption | exact keep2 (by assumption) (fun e => by injection e; omega) (fun e => by injection e; omega) | go_keep) (first
        | (go_at_call 43; refine HC34.out.mono ?_; rintro e w8 ⟨rfl, rfl⟩))
      all_goals
        have hy34 := HX34.out
        have HX := Lib.hid (show At W _ (Both (FiveT s #[.int .i64 9, .int .i64 o2, .int .i64 o3, .slice av ss.length cv] noAn noAn (an6C ⟨(sizeN S o2 : Nat), 0, (readT S o2 0 (sizeN S o2 : Nat)), false, []⟩ (.slice none 0 0)) (an6C ⟨(sizeN S o2 : Nat), 0, [], false, []⟩ (.slice none 0 0))) (Both (CellT kx (wldC sb rb vw vr vW vR) tWld) (Both (StoreT sb S) (Both (RefT rb S) Φ)))) from ((five_set4 hy34 ((CellT.stable kx (wldC sb rb vw vr vW vR) tWld).both ((StoreT.stable sb S).both ((RefT.stable rb S).both hΦ))) 0 (.int .i64 (sizeN S o2 : Nat))).drew ((FiveT.stable _ _ _ _ _ _).both ((CellT.stable kx (wldC sb rb vw vr vW vR) tWld).both ((StoreT.stable sb S).both ((RefT.stable rb S).both hΦ))))))
        clear hy34 hcg34 m0 m1 m2 m3 m4 n0 n1 n2 n3 n4 fm fn cx34 lk34 ls34 l334 l434 b34
        clear HX34 HC34
        generalize World.drew (World.setCell _ (⟨s + 1 + 1 + 1 + 1, 0, none⟩ : Addr) _) = wd at *
        (repeat' (first | (go_big_may; fail) | go_values | go_skip | go_guarded | go_step | go_upon | go_back | dsimp only))
        have hxx35 := HX.out
        have hx35 : At W wd (Both (FiveT s #[.int .i64 9, .int .i64 o2, .int .i64 o3, .slice av ss.length cv] noAn noAn (an6C ⟨(sizeN S o2 : Nat), 0, (readT S o2 0 (sizeN S o2 : Nat)), false, []⟩ (.slice none 0 0)) (an6C ⟨(sizeN S o2 : Nat), 0, [], false, []⟩ (.slice none 0 0))) (Both (CellT kx (wldC sb rb vw vr vW vR) tWld) (Both (StoreT sb S) (Both (RefT rb S) Φ)))) := HX.out
        obtain ⟨y4, y2, y1, y3, y0⟩ := five_get hx35
        have cx35 := cell_at hx35.drop.cell.1 3
        have lk35 := lt_of_heap hx35.drop.cell.1
        have ls35 := lt_of_heap y0
        have l335 := lt_of_heap y3
        have l435 := lt_of_heap y4
        have b35 := cell_at y0 1
        obtain ⟨m0, m1, m2, m3, m4⟩ := five_at y3
        obtain ⟨n0, n1, n2, n3, n4⟩ := five_at y4
        have fm := thaw_at y3
        have fn := thaw_at y4
        have hd35 : At W wd.drew (Both (RefT rb S) (Both (FiveT s #[.int .i64 9, .int .i64 o2, .int .i64 o3, .slice av ss.length cv] noAn noAn (an6C ⟨(sizeN S o2 : Nat), 0, (readT S o2 0 (sizeN S o2 : Nat)), false, []⟩ (.slice none 0 0)) (an6C ⟨(sizeN S o2 : Nat), 0, [], false, []⟩ (.slice none 0 0))) (Both (CellT kx (wldC sb rb vw vr vW vR) tWld) (Both (StoreT sb S) Φ)))) := (hx35.drew ((FiveT.stable _ _ _ _ _ _).both ((CellT.stable kx (wldC sb rb vw vr vW vR) tWld).both ((StoreT.stable sb S).both ((RefT.stable rb S).both hΦ))))).perm (by ac_rfl)
        have HC35 := Lib.hid (rRead_at hd35 hG ho2 (a := 0) (n := (sizeN S o2 : Nat)) (by unfold inI64; omega) (by unfold inI64; omega))
        have hcg35 := And.intro cx35 (And.intro b35 (n0))
        clear hx35 hd35 y4 y2 y1 y3 y0 HX 
        have HX35 := Lib.hid hxx35
        go_region_held3 (fun wx => wx.cell? ⟨kx, 3, none⟩ = some (.pointer (some ⟨rb, 0, none⟩)) ∧ wx.cell? ⟨s, 1, none⟩ = some (.int .i64 o2) ∧ wx.cell? ⟨s + 1 + 1 + 1 + 1, 0, none⟩ = some (.int .i64 (sizeN S o2 : Nat))) (first | assumption | exact keep3 (by assumption) (fun e => by injection e; omega) (fun e => by injection e; omega) (fun e => by injection e; omega) | go_keep) (first
          | (go_at_call 44; refine HC35.out.mono ?_; rintro e w8 ⟨rfl, rfl⟩))
        all_goals
          have hy35 := HX35.out
          have HX := Lib.hid (show At W _ (Both (FiveT s #[.int .i64 9, .int .i64 o2, .int .i64 o3, .slice av ss.length cv] noAn noAn (an6C ⟨(sizeN S o2 : Nat), 0, (readT S o2 0 (sizeN S o2 : Nat)), false, []⟩ (.slice none 0 0)) (an6C ⟨(sizeN S o2 : Nat), (readC S o2 0 (sizeN S o2 : Nat)), (readT S o2 0 (sizeN S o2 : Nat)), false, []⟩ (.slice none 0 0))) (Both (CellT kx (wldC sb rb vw vr vW vR) tWld) (Both (StoreT sb S) (Both (RefT rb S) Φ)))) from ((five_set4 (five_set4 hy35 ((CellT.stable kx (wldC sb rb vw vr vW vR) tWld).both ((StoreT.stable sb S).both ((RefT.stable rb S).both hΦ))) 2 (.string ⟨(readT S o2 0 (sizeN S o2 : Nat)).toArray⟩)) ((CellT.stable kx (wldC sb rb vw vr vW vR) tWld).both ((StoreT.stable sb S).both ((RefT.stable rb S).both hΦ))) 1 (.int .i64 ((readC S o2 0 (sizeN S o2 : Nat)) : Nat))).drew ((FiveT.stable _ _ _ _ _ _).both ((CellT.stable kx (wldC sb rb vw vr vW vR) tWld).both ((StoreT.stable sb S).both ((RefT.stable rb S).both hΦ))))))
          clear hy35 hcg35 m0 m1 m2 m3 m4 n0 n1 n2 n3 n4 fm fn cx35 lk35 ls35 l335 l435 b35
          clear HX35 HC35
          generalize World.drew (World.setCell _ (⟨s + 1 + 1 + 1 + 1, 1, none⟩ : Addr) _) = wf2 at *
          (repeat' (first | (go_big_may; fail) | go_values | go_skip | go_guarded | go_step | go_upon | go_back | dsimp only))
          have HE := HX
          have HCO := Lib.hid (code6_calls ((fails12_11 hF).below HE.out.below) hok)
          clear HX hX
          have hst := ((CellT.stable kx (wldC sb rb vw vr vW vR) tWld).both ((StoreT.stable sb S).both ((RefT.stable rb S).both hΦ)))
          obtain ⟨y4, y2, y1, y3, y0⟩ := five_get HE.out
          obtain ⟨m0, m1, m2, m3, m4⟩ := five_at y3
          have fm := thaw_at y3
          have lm := lt_of_heap y3
          have HE2 := Lib.hid (five_set3 HE.out hst 1 (.int .i64 ((readC S o2 0 (sizeN S o2 : Nat)) : Nat)))
          clear y0 y1 y2 y3 y4
          (repeat' (first | (go_big_may; fail) | go_values | go_skip | go_guarded | go_step | go_upon | go_back | dsimp only))
          refine HCO.out.mono ?_
          rintro e w20 ⟨rfl, rfl⟩
          (repeat' (first | (go_big_may; fail) | go_values | go_skip | go_guarded | go_step | go_upon | go_back | dsimp only))
          clear m0 m1 m2 m3 m4 fm lm HCO HE
          generalize World.setCell _ (⟨s + 1 + 1 + 1, 1, none⟩ : Addr) _ = wf at *
          have he := HE2.out
          clear HE2
          have HE := Lib.hid he
          obtain ⟨y4, y2, y1, y3, y0⟩ := five_get he
          obtain ⟨x0, x1, x2, x3, x4⟩ := five_at y3
          obtain ⟨v0, v1, v2, v3, v4⟩ := five_at y4
          obtain ⟨q0, q1, q2, q3, q4⟩ := five_at y1
          obtain ⟨r0, r1, r2, r3, r4⟩ := five_at y2
          have g4 := thaw_at y1
          have g5 := thaw_at y2
          have l4 := lt_of_heap y1; have l5 := lt_of_heap y2; have l6 := lt_of_heap y3; have l7 := lt_of_heap y4
          have Y1 := Lib.hid y1
          have Y2 := Lib.hid y2
          clear y0 y1 y2 y3 y4 he
          (repeat' (first | (go_big_may; fail) | go_values | go_skip | go_guarded | go_step | go_upon | go_back | dsimp only))
          go_region
          (repeat' (first | (go_big_may; fail) | go_values | go_skip | go_guarded | go_step | go_upon | go_back | dsimp only))
          (try simp only [Exit.inBlock, Exit.then])
          refine bodyPost_ret (results_cells2 rfl _ _ (s + 1) (s + 1 + 1) tAn6 tAn6 (an6C ⟨(sizeN S o2 : Nat), (readC S o2 0 (sizeN S o2 : Nat)), (readT S o2 0 (sizeN S o2 : Nat)), false, []⟩ (.slice none 0 0)) (an6C ⟨(sizeN S o2 : Nat), (readC S o2 0 (sizeN S o2 : Nat)), (readT S o2 0 (sizeN S o2 : Nat)), false, []⟩ (.slice none 0 0)) (0, 0) (0, 0) _ rfl rfl ?_ ?_ Tryd.underlying59 rfl (by kernel_rfl) (by kernel_rfl)) rfl ?_
          · rw [heap_drew]; simp [World.setCell, Array.getElem?_modify, Y1.out]
          · rw [heap_drew]; simp [World.setCell, Array.getElem?_modify, Y2.out]
          · refine ⟨rfl, ?_⟩
            refine ?_
            exact HE.out.loseU [s + 1, s + 1 + 1, s + 1 + 1 + 1 + 1] hst (fun fp h => cellsT_mem h) (by repeat' (first | with_reducible exact Upd.refl _ _ | (with_reducible refine Upd.drew ?_) | (with_reducible refine Upd.setCell ?_ (.inl (by simp)) _)))
end
end Go.Proofs.YtiimpnhjnodgpaaDoor
namespace Go.Proofs.YtiimpnhjnodgpaaDoor
open Go.RowKit

section
variable {W w : World} {R Φ : Thing} {kx sb rb : Nat} {ef : Nat → Nat × Nat} {S : St} {vw vr vW vR v : Value} {n i : Nat} {As Bs : List Value} {ss : List (List UInt8)}
set_option maxRecDepth 100000 in
set_option maxHeartbeats 6400000 in
theorem step_live (hΦ : Stable Φ) (hF : Fails W ef fails12) (hG : GoodS S) (h : At W w (Both (CellT kx (wldC sb rb vw vr vW vR) tWld) (Both (StoreT sb (S)) (Both (RefT rb (S)) Φ)))) {o2 o3 : Int} (hv : RdRow W v ss.length 1 (strs ss)) :
    Calls Tryd.prog 15 #[.pointer (some ⟨kx, 0, none⟩), .agg #[.int .i64 10, .int .i64 o2, .int .i64 o3, v]] w fun e w' => ∃ va vb, e = .returned (.tuple #[an6V ⟨S.used, 0, [], false, S.keys⟩ va, an6V ⟨S.used, 0, [], false, S.keys⟩ vb]) ∧ At W w' (Both (RowT va S.keys) (Both (RowT vb S.keys) (Both (CellT kx (wldC sb rb vw vr vW vR) tWld) (Both (StoreT sb (S)) (Both (RefT rb (S)) Φ))))) := by
  obtain ⟨av, cv, rfl, _, _⟩ := hv.shape
  have hX := ((CellT.stable kx (wldC sb rb vw vr vW vR) tWld).both ((StoreT.stable sb (S)).both ((RefT.stable rb (S)).both hΦ)))
  have hkx := lt_of_heap h.cell.1
  have h5 : At W _ (Both (FiveT w.heap.size #[.int .i64 10, .int .i64 o2, .int .i64 o3, .slice av ss.length cv] noAn noAn noAn noAn) (Both (CellT kx (wldC sb rb vw vr vW vR) tWld) (Both (StoreT sb (S)) (Both (RefT rb (S)) Φ)))) := (h.five6 hX #[.int .i64 10, .int .i64 o2, .int .i64 o3, .slice av ss.length cv]).perm (by unfold FiveT; ac_rfl)
  have H5 := Lib.hid h5
  clear h5 h
  go_enter Tryd.func15, Tryd.ntmps15
  (repeat' (first | (go_big_may; fail) | go_values | go_skip | go_guarded | go_step | go_upon | go_back | dsimp only))
  generalize ((((w.alloc _).alloc _).alloc _).alloc _).alloc _ = w1 at *
  generalize w.heap.size = s at *
  obtain ⟨y4, y2, y1, y3, y0⟩ := five_get H5.out
  have b0 := cell_at y0 0; have b1 := cell_at y0 1; have b2 := cell_at y0 2; have b3 := cell_at y0 3
  have lk0 := lt_of_heap y0
  simp only [List.getElem?_toArray, List.getElem?_cons_zero, List.getElem?_cons_succ] at b0 b1 b2 b3
  clear y4 y2 y1 y3 y0
  have c0 := cell_at H5.out.drop.cell.1 0
  have lkx := lt_of_heap H5.out.drop.cell.1
  have h6 : At W w1.drew (Both (StoreT sb S) (Both (FiveT s #[.int .i64 10, .int .i64 o2, .int .i64 o3, .slice av ss.length cv] noAn noAn noAn noAn) (Both (CellT kx (wldC sb rb vw vr vW vR) tWld) (Both (RefT rb S) Φ)))) := (H5.out.drew ((FiveT.stable _ _ _ _ _ _).both hX)).perm (by ac_rfl)
  have HLV := Lib.hid (Live_at h6 ((FiveT.stable s #[.int .i64 10, .int .i64 o2, .int .i64 o3, .slice av ss.length cv] noAn noAn noAn noAn).both ((CellT.stable kx (wldC sb rb vw vr vW vR) tWld).both ((RefT.stable rb S).both hΦ))))
  clear h6 b0 b1 b2 b3 H5
  (repeat' (first | (go_big_may; fail) | go_values | go_skip | go_guarded | go_step | go_upon | go_back | dsimp only))
  go_region_held3 (fun wx => wx.cell? ⟨kx, 0, none⟩ = some (.pointer (some ⟨sb, 0, none⟩))) (first | assumption | exact (World.cell?_setCell_other _ _ _ _ (fun e => by injection e; omega)).trans (by assumption) | go_keep) (first
    | (go_at_call 45; refine HLV.out.mono ?_; rintro e w8 ⟨va, rfl, h13⟩
       obtain ⟨aa, ca, hva, _, _⟩ := own_shape h13.row
       subst hva
       have h14 : At W w8 (Both (FiveT s #[.int .i64 10, .int .i64 o2, .int .i64 o3, .slice av ss.length cv] noAn noAn noAn noAn) (Both (CellT kx (wldC sb rb vw vr vW vR) tWld) (Both (StoreT sb S) (Both (RowT (.slice aa S.keys.length ca) S.keys) (Both (RefT rb S) Φ))))) := h13.perm (by ac_rfl)
       obtain ⟨y4, y2, y1, y3, y0⟩ := five_get h14
       have q0 := cell_at h14.drop.cell.1 0
       obtain ⟨ka, ka1, ka2, ka3, ka4⟩ := five_at y3
       have kfm := thaw_at y3
       have kl3 := lt_of_heap y3; have kl6 := lt_of_heap h14.drop.cell.1
       have husd := Used_at h14.drop.drop
       have H14 := Lib.hid h14
       clear h13 h14 y0 y1 y2 y3 y4)
    | (go_at_call 46; refine husd.mono ?_; rintro e w9 ⟨rfl, rfl⟩))
  all_goals
    have hst8 := (CellT.stable kx (wldC sb rb vw vr vW vR) tWld).both ((StoreT.stable sb S).both ((RowT.stable (.slice aa S.keys.length ca) S.keys).both ((RefT.stable rb S).both hΦ)))
    have HX := Lib.hid (show At W _ (Both (FiveT s #[.int .i64 10, .int .i64 o2, .int .i64 o3, .slice av ss.length cv] noAn noAn (an6C ⟨S.used, 0, [], false, S.keys⟩ (.slice aa S.keys.length ca)) noAn) (Both (CellT kx (wldC sb rb vw vr vW vR) tWld) (Both (StoreT sb S) (Both (RowT (.slice aa S.keys.length ca) S.keys) (Both (RefT rb S) Φ))))) from five_set3 (five_set3 H14.out hst8 4 (.slice aa S.keys.length ca)) hst8 0 (.int .i64 S.used))
    clear H14 q0 ka ka1 ka2 ka3 ka4 kfm kl3 kl6 c0 lkx HLV husd
    generalize World.setCell (World.setCell _ _ _) _ _ = wa at *
    have c3 := cell_at HX.out.drop.cell.1 3
    have lkx := lt_of_heap HX.out.drop.cell.1
    have hstX := (FiveT.stable s #[.int .i64 10, .int .i64 o2, .int .i64 o3, .slice av ss.length cv] noAn noAn (an6C ⟨S.used, 0, [], false, S.keys⟩ (.slice aa S.keys.length ca)) noAn).both hst8
    have h6 : At W wa.drew (Both (RefT rb S) (Both (FiveT s #[.int .i64 10, .int .i64 o2, .int .i64 o3, .slice av ss.length cv] noAn noAn (an6C ⟨S.used, 0, [], false, S.keys⟩ (.slice aa S.keys.length ca)) noAn) (Both (CellT kx (wldC sb rb vw vr vW vR) tWld) (Both (StoreT sb S) (Both (RowT (.slice aa S.keys.length ca) S.keys) Φ))))) := (HX.out.drew hstX).perm (by ac_rfl)
    have HLV := Lib.hid (rLive_at h6 ((FiveT.stable s #[.int .i64 10, .int .i64 o2, .int .i64 o3, .slice av ss.length cv] noAn noAn (an6C ⟨S.used, 0, [], false, S.keys⟩ (.slice aa S.keys.length ca)) noAn).both ((CellT.stable kx (wldC sb rb vw vr vW vR) tWld).both ((StoreT.stable sb S).both ((RowT.stable (.slice aa S.keys.length ca) S.keys).both hΦ)))) hG)
    clear h6 HX
    (repeat' (first | (go_big_may; fail) | go_values | go_skip | go_guarded | go_step | go_upon | go_back | dsimp only))
    go_region_held3 (fun wx => wx.cell? ⟨kx, 3, none⟩ = some (.pointer (some ⟨rb, 0, none⟩))) (first | assumption | exact (World.cell?_setCell_other _ _ _ _ (fun e => by injection e; omega)).trans (by assumption) | go_keep) (first
      | (go_at_call 47; refine HLV.out.mono ?_; rintro e w8 ⟨vb, rfl, h13⟩
         obtain ⟨ab, cb, hvb, _, _⟩ := own_shape h13.row
         subst hvb
         have h14 : At W w8 (Both (FiveT s #[.int .i64 10, .int .i64 o2, .int .i64 o3, .slice av ss.length cv] noAn noAn (an6C ⟨S.used, 0, [], false, S.keys⟩ (.slice aa S.keys.length ca)) noAn) (Both (CellT kx (wldC sb rb vw vr vW vR) tWld) (Both (RefT rb S) (Both (StoreT sb S) (Both (RowT (.slice aa S.keys.length ca) S.keys) (Both (RowT (.slice ab S.keys.length cb) S.keys) Φ)))))) := h13.perm (by ac_rfl)
         obtain ⟨y4, y2, y1, y3, y0⟩ := five_get h14
         have q0 := cell_at h14.drop.cell.1 3
         obtain ⟨ka, ka1, ka2, ka3, ka4⟩ := five_at y4
         have kfm := thaw_at y4
         have kl3 := lt_of_heap y4; have kl6 := lt_of_heap h14.drop.cell.1
         have husd := rUsed_at h14.drop.drop hG
         have H14 := Lib.hid h14
         clear h13 h14 y0 y1 y2 y3 y4)
      | (go_at_call 48; refine husd.mono ?_; rintro e w9 ⟨rfl, rfl⟩))
    all_goals
      have hst9 := (CellT.stable kx (wldC sb rb vw vr vW vR) tWld).both ((RefT.stable rb S).both ((StoreT.stable sb S).both ((RowT.stable (.slice aa S.keys.length ca) S.keys).both ((RowT.stable (.slice ab S.keys.length cb) S.keys).both hΦ))))
      have HE := Lib.hid (show At W _ (Both (FiveT s #[.int .i64 10, .int .i64 o2, .int .i64 o3, .slice av ss.length cv] noAn noAn (an6C ⟨S.used, 0, [], false, S.keys⟩ (.slice aa S.keys.length ca)) (an6C ⟨S.used, 0, [], false, S.keys⟩ (.slice ab S.keys.length cb))) (Both (CellT kx (wldC sb rb vw vr vW vR) tWld) (Both (RefT rb S) (Both (StoreT sb S) (Both (RowT (.slice aa S.keys.length ca) S.keys) (Both (RowT (.slice ab S.keys.length cb) S.keys) Φ)))))) from five_set4 (five_set4 H14.out hst9 4 (.slice ab S.keys.length cb)) hst9 0 (.int .i64 S.used))
      clear H14 q0 ka ka1 ka2 ka3 ka4 kfm kl3 kl6 c3 lkx HLV husd hstX hst8
      generalize World.setCell (World.setCell _ _ _) _ _ = wb at *
      (repeat' (first | (go_big_may; fail) | go_values | go_skip | go_guarded | go_step | go_upon | go_back | dsimp only))
      have HCO := Lib.hid (code6_calls ((fails12_11 hF).below HE.out.below) (c := 0) (.inl rfl))
      obtain ⟨y4, y2, y1, y3, y0⟩ := five_get HE.out
      obtain ⟨m0, m1, m2, m3, m4⟩ := five_at y3
      have fm := thaw_at y3
      have lm := lt_of_heap y3
      have HE2 := Lib.hid (five_set3 HE.out hst9 1 (.int .i64 (0 : Nat)))
      clear y0 y1 y2 y3 y4
      (repeat' (first | (go_big_may; fail) | go_values | go_skip | go_guarded | go_step | go_upon | go_back | dsimp only))
      refine HCO.out.mono ?_
      rintro e w20 ⟨rfl, rfl⟩
      (repeat' (first | (go_big_may; fail) | go_values | go_skip | go_guarded | go_step | go_upon | go_back | dsimp only))
      clear m0 m1 m2 m3 m4 fm lm HCO HE
      generalize World.setCell _ (⟨s + 1 + 1 + 1, 1, none⟩ : Addr) _ = wf at *
      have he := HE2.out
      clear HE2
      have HE := Lib.hid he
      obtain ⟨y4, y2, y1, y3, y0⟩ := five_get he
      obtain ⟨x0, x1, x2, x3, x4⟩ := five_at y3
      obtain ⟨v0, v1, v2, v3, v4⟩ := five_at y4
      obtain ⟨q0, q1, q2, q3, q4⟩ := five_at y1
      obtain ⟨r0, r1, r2, r3, r4⟩ := five_at y2
      have g4 := thaw_at y1
      have g5 := thaw_at y2
      have l4 := lt_of_heap y1; have l5 := lt_of_heap y2; have l6 := lt_of_heap y3; have l7 := lt_of_heap y4
      have Y1 := Lib.hid y1
      have Y2 := Lib.hid y2
      clear y0 y1 y2 y3 y4 he
      (repeat' (first | (go_big_may; fail) | go_values | go_skip | go_guarded | go_step | go_upon | go_back | dsimp only))
      go_region
      (repeat' (first | (go_big_may; fail) | go_values | go_skip | go_guarded | go_step | go_upon | go_back | dsimp only))
      (try simp only [Exit.inBlock, Exit.then])
      refine bodyPost_ret (results_cells2 rfl _ _ (s + 1) (s + 1 + 1) tAn6 tAn6 (an6C ⟨S.used, 0, [], false, S.keys⟩ (.slice aa S.keys.length ca)) (an6C ⟨S.used, 0, [], false, S.keys⟩ (.slice ab S.keys.length cb)) (0, 0) (0, 0) _ rfl rfl ?_ ?_ Tryd.underlying59 rfl (by kernel_rfl) (by kernel_rfl)) rfl ?_
      · rw [heap_drew]; simp [World.setCell, Array.getElem?_modify, Y1.out]
      · rw [heap_drew]; simp [World.setCell, Array.getElem?_modify, Y2.out]
      · refine ⟨_, _, rfl, ?_⟩
        refine ?_
        refine At.perm ?_ (show (Both (CellT kx (wldC sb rb vw vr vW vR) tWld) (Both (RefT rb S) (Both (StoreT sb S) (Both (RowT (.slice aa S.keys.length ca) S.keys) (Both (RowT (.slice ab S.keys.length cb) S.keys) Φ))))) = _ by ac_rfl)
        exact HE.out.loseU [s + 1, s + 1 + 1, s + 1 + 1 + 1 + 1] hst9 (fun fp h => cellsT_mem h) (by repeat' (first | with_reducible exact Upd.refl _ _ | (with_reducible refine Upd.drew ?_) | (with_reducible refine Upd.setCell ?_ (.inl (by simp)) _)))
end
end Go.Proofs.YtiimpnhjnodgpaaDoor
namespace Go.Proofs.YtiimpnhjnodgpaaDoor
open Go.RowKit

theorem rNext_any {W w : World} {R : Thing} {k : Nat} {v : Value} {l : List (List UInt8)} {i aft : Nat} (h : At W w (Both (RrT k v l i aft) R)) (hR : Stable R) (hi : i ≤ l.length) :
    Calls Tryd.prog 37 #[.pointer (some ⟨k, 0, none⟩)] w fun e w' => e = .returned (.tuple #[.string ⟨(saysL (l.drop i) aft).1.toArray⟩, .bool (saysL (l.drop i) aft).2.1, .int .i64 (saysL (l.drop i) aft).2.2]) ∧ At W w' (Both (RrT k v l (if i < l.length then i + 1 else i) aft) R) := by
  by_cases hlt : i < l.length
  · rw [if_pos hlt, List.drop_eq_getElem_cons hlt]
    exact rNext_one h hR (List.getElem?_eq_getElem hlt)
  · rw [if_neg hlt, List.drop_eq_nil_of_le (by omega)]
    exact rNext_end h hR (by omega)
theorem says_ok {l : List (List UInt8)} {aft : Nat} (h : aft = 0 ∨ aft = 11) : okC (saysL l aft).2.2 := by
  unfold saysL
  split
  · rcases h with rfl | rfl
    · exact okC_zero
    · exact .inr ⟨6, by decide⟩
  · exact okC_zero
theorem five_row_ne {W w : World} {A B Φ : Thing} {s g m cap size : Nat} {e : TypeId} {xs : List Value} {C0 C1 C2 C3 C4 : Array Value} (h : At W w (Both (FiveT s C0 C1 C2 C3 C4) (Both A (Both B (Both (RowG e size (.slice (some ⟨g, 0, none⟩) m cap) m xs) Φ))))) : s + 1 + 1 + 1 ≠ g ∧ s + 1 + 1 + 1 + 1 ≠ g :=
  ⟨(h.perm (show _ = Both (CellT (s + 1 + 1 + 1) C3 tAn6) (Both (RowG e size (.slice (some ⟨g, 0, none⟩) m cap) m xs) (Both (Both (CellT (s + 1 + 1 + 1 + 1) C4 tAn6) (Both (CellT (s + 1 + 1) C2 tAn6) (Both (CellT (s + 1) C1 tAn6) (CellT s C0 tOp6)))) (Both A (Both B Φ)))) by unfold FiveT; ac_rfl)).cellNeRow,
   (h.perm (show _ = Both (CellT (s + 1 + 1 + 1 + 1) C4 tAn6) (Both (RowG e size (.slice (some ⟨g, 0, none⟩) m cap) m xs) (Both (Both (CellT (s + 1 + 1 + 1) C3 tAn6) (Both (CellT (s + 1 + 1) C2 tAn6) (Both (CellT (s + 1) C1 tAn6) (CellT s C0 tOp6)))) (Both A (Both B Φ)))) by unfold FiveT; ac_rfl)).cellNeRow⟩
section
variable {W w : World} {R Φ : Thing} {kx sb rb : Nat} {ef : Nat → Nat × Nat} {S : St} {vw vr vW vR v : Value} {n i : Nat} {As Bs : List Value} {ss : List (List UInt8)}
set_option maxRecDepth 100000 in
set_option maxHeartbeats 6400000 in
theorem step_next_live {p : PR} (hΦe : Φ = Both (RdT p.k sb ef p.x) (Both (StoreT sb S) (Both (RrT p.kr p.v p.l p.i p.aft) R))) (h : At W w (Both (CellT kx (wldC sb rb vw vr vW vR) tWld) (Both (RowG tPR 1 vr n As) (Both (RowG tPR6 1 vR n Bs) Φ)))) (hR : Stable R) (hF : Fails W ef fails12) (hp : ROk S p) (hnx : (nextL (p.x.fin - p.x.pos + 1) S p.x).2 = saysL (p.l.drop p.i) p.aft) (hrun : inI64 p.x.run) {o2 o3 : Int} (hn : 0 < n) (hi : place6N o2 n = i) (hil : i < n)
    (ha : As[i]? = some (.pointer (some ⟨p.k, 0, none⟩))) (hb : Bs[i]? = some (.pointer (some ⟨p.kr, 0, none⟩))) (hv : RdRow W v ss.length 1 (strs ss)) :
    Calls Tryd.prog 15 #[.pointer (some ⟨kx, 0, none⟩), .agg #[.int .i64 6, .int .i64 o2, .int .i64 o3, v]] w fun e w' => e = .returned (.tuple #[an6V ⟨0, (saysL (p.l.drop p.i) p.aft).2.2, (saysL (p.l.drop p.i) p.aft).1, (saysL (p.l.drop p.i) p.aft).2.1, []⟩ (.slice none 0 0), an6V ⟨0, (saysL (p.l.drop p.i) p.aft).2.2, (saysL (p.l.drop p.i) p.aft).1, (saysL (p.l.drop p.i) p.aft).2.1, []⟩ (.slice none 0 0)]) ∧
      At W w' (Both (CellT kx (wldC sb rb vw vr vW vR) tWld) (Both (RowG tPR 1 vr n As) (Both (RowG tPR6 1 vR n Bs) (Both (RdT p.k sb ef (nextL (p.x.fin - p.x.pos + 1) S p.x).1) (Both (StoreT sb S) (Both (RrT p.kr p.v p.l (if p.i < p.l.length then p.i + 1 else p.i) p.aft) R)))))) := by
  have hΦ : Stable Φ := by rw [hΦe]; exact (RdT.stable _ _ _ _).both ((StoreT.stable _ _).both ((RrT.stable _ _ _ _ _).both hR))
  obtain ⟨av, cv, rfl, _, _⟩ := hv.shape
  obtain ⟨ga, ca, hva, _, _, _⟩ := own_cut h.drop.rowG hn
  obtain ⟨gb, cb, hvb, _, _, hcb⟩ := own_cut h.drop.drop.rowG hn
  subst hva hvb
  unfold maxLen at hcb
  have hnc : n ≤ 9223372036854775807 := by omega
  have hkx := lt_of_heap h.cell.1
  have hst0 := ((CellT.stable kx (wldC sb rb vw (.slice (some ⟨ga, 0, none⟩) n ca) vW (.slice (some ⟨gb, 0, none⟩) n cb)) tWld).both ((RowG.stable tPR 1 (.slice (some ⟨ga, 0, none⟩) n ca) n As).both ((RowG.stable tPR6 1 (.slice (some ⟨gb, 0, none⟩) n cb) n Bs).both (hΦ))))
  have h5 : At W _ (Both (FiveT w.heap.size #[.int .i64 6, .int .i64 o2, .int .i64 o3, .slice av ss.length cv] noAn noAn noAn noAn) (Both (CellT kx (wldC sb rb vw (.slice (some ⟨ga, 0, none⟩) n ca) vW (.slice (some ⟨gb, 0, none⟩) n cb)) tWld) (Both (RowG tPR 1 (.slice (some ⟨ga, 0, none⟩) n ca) n As) (Both (RowG tPR6 1 (.slice (some ⟨gb, 0, none⟩) n cb) n Bs) (Φ))))) := (h.five6 hst0 #[.int .i64 6, .int .i64 o2, .int .i64 o3, .slice av ss.length cv]).perm (by unfold FiveT; ac_rfl)
  have H5 := Lib.hid h5
  clear h5 h
  go_enter Tryd.func15, Tryd.ntmps15
  (repeat' (first | (go_big_may; fail) | go_values | go_skip | go_guarded | go_step | go_upon | go_back | dsimp only))
  generalize ((((w.alloc _).alloc _).alloc _).alloc _).alloc _ = w1 at *
  generalize w.heap.size = s at *
  obtain ⟨y4, y2, y1, y3, y0⟩ := five_get H5.out
  have b0 := cell_at y0 0; have b1 := cell_at y0 1; have b2 := cell_at y0 2; have b3 := cell_at y0 3
  have lk0 := lt_of_heap y0
  simp only [List.getElem?_toArray, List.getElem?_cons_zero, List.getElem?_cons_succ] at b0 b1 b2 b3
  clear y4 y2 y1 y3 y0
  have c2 := cell_at H5.out.drop.cell.1 2
  have lk := lt_of_heap H5.out.drop.cell.1
  have hst5 := (FiveT.stable s #[.int .i64 6, .int .i64 o2, .int .i64 o3, .slice av ss.length cv] noAn noAn noAn noAn).both hst0
  have hcg := And.intro b1 c2
  have hpl := place6_calls w1.drew o2 n hnc
  rw [hi] at hpl
  clear b0 b2 b3
  (repeat' (first | (go_big_may; fail) | go_values | go_skip | go_guarded | go_step | go_upon | go_back | dsimp only))
  go_region_held3 (fun wx => wx.cell? ⟨s, 1, none⟩ = some (.int .i64 o2) ∧ wx.cell? ⟨kx, 2, none⟩ = some (.slice (some ⟨ga, 0, none⟩) n ca)) (first | assumption | go_keep) (first
    | (go_at_call 36; refine hpl.mono ?_; rintro e w8 ⟨rfl, rfl⟩))
  have H8 := Lib.hid (H5.out.drew hst5)
  clear H5 hcg b1 c2 lk hpl lk0
  generalize w1.drew = wq at *
  obtain ⟨y4, y2, y1, y3, y0⟩ := five_get H8.out
  obtain ⟨m0, m1, m2, m3, m4⟩ := five_at y3
  obtain ⟨n0, n1, n2, n3, n4⟩ := five_at y4
  have fm := thaw_at y3
  have fn := thaw_at y4
  have lm := lt_of_heap y3
  have ln := lt_of_heap y4
  have c2 := cell_at H8.out.drop.cell.1 2; have c5 := cell_at H8.out.drop.cell.1 5
  have ra := (H8.out.drop.drop.rowCell ha).1
  have rb2 := (H8.out.drop.drop.drop.rowCell hb).1
  have hi0 : (0 : Int) ≤ i := by omega
  have hi1 : (i : Int) < n := by omega
  have hi2 : ¬ (i : Int) < 0 := by omega
  clear y0 y1 y2 y3 y4
  (repeat' (first | (go_big_may; fail) | go_values | go_skip | go_guarded | go_step | go_upon | go_back | dsimp only))
  have hP := H8.out
  rw [hΦe] at hP
  have hsm := hp.sim
  have hln := hp.len
  have h3 : At W wq (Both (RdT p.k sb ef p.x) (Both (StoreT sb S) (Both (FiveT s #[.int .i64 6, .int .i64 o2, .int .i64 o3, .slice av ss.length cv] noAn noAn noAn noAn) (Both (CellT kx (wldC sb rb vw (.slice (some ⟨ga, 0, none⟩) n ca) vW (.slice (some ⟨gb, 0, none⟩) n cb)) tWld) (Both (RowG tPR 1 (.slice (some ⟨ga, 0, none⟩) n ca) n As) (Both (RowG tPR6 1 (.slice (some ⟨gb, 0, none⟩) n cb) n Bs) (Both (RrT p.kr p.v p.l p.i p.aft) R))))))) := hP.perm (by ac_rfl)
  have hN := Next_at h3 ((FiveT.stable s #[.int .i64 6, .int .i64 o2, .int .i64 o3, .slice av ss.length cv] noAn noAn noAn noAn).both ((CellT.stable kx (wldC sb rb vw (.slice (some ⟨ga, 0, none⟩) n ca) vW (.slice (some ⟨gb, 0, none⟩) n cb)) tWld).both ((RowG.stable tPR 1 (.slice (some ⟨ga, 0, none⟩) n ca) n As).both ((RowG.stable tPR6 1 (.slice (some ⟨gb, 0, none⟩) n cb) n Bs).both ((RrT.stable p.kr p.v p.l p.i p.aft).both hR))))) (fails12_10 hF) hrun (by rw [hsm.fin]; exact hsm.pos) (by rw [hsm.fin]; omega) hsm.buf
  rw [hnx] at hN
  have HN := Lib.hid hN
  have hok := says_ok (l := p.l.drop p.i) hp.aft
  obtain ⟨rec, mo, c, hsay⟩ : ∃ rec mo c, saysL (p.l.drop p.i) p.aft = (rec, mo, c) := ⟨_, _, _, rfl⟩
  have HSY := Lib.hid hsay
  clear hP h3 hN m0 m1 m2 m3 m4 n0 n1 n2 n3 n4 fm fn lm ln c2 c5 ra rb2 H8
  refine HN.out.mono ?_
  rintro e w9 ⟨rfl, h9⟩
  rw [HSY.out] at hok
  dsimp only at hok
  rw [HSY.out]
  dsimp only
  obtain ⟨y9, hy⟩ : ∃ y9, (nextL (p.x.fin - p.x.pos + 1) S p.x).1 = y9 := ⟨_, rfl⟩
  have HY9 := Lib.hid hy
  rw [hy] at h9
  have h10 : At W w9 (Both (FiveT s #[.int .i64 6, .int .i64 o2, .int .i64 o3, .slice av ss.length cv] noAn noAn noAn noAn) (Both (CellT kx (wldC sb rb vw (.slice (some ⟨ga, 0, none⟩) n ca) vW (.slice (some ⟨gb, 0, none⟩) n cb)) tWld) (Both (RowG tPR 1 (.slice (some ⟨ga, 0, none⟩) n ca) n As) (Both (RowG tPR6 1 (.slice (some ⟨gb, 0, none⟩) n cb) n Bs) (Both (RdT p.k sb ef y9) (Both (StoreT sb S) (Both (RrT p.kr p.v p.l p.i p.aft) R))))))) := h9.perm (by ac_rfl)
  have hs10 := ((CellT.stable kx (wldC sb rb vw (.slice (some ⟨ga, 0, none⟩) n ca) vW (.slice (some ⟨gb, 0, none⟩) n cb)) tWld).both ((RowG.stable tPR 1 (.slice (some ⟨ga, 0, none⟩) n ca) n As).both ((RowG.stable tPR6 1 (.slice (some ⟨gb, 0, none⟩) n cb) n Bs).both ((RdT.stable p.k sb ef y9).both ((StoreT.stable sb S).both ((RrT.stable p.kr p.v p.l p.i p.aft).both hR))))))
  have h11 := five_set4 (five_set3 (five_set3 h10 hs10 2 (.string ⟨rec.toArray⟩)) hs10 3 (.bool mo)) hs10 1 (.int .i64 1)
  obtain ⟨y4, y2, y1, y3, y0⟩ := five_get h10
  obtain ⟨m0, m1, m2, m3, m4⟩ := five_at y3
  obtain ⟨n0, n1, n2, n3, n4⟩ := five_at y4
  have fm := thaw_at y3
  have fn := thaw_at y4
  have lm := lt_of_heap y3
  have ln := lt_of_heap y4
  have H11 := Lib.hid h11
  have c5 := cell_at h10.drop.cell.1 5
  have rb2 := (h10.drop.drop.drop.rowCell hb).1
  have hq1 : ¬ s + 1 + 1 + 1 = kx := by omega
  have hq2 : ¬ s + 1 + 1 + 1 + 1 = kx := by omega
  have hq3 : ¬ kx = s + 1 + 1 + 1 := by omega
  have hq4 : ¬ kx = s + 1 + 1 + 1 + 1 := by omega
  obtain ⟨hg1, hg2⟩ := five_row_ne h10
  have hg3 : ¬ gb = s + 1 + 1 + 1 := fun e => hg1 e.symm
  have hg4 : ¬ gb = s + 1 + 1 + 1 + 1 := fun e => hg2 e.symm
  have hg1 : ¬ s + 1 + 1 + 1 = gb := hg1
  have hg2 : ¬ s + 1 + 1 + 1 + 1 = gb := hg2
  have h12 : At W _ (Both (RrT p.kr p.v p.l p.i p.aft) (Both (FiveT s #[.int .i64 6, .int .i64 o2, .int .i64 o3, .slice av ss.length cv] noAn noAn (an6C ⟨0, 0, rec, mo, []⟩ (.slice none 0 0)) (an6C ⟨0, 1, [], false, []⟩ (.slice none 0 0))) (Both (CellT kx (wldC sb rb vw (.slice (some ⟨ga, 0, none⟩) n ca) vW (.slice (some ⟨gb, 0, none⟩) n cb)) tWld) (Both (RowG tPR 1 (.slice (some ⟨ga, 0, none⟩) n ca) n As) (Both (RowG tPR6 1 (.slice (some ⟨gb, 0, none⟩) n cb) n Bs) (Both (RdT p.k sb ef y9) (Both (StoreT sb S) R))))))) := h11.perm (show _ = Both (RrT p.kr p.v p.l p.i p.aft) (Both (FiveT s #[.int .i64 6, .int .i64 o2, .int .i64 o3, .slice av ss.length cv] noAn noAn (an6C ⟨0, 0, rec, mo, []⟩ (.slice none 0 0)) (an6C ⟨0, 1, [], false, []⟩ (.slice none 0 0))) (Both (CellT kx (wldC sb rb vw (.slice (some ⟨ga, 0, none⟩) n ca) vW (.slice (some ⟨gb, 0, none⟩) n cb)) tWld) (Both (RowG tPR 1 (.slice (some ⟨ga, 0, none⟩) n ca) n As) (Both (RowG tPR6 1 (.slice (some ⟨gb, 0, none⟩) n cb) n Bs) (Both (RdT p.k sb ef y9) (Both (StoreT sb S) R)))))) by ac_rfl)
  have hrn := rNext_any h12 ((FiveT.stable s #[.int .i64 6, .int .i64 o2, .int .i64 o3, .slice av ss.length cv] noAn noAn (an6C ⟨0, 0, rec, mo, []⟩ (.slice none 0 0)) (an6C ⟨0, 1, [], false, []⟩ (.slice none 0 0))).both ((CellT.stable kx (wldC sb rb vw (.slice (some ⟨ga, 0, none⟩) n ca) vW (.slice (some ⟨gb, 0, none⟩) n cb)) tWld).both ((RowG.stable tPR 1 (.slice (some ⟨ga, 0, none⟩) n ca) n As).both ((RowG.stable tPR6 1 (.slice (some ⟨gb, 0, none⟩) n cb) n Bs).both ((RdT.stable p.k sb ef y9).both ((StoreT.stable sb S).both hR)))))) hp.at_
  rw [HSY.out] at hrn
  dsimp only at hrn
  have HRN := Lib.hid hrn
  clear hrn h9 h10 h11 h12 y4 y2 y1 y3 y0 HN hsay
  (repeat' (first | (go_big_may; fail) | go_values | go_skip | go_guarded | go_step | go_upon | go_back | dsimp only))
  refine HRN.out.mono ?_
  rintro e w12 ⟨rfl, h13⟩
  have h14 : At W w12 (Both (FiveT s #[.int .i64 6, .int .i64 o2, .int .i64 o3, .slice av ss.length cv] noAn noAn (an6C ⟨0, 0, rec, mo, []⟩ (.slice none 0 0)) (an6C ⟨0, 1, [], false, []⟩ (.slice none 0 0))) (Both (CellT kx (wldC sb rb vw (.slice (some ⟨ga, 0, none⟩) n ca) vW (.slice (some ⟨gb, 0, none⟩) n cb)) tWld) (Both (RowG tPR 1 (.slice (some ⟨ga, 0, none⟩) n ca) n As) (Both (RowG tPR6 1 (.slice (some ⟨gb, 0, none⟩) n cb) n Bs) (Both (RdT p.k sb ef y9) (Both (StoreT sb S) (Both (RrT p.kr p.v p.l (if p.i < p.l.length then p.i + 1 else p.i) p.aft) R))))))) := h13.perm (by ac_rfl)
  have hs14 := ((CellT.stable kx (wldC sb rb vw (.slice (some ⟨ga, 0, none⟩) n ca) vW (.slice (some ⟨gb, 0, none⟩) n cb)) tWld).both ((RowG.stable tPR 1 (.slice (some ⟨ga, 0, none⟩) n ca) n As).both ((RowG.stable tPR6 1 (.slice (some ⟨gb, 0, none⟩) n cb) n Bs).both ((RdT.stable p.k sb ef y9).both ((StoreT.stable sb S).both ((RrT.stable p.kr p.v p.l (if p.i < p.l.length then p.i + 1 else p.i) p.aft).both hR))))))
  clear m0 m1 m2 m3 m4 n0 n1 n2 n3 n4 fm fn lm ln c5 rb2 H11 HRN
  obtain ⟨y4, y2, y1, y3, y0⟩ := five_get h14
  obtain ⟨n0, n1, n2, n3, n4⟩ := five_at y4
  have fn := thaw_at y4
  have ln := lt_of_heap y4
  have HE := Lib.hid (show At W _ (Both (FiveT s #[.int .i64 6, .int .i64 o2, .int .i64 o3, .slice av ss.length cv] noAn noAn (an6C ⟨0, 0, rec, mo, []⟩ (.slice none 0 0)) (an6C ⟨0, c, rec, mo, []⟩ (.slice none 0 0))) (Both (CellT kx (wldC sb rb vw (.slice (some ⟨ga, 0, none⟩) n ca) vW (.slice (some ⟨gb, 0, none⟩) n cb)) tWld) (Both (RowG tPR 1 (.slice (some ⟨ga, 0, none⟩) n ca) n As) (Both (RowG tPR6 1 (.slice (some ⟨gb, 0, none⟩) n cb) n Bs) (Both (RdT p.k sb ef y9) (Both (StoreT sb S) (Both (RrT p.kr p.v p.l (if p.i < p.l.length then p.i + 1 else p.i) p.aft) R))))))) from five_set4 (five_set4 (five_set4 h14 hs14 2 (.string ⟨rec.toArray⟩)) hs14 3 (.bool mo)) hs14 1 (.int .i64 (c : Nat)))
  clear h13 h14 y4 y2 y1 y3 y0
  (repeat' (first | (go_big_may; fail) | go_values | go_skip | go_guarded | go_step | go_upon | go_back | dsimp only))
  clear n0 n1 n2 n3 n4 fn ln hg1 hg2 hg3 hg4 hq1 hq2 hq3 hq4
  clear hy hnx hi hsm hln ha hb hs10 hp hn hil hi0 hi1 hi2 hcb hnc hrun
  generalize World.setCell _ (⟨s + 1 + 1 + 1 + 1, 1, none⟩ : Addr) _ = we at *
  have HCO := Lib.hid (code6_calls ((fails12_11 hF).below HE.out.below) hok)
  obtain ⟨y4, y2, y1, y3, y0⟩ := five_get HE.out
  obtain ⟨m0, m1, m2, m3, m4⟩ := five_at y3
  have fm := thaw_at y3
  have lm := lt_of_heap y3
  have HE2 := Lib.hid (five_set3 HE.out hs14 1 (.int .i64 (c : Nat)))
  clear y0 y1 y2 y3 y4
  (repeat' (first | (go_big_may; fail) | go_values | go_skip | go_guarded | go_step | go_upon | go_back | dsimp only))
  refine HCO.out.mono ?_
  rintro e w20 ⟨rfl, rfl⟩
  (repeat' (first | (go_big_may; fail) | go_values | go_skip | go_guarded | go_step | go_upon | go_back | dsimp only))
  clear m0 m1 m2 m3 m4 fm lm HCO HE
  generalize World.setCell _ (⟨s + 1 + 1 + 1, 1, none⟩ : Addr) _ = wf at *
  have he := HE2.out
  clear HE2
  have HE := Lib.hid he
  obtain ⟨y4, y2, y1, y3, y0⟩ := five_get he
  obtain ⟨x0, x1, x2, x3, x4⟩ := five_at y3
  obtain ⟨v0, v1, v2, v3, v4⟩ := five_at y4
  obtain ⟨q0, q1, q2, q3, q4⟩ := five_at y1
  obtain ⟨r0, r1, r2, r3, r4⟩ := five_at y2
  have g4 := thaw_at y1
  have g5 := thaw_at y2
  have l4 := lt_of_heap y1; have l5 := lt_of_heap y2; have l6 := lt_of_heap y3; have l7 := lt_of_heap y4
  have Y1 := Lib.hid y1
  have Y2 := Lib.hid y2
  clear y0 y1 y2 y3 y4 he
  (repeat' (first | (go_big_may; fail) | go_values | go_skip | go_guarded | go_step | go_upon | go_back | dsimp only))
  go_region
  (repeat' (first | (go_big_may; fail) | go_values | go_skip | go_guarded | go_step | go_upon | go_back | dsimp only))
  (try simp only [Exit.inBlock, Exit.then])
  refine bodyPost_ret (results_cells2 rfl _ _ (s + 1) (s + 1 + 1) tAn6 tAn6 (an6C ⟨0, c, rec, mo, []⟩ (.slice none 0 0)) (an6C ⟨0, c, rec, mo, []⟩ (.slice none 0 0)) (0, 0) (0, 0) _ rfl rfl ?_ ?_ Tryd.underlying59 rfl (by kernel_rfl) (by kernel_rfl)) rfl ?_
  · rw [heap_drew]; simp [World.setCell, Array.getElem?_modify, Y1.out]
  · rw [heap_drew]; simp [World.setCell, Array.getElem?_modify, Y2.out]
  · (try rw [HSY.out])
    (try rw [HY9.out])
    refine ⟨rfl, ?_⟩
    refine ?_
    exact HE.out.loseU [s + 1, s + 1 + 1, s + 1 + 1 + 1 + 1] hs14 (fun fp h => cellsT_mem h) (by repeat' (first | with_reducible exact Upd.refl _ _ | (with_reducible refine Upd.drew ?_) | (with_reducible refine Upd.setCell ?_ (.inl (by simp)) _)))
set_option maxRecDepth 100000 in
set_option maxHeartbeats 6400000 in
theorem step_next_nil (hΦ : Stable Φ) (h : At W w (Both (CellT kx (wldC sb rb vw vr vW vR) tWld) (Both (RowG tPR 1 vr n As) (Both (RowG tPR6 1 vR n Bs) Φ)))) (hF : Fails W ef fails12) {o2 o3 : Int} (hn : 0 < n) (hi : place6N o2 n = i) (hil : i < n)
    (ha : As[i]? = some (.pointer none)) (hb : Bs[i]? = some (.pointer none)) (hv : RdRow W v ss.length 1 (strs ss)) :
    Calls Tryd.prog 15 #[.pointer (some ⟨kx, 0, none⟩), .agg #[.int .i64 6, .int .i64 o2, .int .i64 o3, v]] w fun e w' => e = .returned (.tuple #[an6V ⟨0, 1, [], false, []⟩ (.slice none 0 0), an6V ⟨0, 1, [], false, []⟩ (.slice none 0 0)]) ∧
      At W w' (Both (CellT kx (wldC sb rb vw vr vW vR) tWld) (Both (RowG tPR 1 vr n As) (Both (RowG tPR6 1 vR n Bs) Φ))) := by
  obtain ⟨av, cv, rfl, _, _⟩ := hv.shape
  obtain ⟨ga, ca, hva, _, _, _⟩ := own_cut h.drop.rowG hn
  obtain ⟨gb, cb, hvb, _, _, hcb⟩ := own_cut h.drop.drop.rowG hn
  subst hva hvb
  unfold maxLen at hcb
  have hnc : n ≤ 9223372036854775807 := by omega
  have hkx := lt_of_heap h.cell.1
  have hst0 := ((CellT.stable kx (wldC sb rb vw (.slice (some ⟨ga, 0, none⟩) n ca) vW (.slice (some ⟨gb, 0, none⟩) n cb)) tWld).both ((RowG.stable tPR 1 (.slice (some ⟨ga, 0, none⟩) n ca) n As).both ((RowG.stable tPR6 1 (.slice (some ⟨gb, 0, none⟩) n cb) n Bs).both (hΦ))))
  have h5 : At W _ (Both (FiveT w.heap.size #[.int .i64 6, .int .i64 o2, .int .i64 o3, .slice av ss.length cv] noAn noAn noAn noAn) (Both (CellT kx (wldC sb rb vw (.slice (some ⟨ga, 0, none⟩) n ca) vW (.slice (some ⟨gb, 0, none⟩) n cb)) tWld) (Both (RowG tPR 1 (.slice (some ⟨ga, 0, none⟩) n ca) n As) (Both (RowG tPR6 1 (.slice (some ⟨gb, 0, none⟩) n cb) n Bs) (Φ))))) := (h.five6 hst0 #[.int .i64 6, .int .i64 o2, .int .i64 o3, .slice av ss.length cv]).perm (by unfold FiveT; ac_rfl)
  have H5 := Lib.hid h5
  clear h5 h
  go_enter Tryd.func15, Tryd.ntmps15
  (repeat' (first | (go_big_may; fail) | go_values | go_skip | go_guarded | go_step | go_upon | go_back | dsimp only))
  generalize ((((w.alloc _).alloc _).alloc _).alloc _).alloc _ = w1 at *
  generalize w.heap.size = s at *
  obtain ⟨y4, y2, y1, y3, y0⟩ := five_get H5.out
  have b0 := cell_at y0 0; have b1 := cell_at y0 1; have b2 := cell_at y0 2; have b3 := cell_at y0 3
  have lk0 := lt_of_heap y0
  simp only [List.getElem?_toArray, List.getElem?_cons_zero, List.getElem?_cons_succ] at b0 b1 b2 b3
  clear y4 y2 y1 y3 y0
  have c2 := cell_at H5.out.drop.cell.1 2
  have lk := lt_of_heap H5.out.drop.cell.1
  have hst5 := (FiveT.stable s #[.int .i64 6, .int .i64 o2, .int .i64 o3, .slice av ss.length cv] noAn noAn noAn noAn).both hst0
  have hcg := And.intro b1 c2
  have hpl := place6_calls w1.drew o2 n hnc
  rw [hi] at hpl
  clear b0 b2 b3
  (repeat' (first | (go_big_may; fail) | go_values | go_skip | go_guarded | go_step | go_upon | go_back | dsimp only))
  go_region_held3 (fun wx => wx.cell? ⟨s, 1, none⟩ = some (.int .i64 o2) ∧ wx.cell? ⟨kx, 2, none⟩ = some (.slice (some ⟨ga, 0, none⟩) n ca)) (first | assumption | go_keep) (first
    | (go_at_call 36; refine hpl.mono ?_; rintro e w8 ⟨rfl, rfl⟩))
  have H8 := Lib.hid (H5.out.drew hst5)
  clear H5 hcg b1 c2 lk hpl lk0
  generalize w1.drew = wq at *
  obtain ⟨y4, y2, y1, y3, y0⟩ := five_get H8.out
  obtain ⟨m0, m1, m2, m3, m4⟩ := five_at y3
  obtain ⟨n0, n1, n2, n3, n4⟩ := five_at y4
  have fm := thaw_at y3
  have fn := thaw_at y4
  have lm := lt_of_heap y3
  have ln := lt_of_heap y4
  have c2 := cell_at H8.out.drop.cell.1 2; have c5 := cell_at H8.out.drop.cell.1 5
  have ra := (H8.out.drop.drop.rowCell ha).1
  have rb2 := (H8.out.drop.drop.drop.rowCell hb).1
  have hi0 : (0 : Int) ≤ i := by omega
  have hi1 : (i : Int) < n := by omega
  have hi2 : ¬ (i : Int) < 0 := by omega
  clear y0 y1 y2 y3 y4
  (repeat' (first | (go_big_may; fail) | go_values | go_skip | go_guarded | go_step | go_upon | go_back | dsimp only))
  have HN := Lib.hid (Next_nil (w := wq) ((fails12_10 hF).below H8.out.below))
  clear m0 m1 m2 m3 m4 n0 n1 n2 n3 n4 fm fn lm ln c2 c5 ra rb2
  refine HN.out.mono ?_
  rintro e w9 ⟨rfl, hb9⟩
  have hst8 := (FiveT.stable s #[.int .i64 6, .int .i64 o2, .int .i64 o3, .slice av ss.length cv] noAn noAn noAn noAn).both hst0
  have h10 := H8.out.mono hst8 hb9
  obtain ⟨y4, y2, y1, y3, y0⟩ := five_get h10
  obtain ⟨m0, m1, m2, m3, m4⟩ := five_at y3
  obtain ⟨n0, n1, n2, n3, n4⟩ := five_at y4
  have fm := thaw_at y3
  have fn := thaw_at y4
  have lm := lt_of_heap y3
  have ln := lt_of_heap y4
  have c5 := cell_at h10.drop.cell.1 5
  have rb2 := (h10.drop.drop.drop.rowCell hb).1
  have hq1 : ¬ s + 1 + 1 + 1 = kx := by omega
  have hq2 : ¬ s + 1 + 1 + 1 + 1 = kx := by omega
  have hq3 : ¬ kx = s + 1 + 1 + 1 := by omega
  have hq4 : ¬ kx = s + 1 + 1 + 1 + 1 := by omega
  obtain ⟨hg1, hg2⟩ := five_row_ne h10
  have hg3 : ¬ gb = s + 1 + 1 + 1 := fun e => hg1 e.symm
  have hg4 : ¬ gb = s + 1 + 1 + 1 + 1 := fun e => hg2 e.symm
  have hg1 : ¬ s + 1 + 1 + 1 = gb := hg1
  have hg2 : ¬ s + 1 + 1 + 1 + 1 = gb := hg2
  have HE := Lib.hid (show At W _ (Both (FiveT s #[.int .i64 6, .int .i64 o2, .int .i64 o3, .slice av ss.length cv] noAn noAn (an6C ⟨0, 0, [], false, []⟩ (.slice none 0 0)) (an6C ⟨0, 1, [], false, []⟩ (.slice none 0 0))) (Both (CellT kx (wldC sb rb vw (.slice (some ⟨ga, 0, none⟩) n ca) vW (.slice (some ⟨gb, 0, none⟩) n cb)) tWld) (Both (RowG tPR 1 (.slice (some ⟨ga, 0, none⟩) n ca) n As) (Both (RowG tPR6 1 (.slice (some ⟨gb, 0, none⟩) n cb) n Bs) (Φ))))) from five_set4 (five_set3 (five_set3 h10 hst0 2 (.string ⟨([] : List UInt8).toArray⟩)) hst0 3 (.bool false)) hst0 1 (.int .i64 1))
  clear h10 y4 y2 y1 y3 y0 HN hb9 H8
  (repeat' (first | (go_big_may; fail) | go_values | go_skip | go_guarded | go_step | go_upon | go_back | dsimp only))
  clear m0 m1 m2 m3 m4 n0 n1 n2 n3 n4 fm fn lm ln hg1 hg2 hg3 hg4 hq1 hq2 hq3 hq4 c5 rb2 hi ha hb hn hil hi0 hi1 hi2 hcb hnc
  have hco := code6_calls ((fails12_11 hF).below HE.out.below) (c := 1) okC_one
  rw [errV_pos ef (by decide)] at hco
  clear hg1 hg2
  generalize World.setCell _ (⟨s + 1 + 1 + 1 + 1, 1, none⟩ : Addr) _ = we at *
  have HCO := Lib.hid hco
  clear hco
  obtain ⟨y4, y2, y1, y3, y0⟩ := five_get HE.out
  obtain ⟨m0, m1, m2, m3, m4⟩ := five_at y3
  have fm := thaw_at y3
  have lm := lt_of_heap y3
  have HE2 := Lib.hid (five_set3 HE.out hst0 1 (.int .i64 (1 : Nat)))
  clear y0 y1 y2 y3 y4
  (repeat' (first | (go_big_may; fail) | go_values | go_skip | go_guarded | go_step | go_upon | go_back | dsimp only))
  refine HCO.out.mono ?_
  rintro e w20 ⟨rfl, rfl⟩
  (repeat' (first | (go_big_may; fail) | go_values | go_skip | go_guarded | go_step | go_upon | go_back | dsimp only))
  clear m0 m1 m2 m3 m4 fm lm HCO HE
  generalize World.setCell _ (⟨s + 1 + 1 + 1, 1, none⟩ : Addr) _ = wf at *
  have he := HE2.out
  clear HE2
  have HE := Lib.hid he
  obtain ⟨y4, y2, y1, y3, y0⟩ := five_get he
  obtain ⟨x0, x1, x2, x3, x4⟩ := five_at y3
  obtain ⟨v0, v1, v2, v3, v4⟩ := five_at y4
  obtain ⟨q0, q1, q2, q3, q4⟩ := five_at y1
  obtain ⟨r0, r1, r2, r3, r4⟩ := five_at y2
  have g4 := thaw_at y1
  have g5 := thaw_at y2
  have l4 := lt_of_heap y1; have l5 := lt_of_heap y2; have l6 := lt_of_heap y3; have l7 := lt_of_heap y4
  have Y1 := Lib.hid y1
  have Y2 := Lib.hid y2
  clear y0 y1 y2 y3 y4 he
  (repeat' (first | (go_big_may; fail) | go_values | go_skip | go_guarded | go_step | go_upon | go_back | dsimp only))
  go_region
  (repeat' (first | (go_big_may; fail) | go_values | go_skip | go_guarded | go_step | go_upon | go_back | dsimp only))
  (try simp only [Exit.inBlock, Exit.then])
  refine bodyPost_ret (results_cells2 rfl _ _ (s + 1) (s + 1 + 1) tAn6 tAn6 (an6C ⟨0, 1, [], false, []⟩ (.slice none 0 0)) (an6C ⟨0, 1, [], false, []⟩ (.slice none 0 0)) (0, 0) (0, 0) _ rfl rfl ?_ ?_ Tryd.underlying59 rfl (by kernel_rfl) (by kernel_rfl)) rfl ?_
  · rw [heap_drew]; simp [World.setCell, Array.getElem?_modify, Y1.out]
  · rw [heap_drew]; simp [World.setCell, Array.getElem?_modify, Y2.out]
  · (try rw [HSY.out])
    (try rw [HY9.out])
    refine ⟨rfl, ?_⟩
    refine ?_
    exact HE.out.loseU [s + 1, s + 1 + 1, s + 1 + 1 + 1 + 1] hst0 (fun fp h => cellsT_mem h) (by repeat' (first | with_reducible exact Upd.refl _ _ | (with_reducible refine Upd.drew ?_) | (with_reducible refine Upd.setCell ?_ (.inl (by simp)) _)))
set_option maxRecDepth 100000 in
set_option maxHeartbeats 6400000 in
theorem step_next_none (hΦ : Stable Φ) (h : At W w (Both (CellT kx (wldC sb rb vw vr vW vR) tWld) (Both (RowG tPR 1 vr 0 []) Φ))) {o2 o3 : Int} (hv : RdRow W v ss.length 1 (strs ss)) :
    Calls Tryd.prog 15 #[.pointer (some ⟨kx, 0, none⟩), .agg #[.int .i64 6, .int .i64 o2, .int .i64 o3, v]] w fun e w' => e = .returned (.tuple #[an6V ⟨0, 0, [], false, []⟩ (.slice none 0 0), an6V ⟨0, 0, [], false, []⟩ (.slice none 0 0)]) ∧
      At W w' (Both (CellT kx (wldC sb rb vw vr vW vR) tWld) (Both (RowG tPR 1 vr 0 []) Φ)) := by
  obtain ⟨av, cv, rfl, _, _⟩ := hv.shape
  obtain ⟨ga, ca, hva, _, hca⟩ := own_shape h.drop.rowG
  subst hva
  have hst0 := (CellT.stable kx (wldC sb rb vw (.slice ga 0 ca) vW vR) tWld).both ((RowG.stable tPR 1 (.slice ga 0 ca) 0 []).both hΦ)
  have hi : place6N o2 0 = -1 := by unfold place6N; rw [if_pos (by omega)]; rfl
  have hkx := lt_of_heap h.cell.1
  have h5 : At W _ (Both (FiveT w.heap.size #[.int .i64 6, .int .i64 o2, .int .i64 o3, .slice av ss.length cv] noAn noAn noAn noAn) (Both (CellT kx (wldC sb rb vw (.slice ga 0 ca) vW vR) tWld) (Both (RowG tPR 1 (.slice ga 0 ca) 0 []) Φ))) := (h.five6 hst0 #[.int .i64 6, .int .i64 o2, .int .i64 o3, .slice av ss.length cv]).perm (by unfold FiveT; ac_rfl)
  have H5 := Lib.hid h5
  clear h5 h
  go_enter Tryd.func15, Tryd.ntmps15
  (repeat' (first | (go_big_may; fail) | go_values | go_skip | go_guarded | go_step | go_upon | go_back | dsimp only))
  generalize ((((w.alloc _).alloc _).alloc _).alloc _).alloc _ = w1 at *
  generalize w.heap.size = s at *
  obtain ⟨y4, y2, y1, y3, y0⟩ := five_get H5.out
  have b0 := cell_at y0 0; have b1 := cell_at y0 1; have b2 := cell_at y0 2; have b3 := cell_at y0 3
  have lk0 := lt_of_heap y0
  simp only [List.getElem?_toArray, List.getElem?_cons_zero, List.getElem?_cons_succ] at b0 b1 b2 b3
  clear y4 y2 y1 y3 y0
  have c2 := cell_at H5.out.drop.cell.1 2
  have lk := lt_of_heap H5.out.drop.cell.1
  have hst5 := (FiveT.stable s #[.int .i64 6, .int .i64 o2, .int .i64 o3, .slice av ss.length cv] noAn noAn noAn noAn).both hst0
  have hcg := And.intro b1 c2
  have hpl := place6_calls w1.drew o2 0 (by decide)
  rw [hi] at hpl
  clear b0 b2 b3
  (repeat' (first | (go_big_may; fail) | go_values | go_skip | go_guarded | go_step | go_upon | go_back | dsimp only))
  go_region_held3 (fun wx => wx.cell? ⟨s, 1, none⟩ = some (.int .i64 o2) ∧ wx.cell? ⟨kx, 2, none⟩ = some (.slice ga 0 ca)) (first | assumption | go_keep) (first
    | (go_at_call 36; refine hpl.mono ?_; rintro e w8 ⟨rfl, rfl⟩))
  have he := H5.out.drew hst5
  clear H5 hcg b1 c2 lk hpl lk0
  generalize w1.drew = wf at *
  (repeat' (first | (go_big_may; fail) | go_values | go_skip | go_guarded | go_step | go_upon | go_back | dsimp only))
  have HE := Lib.hid he
  obtain ⟨y4, y2, y1, y3, y0⟩ := five_get he
  obtain ⟨x0, x1, x2, x3, x4⟩ := five_at y3
  obtain ⟨v0, v1, v2, v3, v4⟩ := five_at y4
  obtain ⟨q0, q1, q2, q3, q4⟩ := five_at y1
  obtain ⟨r0, r1, r2, r3, r4⟩ := five_at y2
  have g4 := thaw_at y1
  have g5 := thaw_at y2
  have l4 := lt_of_heap y1; have l5 := lt_of_heap y2; have l6 := lt_of_heap y3; have l7 := lt_of_heap y4
  have Y1 := Lib.hid y1
  have Y2 := Lib.hid y2
  clear y0 y1 y2 y3 y4 he
  (repeat' (first | (go_big_may; fail) | go_values | go_skip | go_guarded | go_step | go_upon | go_back | dsimp only))
  go_region
  (repeat' (first | (go_big_may; fail) | go_values | go_skip | go_guarded | go_step | go_upon | go_back | dsimp only))
  (try simp only [Exit.inBlock, Exit.then])
  refine bodyPost_ret (results_cells2 rfl _ _ (s + 1) (s + 1 + 1) tAn6 tAn6 (an6C ⟨0, 0, [], false, []⟩ (.slice none 0 0)) (an6C ⟨0, 0, [], false, []⟩ (.slice none 0 0)) (0, 0) (0, 0) _ rfl rfl ?_ ?_ Tryd.underlying59 rfl (by kernel_rfl) (by kernel_rfl)) rfl ?_
  · rw [heap_drew]; simp [World.setCell, Array.getElem?_modify, Y1.out]
  · rw [heap_drew]; simp [World.setCell, Array.getElem?_modify, Y2.out]
  · (try rw [HSY.out])
    (try rw [HY9.out])
    refine ⟨rfl, ?_⟩
    refine ?_
    exact HE.out.loseU [s + 1, s + 1 + 1, s + 1 + 1 + 1 + 1] hst0 (fun fp h => cellsT_mem h) (by repeat' (first | with_reducible exact Upd.refl _ _ | (with_reducible refine Upd.drew ?_) | (with_reducible refine Upd.setCell ?_ (.inl (by simp)) _)))
end
end Go.Proofs.YtiimpnhjnodgpaaDoor
