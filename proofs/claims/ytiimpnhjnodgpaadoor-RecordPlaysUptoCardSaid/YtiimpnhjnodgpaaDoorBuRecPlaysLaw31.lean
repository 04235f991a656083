/- (*hornbooklaw06.world).writer walked. · (*hornbooklaw06.world).step walked: what it hands on to others; Break, Run, Live, and calls of no kind. · (*hornbooklaw06.world).step walked: Break, Run, Live. -/
import Derived.Test.YtiimpnhjnodgpaaDoorBuRecPlaysLaw30
import Derived.Test.YtiimpnhjnodgpaaDoorBuRecPlaysLaw28
import Derived.Test.YtiimpnhjnodgpaaDoorBuRecPlaysLaw37
set_option linter.unusedSimpArgs false
set_option linter.unusedVariables false
namespace Go.Proofs.YtiimpnhjnodgpaaDoor
open Go.RowKit

abbrev tPW : TypeId := 97
abbrev tPW6 : TypeId := 100
abbrev tPR : TypeId := 67
abbrev tPR6 : TypeId := 104
theorem place6_in {a : Int} {n : Nat} (hn : 0 < n) : ∃ i : Nat, place6N a n = i ∧ i < n := by
  unfold place6N
  by_cases h : a < 0 ∨ (n : Int) ≤ a
  · rw [if_pos h]; exact ⟨n - 1, by omega, by omega⟩
  · rw [if_neg h]; exact ⟨a.toNat, by omega, by omega⟩
theorem keep_store3b {w : World} {kx s : Nat} {u a c : Value} (h : w.cell? ⟨kx, 3, none⟩ = some a ∧ w.cell? ⟨s, 3, none⟩ = some c) :
    (w.setCell ⟨s + 1 + 1 + 1 + 1, 1, none⟩ u).cell? ⟨kx, 3, none⟩ = some a ∧ (w.setCell ⟨s + 1 + 1 + 1 + 1, 1, none⟩ u).cell? ⟨s, 3, none⟩ = some c :=
  ⟨(World.cell?_setCell_other _ _ _ _ (by simp)).trans h.1, (World.cell?_setCell_other _ _ _ _ (by simp)).trans h.2⟩
section
variable {W w : World} {R Φ : Thing} {kx sb rb : Nat} {ef : Nat → Nat × Nat} {S : St} {vw vr vW vR v : Value} {n i : Nat} {As Bs : List Value} {ss : List (List UInt8)}
set_option maxRecDepth 100000 in
set_option maxHeartbeats 3200000 in
theorem writer_put {k kr : Nat} {x y : WrD} (hΦe : Φ = Both (WrT k sb ef x) (Both (StoreT sb S) (Both (RwT kr y) (Both (RefT rb S) R)))) (h : At W w (Both (CellT kx (wldC sb rb vw vr vW vR) tWld) (Both (RowG tPW 1 vw n As) (Both (RowG tPW6 1 vW n Bs) Φ)))) (hR : Stable R) (hF : Fails W ef fails12) (hG : GoodS S) (hw : WOk S x y) {o2 o3 : Int} (hn : 0 < n) (hi : place6N o2 n = i) (hil : i < n)
    (ha : As[i]? = some (.pointer (some ⟨k, 0, none⟩))) (hb : Bs[i]? = some (.pointer (some ⟨kr, 0, none⟩))) (hv : RdRow W v ss.length 1 (strs ss)) (hlen : (frameL ss).length ≤ 16777216 ∧ ss.length ≤ 1048576) (hmade : S.made ≤ 16777216) (hokc : okC (putP S x ss).2.2) :
    Calls Tryd.prog 34 #[.pointer (some ⟨kx, 0, none⟩), .agg #[.int .i64 2, .int .i64 o2, .int .i64 o3, v]] w fun e w' => e = .returned (.tuple #[an6V ⟨0, (putP S x ss).2.2, [], false, []⟩ (.slice none 0 0), an6V ⟨0, (putP S x ss).2.2, [], false, []⟩ (.slice none 0 0)]) ∧
      ∃ y', WSim (putP S x ss).2.1 y' ∧ At W w' (Both (CellT kx (wldC sb rb vw vr vW vR) tWld) (Both (RowG tPW 1 vw n As) (Both (RowG tPW6 1 vW n Bs) (Both (WrT k sb ef (putP S x ss).2.1) (Both (StoreT sb (putP S x ss).1) (Both (RwT kr y') (Both (RefT rb (putP S x ss).1) R))))))) := by
  have hΦ : Stable Φ := by rw [hΦe]; exact (WrT.stable _ _ _ _).both ((StoreT.stable _ _).both ((RwT.stable _ _).both ((RefT.stable _ _).both hR)))
  obtain ⟨av, cv, rfl, _, _⟩ := hv.shape
  obtain ⟨p1, p2, p3⟩ := putP_sim (S := S) hw.sim ss
  have hrx : inI64 (x.run : Int) := by have := hw.made; unfold inI64; omega
  have hry : inI64 (y.run : Int) := by rw [hw.sim.run]; exact hrx
  have hok : okC (putP S x ss).2.2 := hokc
  have hRA := (RowG.stable tPW 1 vw n As).both ((RowG.stable tPW6 1 vW n Bs).both hΦ)
  have hst0 := (CellT.stable kx (wldC sb rb vw vr vW vR) tWld).both hRA
  have h5 : At W _ (Both (FiveT w.heap.size #[.int .i64 2, .int .i64 o2, .int .i64 o3, .slice av ss.length cv] noAn noAn noAn noAn) (Both (CellT kx (wldC sb rb vw vr vW vR) tWld) (Both (RowG tPW 1 vw n As) (Both (RowG tPW6 1 vW n Bs) Φ)))) := (h.five6 hst0 #[.int .i64 2, .int .i64 o2, .int .i64 o3, .slice av ss.length cv]).perm (by unfold FiveT; ac_rfl)
  have hln := own_shape h.drop.rowG
  obtain ⟨ga, ca, hva, _, _, _⟩ := own_cut h.drop.rowG hn
  obtain ⟨gb, cb, hvb, _, _, hcb⟩ := own_cut h.drop.drop.rowG hn
  subst hva hvb
  unfold maxLen at hcb
  have hkx := lt_of_heap h.cell.1
  clear hln h
  have hnc : n ≤ 9223372036854775807 := by omega
  have H5 := Lib.hid h5
  clear h5
  go_enter Tryd.func34, Tryd.ntmps34
  (repeat' (first | (go_big_may; fail) | go_values | go_skip | go_guarded | go_step | go_upon | go_back | dsimp only))
  generalize ((((w.alloc _).alloc _).alloc _).alloc _).alloc _ = w1 at *
  generalize w.heap.size = s at *
  obtain ⟨y4, y2, y1, y3, y0⟩ := five_get H5.out
  have b0 := cell_at y0 0; have b1 := cell_at y0 1; have b3 := cell_at y0 3
  have c1 := cell_at H5.out.drop.cell.1 1; have c4 := cell_at H5.out.drop.cell.1 4
  have lk := lt_of_heap H5.out.drop.cell.1; have ls := lt_of_heap y0
  have hst5 := (FiveT.stable s #[.int .i64 2, .int .i64 o2, .int .i64 o3, .slice av ss.length cv] noAn noAn noAn noAn).both hst0
  go_cut [8] (fun v8 wx => v8 = .int .i64 (i : Nat) ∧ At W wx (Both (FiveT s #[.int .i64 2, .int .i64 o2, .int .i64 o3, .slice av ss.length cv] noAn noAn noAn noAn) (Both (CellT kx (wldC sb rb (.slice (some ⟨ga, 0, none⟩) n ca) vr (.slice (some ⟨gb, 0, none⟩) n cb) vR) tWld) (Both (RowG tPW 1 (.slice (some ⟨ga, 0, none⟩) n ca) n As) (Both (RowG tPW6 1 (.slice (some ⟨gb, 0, none⟩) n cb) n Bs) Φ)))))
  case first =>
    refine wp_only ?_
    rename_i J K' hJ hK
    have HJ := Lib.hid hJ
    have HK := Lib.hid hK
    clear hJ hK
    have hcg := And.intro b1 c1
    have hpl := place6_calls w1.drew o2 n hnc
    rw [hi] at hpl
    go_region_held3 (fun wx => wx.cell? ⟨s, 1, none⟩ = some (.int .i64 o2) ∧ wx.cell? ⟨kx, 1, none⟩ = some (.slice (some ⟨ga, 0, none⟩) n ca)) (first | assumption | go_keep) (first
      | (go_at_call 36; refine hpl.mono ?_; rintro e w8 ⟨rfl, rfl⟩))
    all_goals
      refine HK.out _ _ ?_
      have hJ := HJ.out
      go_meet
      case rel => exact ⟨rfl, H5.out.drew hst5⟩
  case rest =>
    obtain ⟨e8, h8⟩ := hcut
    subst e8
    have H8 := Lib.hid h8
    clear h8 H5 y0 y1 y2 y3 y4 b0 b1 b3 c1 c4 lk ls
    obtain ⟨y4, y2, y1, y3, y0⟩ := five_get H8.out
    have b0 := cell_at y0 0; have b3 := cell_at y0 3
    have c1 := cell_at H8.out.drop.cell.1 1; have c4 := cell_at H8.out.drop.cell.1 4
    have ra := (H8.out.drop.drop.rowCell ha).1
    have rb2 := (H8.out.drop.drop.drop.rowCell hb).1
    have hi0 : (0 : Int) ≤ i := by omega
    have hi1 : (i : Int) < n := by omega
    have hi2 : ¬ (i : Int) < 0 := by omega
    clear y0 y1 y2 y3 y4
    (repeat' (first | (go_big_may; fail) | go_values | go_skip | go_guarded | go_step | go_upon | go_back | dsimp only))
    go_quiet (fail)
    have HP := Lib.hid (H8.out.mono hst5 (below_dW _ nq))
    clear H8 c1 c4 ra rb2 b0 b3
    obtain ⟨y4, y2, y1, y3, y0⟩ := five_get HP.out
    have b0 := cell_at y0 0; have b3 := cell_at y0 3
    have c3 := cell_at HP.out.drop.cell.1 3
    generalize World.drewN _ nq = wq at *
    (repeat' (first | (go_big_may; fail) | go_values | go_skip | go_guarded | go_step | go_upon | go_back | dsimp only))
    have HTW := Lib.hid (twin_calls ss (.slice av ss.length cv) wq (hv.below HP.out.below) (by omega))
    refine HTW.out.mono ?_
    rintro e w2 ⟨v2, rfl, ho2, hb2⟩
    have hstP := (FiveT.stable s #[.int .i64 2, .int .i64 o2, .int .i64 o3, .slice av ss.length cv] noAn noAn noAn noAn).both hst0
    have h2 := (HP.out.newRowG hstP hb2 ho2).drop
    rw [hΦe] at h2
    have hbl := hw.block
    have hsm := hw.small
    have h3 : At W w2 (Both (WrT k sb ef x) (Both (StoreT sb S) (Both (FiveT s #[.int .i64 2, .int .i64 o2, .int .i64 o3, .slice av ss.length cv] noAn noAn noAn noAn) (Both (CellT kx (wldC sb rb (.slice (some ⟨ga, 0, none⟩) n ca) vr (.slice (some ⟨gb, 0, none⟩) n cb) vR) tWld) (Both (RowG tPW 1 (.slice (some ⟨ga, 0, none⟩) n ca) n As) (Both (RowG tPW6 1 (.slice (some ⟨gb, 0, none⟩) n cb) n Bs) (Both (RwT kr y) (Both (RefT rb S) R)))))))) := h2.perm (by ac_rfl)
    have hR3 := (FiveT.stable s #[.int .i64 2, .int .i64 o2, .int .i64 o3, .slice av ss.length cv] noAn noAn noAn noAn).both ((CellT.stable kx (wldC sb rb (.slice (some ⟨ga, 0, none⟩) n ca) vr (.slice (some ⟨gb, 0, none⟩) n cb) vR) tWld).both ((RowG.stable tPW 1 (.slice (some ⟨ga, 0, none⟩) n ca) n As).both ((RowG.stable tPW6 1 (.slice (some ⟨gb, 0, none⟩) n cb) n Bs).both ((RwT.stable kr y).both ((RefT.stable rb S).both hR)))))
    have HPU := Lib.hid (Put_at goodI h3 hR3 (fails12_11 hF) hG hbl.1 hbl.2 hrx (RdRow.of_own ho2) (by omega))
    clear h2 h3 HTW HP b0 b3 c3 y4 y2 y1 y3 y0 ho2 hb2
    (repeat' (first | (go_big_may; fail) | go_values | go_skip | go_guarded | go_step | go_upon | go_back | dsimp only))
    refine HPU.out.mono ?_
    rintro e w3 ⟨rfl, h4⟩
    clear HPU
    obtain ⟨X, hX⟩ : ∃ X : Thing, X = (Both (CellT kx (wldC sb rb (.slice (some ⟨ga, 0, none⟩) n ca) vr (.slice (some ⟨gb, 0, none⟩) n cb) vR) tWld) (Both (RowG tPW 1 (.slice (some ⟨ga, 0, none⟩) n ca) n As) (Both (RowG tPW6 1 (.slice (some ⟨gb, 0, none⟩) n cb) n Bs) (Both (WrT k sb ef (putP S x ss).2.1) (Both (StoreT sb (putP S x ss).1) (Both (RwT kr y) (Both (RefT rb S) R))))))) := ⟨_, rfl⟩
    have h5 : At W w3 (Both (FiveT s #[.int .i64 2, .int .i64 o2, .int .i64 o3, .slice av ss.length cv] noAn noAn noAn noAn) X) := h4.perm (by rw [hX]; ac_rfl)
    have hsX : Stable X := by rw [hX]; exact (CellT.stable _ _ _).both ((RowG.stable _ _ _ _ _).both ((RowG.stable _ _ _ _ _).both ((WrT.stable _ _ _ _).both ((StoreT.stable _ _).both ((RwT.stable _ _).both ((RefT.stable _ _).both hR))))))
    obtain ⟨y4, y2, y1, y3, y0⟩ := five_get h5
    obtain ⟨n0, n1, _, _, _⟩ := five_at y4
    have fn := thaw_at y4
    have ln := lt_of_heap y4
    have HS5 := Lib.hid (five_set4 h5 hsX 1 (.int .i64 1))
    have H5 := Lib.hid h5
    clear h4 h5 y0 y1 y2 y3 y4
    (repeat' (first | (go_big_may; fail) | go_values | go_skip | go_guarded | go_step | go_upon | go_back | dsimp only))
    clear n0 n1 fn ln H5
    generalize World.setCell w3 _ _ = wz at *
    have hz0 := HS5.out
    obtain ⟨y4, y2, y1, y3, y0⟩ := five_get hz0
    obtain ⟨n0, n1, _, _, _⟩ := five_at y4
    have fn := thaw_at y4
    have ln := lt_of_heap y4
    have ls := lt_of_heap y0
    have cs3 := cell_at y0 3
    have hz1 := hz0.drew ((FiveT.stable _ _ _ _ _ _).both hsX)
    rw [hX] at hz0 hz1
    have cx3 := cell_at hz0.drop.cell.1 3
    have lkx := lt_of_heap hz0.drop.cell.1
    have hR5 := (FiveT.stable s #[.int .i64 2, .int .i64 o2, .int .i64 o3, .slice av ss.length cv] noAn noAn noAn (an6C ⟨0, 1, [], false, []⟩ (.slice none 0 0))).both ((CellT.stable kx (wldC sb rb (.slice (some ⟨ga, 0, none⟩) n ca) vr (.slice (some ⟨gb, 0, none⟩) n cb) vR) tWld).both ((RowG.stable tPW 1 (.slice (some ⟨ga, 0, none⟩) n ca) n As).both ((RowG.stable tPW6 1 (.slice (some ⟨gb, 0, none⟩) n cb) n Bs).both ((WrT.stable k sb ef (putP S x ss).2.1).both ((StoreT.stable sb (putP S x ss).1).both hR)))))
    have hz2 : At W wz.drew (Both (RwT kr y) (Both (RefT rb S) (Both (FiveT s #[.int .i64 2, .int .i64 o2, .int .i64 o3, .slice av ss.length cv] noAn noAn noAn (an6C ⟨0, 1, [], false, []⟩ (.slice none 0 0))) (Both (CellT kx (wldC sb rb (.slice (some ⟨ga, 0, none⟩) n ca) vr (.slice (some ⟨gb, 0, none⟩) n cb) vR) tWld) (Both (RowG tPW 1 (.slice (some ⟨ga, 0, none⟩) n ca) n As) (Both (RowG tPW6 1 (.slice (some ⟨gb, 0, none⟩) n cb) n Bs) (Both (WrT k sb ef (putP S x ss).2.1) (Both (StoreT sb (putP S x ss).1) R)))))))) := hz1.perm (by ac_rfl)
    have hrp := rPut_at hz2 hR5 hG (by rw [hw.sim.block]; exact hbl.1) (by rw [hw.sim.block]; exact hbl.2) hry (hv.below hz2.below) (fun e => by rw [hw.sim.buf (by rw [← hw.sim.dead]; exact e)]; omega)
    rw [p1, p2] at hrp
    have HRP := Lib.hid hrp
    have hcg := And.intro cx3 cs3
    clear hz0 hz1 hz2 hrp y4 y2 y1 y3 y0
    go_region_held3 (fun wx => wx.cell? ⟨kx, 3, none⟩ = some (.pointer (some ⟨rb, 0, none⟩)) ∧ wx.cell? ⟨s, 3, none⟩ = some (.slice av ss.length cv)) (first | assumption | exact keep_store3b (by assumption) | go_keep) (first
      | (go_at_call 60; refine HRP.out.mono ?_; rintro e w8 ⟨rfl, y', hy', h13⟩
         have h14 : At W w8 (Both (FiveT s #[.int .i64 2, .int .i64 o2, .int .i64 o3, .slice av ss.length cv] noAn noAn noAn (an6C ⟨0, 1, [], false, []⟩ (.slice none 0 0))) (Both (CellT kx (wldC sb rb (.slice (some ⟨ga, 0, none⟩) n ca) vr (.slice (some ⟨gb, 0, none⟩) n cb) vR) tWld) (Both (RowG tPW 1 (.slice (some ⟨ga, 0, none⟩) n ca) n As) (Both (RowG tPW6 1 (.slice (some ⟨gb, 0, none⟩) n cb) n Bs) (Both (WrT k sb ef (putP S x ss).2.1) (Both (StoreT sb (putP S x ss).1) (Both (RwT kr y') (Both (RefT rb (putP S x ss).1) R)))))))) := h13.perm (by ac_rfl)
         obtain ⟨y4, y2, y1, y3, y0⟩ := five_get h14
         obtain ⟨k0, k1, _, _, _⟩ := five_at y4
         have kf := thaw_at y4
         have q3 := cell_at h14.drop.cell.1 3
         have q4 := cell_at y0 3
         have lk4 := lt_of_heap y4; have lk5 := lt_of_heap h14.drop.cell.1; have lk6 := lt_of_heap y0
         have cg8 := And.intro q3 q4
         have H14 := Lib.hid h14
         have HY := Lib.hid hy'
         clear h13 h14 hy' y0 y1 y2 y3 y4))
    all_goals
      have hst14 := ((CellT.stable kx (wldC sb rb (.slice (some ⟨ga, 0, none⟩) n ca) vr (.slice (some ⟨gb, 0, none⟩) n cb) vR) tWld).both ((RowG.stable tPW 1 (.slice (some ⟨ga, 0, none⟩) n ca) n As).both ((RowG.stable tPW6 1 (.slice (some ⟨gb, 0, none⟩) n cb) n Bs).both ((WrT.stable k sb ef (putP S x ss).2.1).both ((StoreT.stable sb (putP S x ss).1).both ((RwT.stable kr y').both ((RefT.stable rb (putP S x ss).1).both hR)))))))
      have HE := Lib.hid (five_set4 H14.out hst14 1 (.int .i64 (putP S x ss).2.2))
      clear HS5 HRP n0 n1 fn ln ls cs3 cx3 lkx hcg hsX H14
      (repeat' (first | (go_big_may; fail) | go_values | go_skip | go_guarded | go_step | go_upon | go_back | dsimp only))
      (try simp only [Exit.inBlock, Exit.then])
      (repeat' (first | (go_big_may; fail) | go_values | go_skip | go_guarded | go_step | go_upon | go_back | dsimp only))
      have HCO := Lib.hid (code6_calls ((fails12_11 hF).below HE.out.below) hok)
      have hstE := ((CellT.stable kx (wldC sb rb (.slice (some ⟨ga, 0, none⟩) n ca) vr (.slice (some ⟨gb, 0, none⟩) n cb) vR) tWld).both ((RowG.stable tPW 1 (.slice (some ⟨ga, 0, none⟩) n ca) n As).both ((RowG.stable tPW6 1 (.slice (some ⟨gb, 0, none⟩) n cb) n Bs).both ((WrT.stable k sb ef (putP S x ss).2.1).both ((StoreT.stable sb (putP S x ss).1).both ((RwT.stable kr y').both ((RefT.stable rb (putP S x ss).1).both hR)))))))
      obtain ⟨y4, y2, y1, y3, y0⟩ := five_get HE.out
      obtain ⟨m0, m1, m2, m3, m4⟩ := five_at y3
      have fm := thaw_at y3
      have lm := lt_of_heap y3
      have HE2 := Lib.hid (five_set3 HE.out hstE 1 (.int .i64 ((putP S x ss).2.2 : Nat)))
      clear y0 y1 y2 y3 y4
      (repeat' (first | (go_big_may; fail) | go_values | go_skip | go_guarded | go_step | go_upon | go_back | dsimp only))
      refine HCO.out.mono ?_
      rintro e w20 ⟨rfl, rfl⟩
      (repeat' (first | (go_big_may; fail) | go_values | go_skip | go_guarded | go_step | go_upon | go_back | dsimp only))
      clear m0 m1 m2 m3 m4 fm lm HCO HE
      generalize World.setCell _ (⟨s + 1 + 1 + 1, 1, none⟩ : Addr) _ = wf at *
      have he : At W wf (Both (FiveT s #[.int .i64 2, .int .i64 o2, .int .i64 o3, .slice av ss.length cv] noAn noAn (an6C ⟨0, (putP S x ss).2.2, [], false, []⟩ (.slice none 0 0)) (an6C ⟨0, (putP S x ss).2.2, [], false, []⟩ (.slice none 0 0))) (Both (CellT kx (wldC sb rb (.slice (some ⟨ga, 0, none⟩) n ca) vr (.slice (some ⟨gb, 0, none⟩) n cb) vR) tWld) (Both (RowG tPW 1 (.slice (some ⟨ga, 0, none⟩) n ca) n As) (Both (RowG tPW6 1 (.slice (some ⟨gb, 0, none⟩) n cb) n Bs) (Both (WrT k sb ef (putP S x ss).2.1) (Both (StoreT sb (putP S x ss).1) (Both (RwT kr y') (Both (RefT rb (putP S x ss).1) R)))))))) := HE2.out
      clear HE2
      have HE := Lib.hid he
      obtain ⟨y4, y2, y1, y3, y0⟩ := five_get he
      obtain ⟨x0, x1, x2, x3, x4⟩ := five_at y3
      obtain ⟨v0, v1, v2, v3, v4⟩ := five_at y4
      obtain ⟨q0, q1, q2, q3, q4⟩ := five_at y1
      obtain ⟨r0, r1, r2, r3, r4⟩ := five_at y2
      have g4 := thaw_at y1
      have g5 := thaw_at y2
      have l4 := lt_of_heap y1; have l5 := lt_of_heap y2; have l6 := lt_of_heap y3; have l7 := lt_of_heap y4
      have Y1 := Lib.hid y1
      have Y2 := Lib.hid y2
      clear y0 y1 y2 y3 y4 he
      (repeat' (first | (go_big_may; fail) | go_values | go_skip | go_guarded | go_step | go_upon | go_back | dsimp only))
      go_region
      (repeat' (first | (go_big_may; fail) | go_values | go_skip | go_guarded | go_step | go_upon | go_back | dsimp only))
      (try simp only [Exit.inBlock, Exit.then])
      refine bodyPost_ret (results_cells2 rfl _ _ (s + 1) (s + 1 + 1) tAn6 tAn6 (an6C ⟨0, (putP S x ss).2.2, [], false, []⟩ (.slice none 0 0)) (an6C ⟨0, (putP S x ss).2.2, [], false, []⟩ (.slice none 0 0)) (0, 0) (0, 0) _ rfl rfl ?_ ?_ Tryd.underlying59 rfl (by kernel_rfl) (by kernel_rfl)) rfl ?_
      · rw [heap_drew]; simp [World.setCell, Array.getElem?_modify, Y1.out]
      · rw [heap_drew]; simp [World.setCell, Array.getElem?_modify, Y2.out]
      · refine ⟨rfl, ?_⟩
        refine ⟨y', p3.trans HY.out, ?_⟩
        exact HE.out.loseU [s + 1, s + 1 + 1, s + 1 + 1 + 1 + 1] ((CellT.stable kx (wldC sb rb (.slice (some ⟨ga, 0, none⟩) n ca) vr (.slice (some ⟨gb, 0, none⟩) n cb) vR) tWld).both ((RowG.stable tPW 1 (.slice (some ⟨ga, 0, none⟩) n ca) n As).both ((RowG.stable tPW6 1 (.slice (some ⟨gb, 0, none⟩) n cb) n Bs).both ((WrT.stable k sb ef (putP S x ss).2.1).both ((StoreT.stable sb (putP S x ss).1).both ((RwT.stable kr y').both ((RefT.stable rb (putP S x ss).1).both hR))))))) (fun fp h => cellsT_mem h) (by repeat' (first | with_reducible exact Upd.refl _ _ | (with_reducible refine Upd.drew ?_) | (with_reducible refine Upd.setCell ?_ (.inl (by simp)) _)))
set_option maxRecDepth 100000 in
set_option maxHeartbeats 3200000 in
theorem writer_close {k kr : Nat} {x y : WrD} (hΦe : Φ = Both (WrT k sb ef x) (Both (StoreT sb S) (Both (RwT kr y) (Both (RefT rb S) R)))) (h : At W w (Both (CellT kx (wldC sb rb vw vr vW vR) tWld) (Both (RowG tPW 1 vw n As) (Both (RowG tPW6 1 vW n Bs) Φ)))) (hR : Stable R) (hF : Fails W ef fails12) (hG : GoodS S) (hw : WOk S x y) {o2 o3 : Int} (hn : 0 < n) (hi : place6N o2 n = i) (hil : i < n)
    (ha : As[i]? = some (.pointer (some ⟨k, 0, none⟩))) (hb : Bs[i]? = some (.pointer (some ⟨kr, 0, none⟩))) (hv : RdRow W v ss.length 1 (strs ss)) (hmade : S.made ≤ 16777216) (hokc : okC (closeP S x).2.2.2) :
    Calls Tryd.prog 34 #[.pointer (some ⟨kx, 0, none⟩), .agg #[.int .i64 3, .int .i64 o2, .int .i64 o3, v]] w fun e w' => e = .returned (.tuple #[an6V ⟨(closeP S x).2.2.1, (closeP S x).2.2.2, [], false, []⟩ (.slice none 0 0), an6V ⟨(closeP S x).2.2.1, (closeP S x).2.2.2, [], false, []⟩ (.slice none 0 0)]) ∧
      ∃ y', WSim (closeP S x).2.1 y' ∧ At W w' (Both (CellT kx (wldC sb rb vw vr vW vR) tWld) (Both (RowG tPW 1 vw n As) (Both (RowG tPW6 1 vW n Bs) (Both (WrT k sb ef (closeP S x).2.1) (Both (StoreT sb (closeP S x).1) (Both (RwT kr y') (Both (RefT rb (closeP S x).1) R))))))) := by
  have hΦ : Stable Φ := by rw [hΦe]; exact (WrT.stable _ _ _ _).both ((StoreT.stable _ _).both ((RwT.stable _ _).both ((RefT.stable _ _).both hR)))
  obtain ⟨av, cv, rfl, _, _⟩ := hv.shape
  obtain ⟨p1, p2, p3⟩ := closeP_sim (S := S) hw.sim
  have hrx : inI64 (x.run : Int) := by have := hw.made; unfold inI64; omega
  have hry : inI64 (y.run : Int) := by rw [hw.sim.run]; exact hrx
  have hok : okC (closeP S x).2.2.2 := hokc
  have hRA := (RowG.stable tPW 1 vw n As).both ((RowG.stable tPW6 1 vW n Bs).both hΦ)
  have hst0 := (CellT.stable kx (wldC sb rb vw vr vW vR) tWld).both hRA
  have h5 : At W _ (Both (FiveT w.heap.size #[.int .i64 3, .int .i64 o2, .int .i64 o3, .slice av ss.length cv] noAn noAn noAn noAn) (Both (CellT kx (wldC sb rb vw vr vW vR) tWld) (Both (RowG tPW 1 vw n As) (Both (RowG tPW6 1 vW n Bs) Φ)))) := (h.five6 hst0 #[.int .i64 3, .int .i64 o2, .int .i64 o3, .slice av ss.length cv]).perm (by unfold FiveT; ac_rfl)
  have hln := own_shape h.drop.rowG
  obtain ⟨ga, ca, hva, _, _, _⟩ := own_cut h.drop.rowG hn
  obtain ⟨gb, cb, hvb, _, _, hcb⟩ := own_cut h.drop.drop.rowG hn
  subst hva hvb
  unfold maxLen at hcb
  have hkx := lt_of_heap h.cell.1
  clear hln h
  have hnc : n ≤ 9223372036854775807 := by omega
  have H5 := Lib.hid h5
  clear h5
  go_enter Tryd.func34, Tryd.ntmps34
  (repeat' (first | (go_big_may; fail) | go_values | go_skip | go_guarded | go_step | go_upon | go_back | dsimp only))
  generalize ((((w.alloc _).alloc _).alloc _).alloc _).alloc _ = w1 at *
  generalize w.heap.size = s at *
  obtain ⟨y4, y2, y1, y3, y0⟩ := five_get H5.out
  have b0 := cell_at y0 0; have b1 := cell_at y0 1; have b3 := cell_at y0 3
  have c1 := cell_at H5.out.drop.cell.1 1; have c4 := cell_at H5.out.drop.cell.1 4
  have lk := lt_of_heap H5.out.drop.cell.1; have ls := lt_of_heap y0
  have hst5 := (FiveT.stable s #[.int .i64 3, .int .i64 o2, .int .i64 o3, .slice av ss.length cv] noAn noAn noAn noAn).both hst0
  go_cut [8] (fun v8 wx => v8 = .int .i64 (i : Nat) ∧ At W wx (Both (FiveT s #[.int .i64 3, .int .i64 o2, .int .i64 o3, .slice av ss.length cv] noAn noAn noAn noAn) (Both (CellT kx (wldC sb rb (.slice (some ⟨ga, 0, none⟩) n ca) vr (.slice (some ⟨gb, 0, none⟩) n cb) vR) tWld) (Both (RowG tPW 1 (.slice (some ⟨ga, 0, none⟩) n ca) n As) (Both (RowG tPW6 1 (.slice (some ⟨gb, 0, none⟩) n cb) n Bs) Φ)))))
  case first =>
    refine wp_only ?_
    rename_i J K' hJ hK
    have HJ := Lib.hid hJ
    have HK := Lib.hid hK
    clear hJ hK
    have hcg := And.intro b1 c1
    have hpl := place6_calls w1.drew o2 n hnc
    rw [hi] at hpl
    go_region_held3 (fun wx => wx.cell? ⟨s, 1, none⟩ = some (.int .i64 o2) ∧ wx.cell? ⟨kx, 1, none⟩ = some (.slice (some ⟨ga, 0, none⟩) n ca)) (first | assumption | go_keep) (first
      | (go_at_call 36; refine hpl.mono ?_; rintro e w8 ⟨rfl, rfl⟩))
    all_goals
      refine HK.out _ _ ?_
      have hJ := HJ.out
      go_meet
      case rel => exact ⟨rfl, H5.out.drew hst5⟩
  case rest =>
    obtain ⟨e8, h8⟩ := hcut
    subst e8
    have H8 := Lib.hid h8
    clear h8 H5 y0 y1 y2 y3 y4 b0 b1 b3 c1 c4 lk ls
    obtain ⟨y4, y2, y1, y3, y0⟩ := five_get H8.out
    have b0 := cell_at y0 0; have b3 := cell_at y0 3
    have c1 := cell_at H8.out.drop.cell.1 1; have c4 := cell_at H8.out.drop.cell.1 4
    have ra := (H8.out.drop.drop.rowCell ha).1
    have rb2 := (H8.out.drop.drop.drop.rowCell hb).1
    have hi0 : (0 : Int) ≤ i := by omega
    have hi1 : (i : Int) < n := by omega
    have hi2 : ¬ (i : Int) < 0 := by omega
    clear y0 y1 y2 y3 y4
    (repeat' (first | (go_big_may; fail) | go_values | go_skip | go_guarded | go_step | go_upon | go_back | dsimp only))
    go_quiet (fail)
    have HP := Lib.hid (H8.out.mono hst5 (below_dW _ nq))
    clear H8 c1 c4 ra rb2 b0 b3
    obtain ⟨y4, y2, y1, y3, y0⟩ := five_get HP.out
    have b0 := cell_at y0 0; have b3 := cell_at y0 3
    have c3 := cell_at HP.out.drop.cell.1 3
    generalize World.drewN _ nq = wq at *
    (repeat' (first | (go_big_may; fail) | go_values | go_skip | go_guarded | go_step | go_upon | go_back | dsimp only))
    have hP := HP.out
    rw [hΦe] at hP
    have hbl := hw.block
    have hsm := hw.small
    have h3 : At W wq (Both (WrT k sb ef x) (Both (StoreT sb S) (Both (FiveT s #[.int .i64 3, .int .i64 o2, .int .i64 o3, .slice av ss.length cv] noAn noAn noAn noAn) (Both (CellT kx (wldC sb rb (.slice (some ⟨ga, 0, none⟩) n ca) vr (.slice (some ⟨gb, 0, none⟩) n cb) vR) tWld) (Both (RowG tPW 1 (.slice (some ⟨ga, 0, none⟩) n ca) n As) (Both (RowG tPW6 1 (.slice (some ⟨gb, 0, none⟩) n cb) n Bs) (Both (RwT kr y) (Both (RefT rb S) R)))))))) := hP.perm (by ac_rfl)
    have hR3 := (FiveT.stable s #[.int .i64 3, .int .i64 o2, .int .i64 o3, .slice av ss.length cv] noAn noAn noAn noAn).both ((CellT.stable kx (wldC sb rb (.slice (some ⟨ga, 0, none⟩) n ca) vr (.slice (some ⟨gb, 0, none⟩) n cb) vR) tWld).both ((RowG.stable tPW 1 (.slice (some ⟨ga, 0, none⟩) n ca) n As).both ((RowG.stable tPW6 1 (.slice (some ⟨gb, 0, none⟩) n cb) n Bs).both ((RwT.stable kr y).both ((RefT.stable rb S).both hR)))))
    have HCL := Lib.hid (Close_at goodI h3 hR3 (fails12_11 hF) hG hrx (by omega))
    clear hP h3 HP b0 b3 c3 y4 y2 y1 y3 y0
    refine HCL.out.mono ?_
    rintro e w3 ⟨rfl, h4⟩
    clear HCL
    have h5 : At W w3 (Both (FiveT s #[.int .i64 3, .int .i64 o2, .int .i64 o3, .slice av ss.length cv] noAn noAn noAn noAn) (Both (CellT kx (wldC sb rb (.slice (some ⟨ga, 0, none⟩) n ca) vr (.slice (some ⟨gb, 0, none⟩) n cb) vR) tWld) (Both (RowG tPW 1 (.slice (some ⟨ga, 0, none⟩) n ca) n As) (Both (RowG tPW6 1 (.slice (some ⟨gb, 0, none⟩) n cb) n Bs) (Both (WrT k sb ef (closeP S x).2.1) (Both (StoreT sb (closeP S x).1) (Both (RwT kr y) (Both (RefT rb S) R)))))))) := h4.perm (by ac_rfl)
    have hs5 := ((CellT.stable kx (wldC sb rb (.slice (some ⟨ga, 0, none⟩) n ca) vr (.slice (some ⟨gb, 0, none⟩) n cb) vR) tWld).both ((RowG.stable tPW 1 (.slice (some ⟨ga, 0, none⟩) n ca) n As).both ((RowG.stable tPW6 1 (.slice (some ⟨gb, 0, none⟩) n cb) n Bs).both ((WrT.stable k sb ef (closeP S x).2.1).both ((StoreT.stable sb (closeP S x).1).both ((RwT.stable kr y).both ((RefT.stable rb S).both hR)))))))
    obtain ⟨y4, y2, y1, y3, y0⟩ := five_get h5
    obtain ⟨m0, m1, _, _, _⟩ := five_at y3
    obtain ⟨n0, n1, _, _, _⟩ := five_at y4
    have fm := thaw_at y3
    have fn := thaw_at y4
    have lm := lt_of_heap y3
    have ln := lt_of_heap y4
    have cx3 := cell_at h5.drop.cell.1 3
    have hn1 : ¬ kx = s + 1 + 1 + 1 := by omega
    have hn2 : ¬ s + 1 + 1 + 1 = kx := by omega
    have hn3 : ¬ kx = s + 1 + 1 + 1 + 1 := by omega
    have hn4 : ¬ s + 1 + 1 + 1 + 1 = kx := by omega
    have h6 := five_set4 (five_set3 h5 hs5 0 (.int .i64 (closeP S x).2.2.1)) hs5 1 (.int .i64 1)
    have h7 : At W _ (Both (RwT kr y) (Both (RefT rb S) (Both (FiveT s #[.int .i64 3, .int .i64 o2, .int .i64 o3, .slice av ss.length cv] noAn noAn (an6C ⟨(closeP S x).2.2.1, 0, [], false, []⟩ (.slice none 0 0)) (an6C ⟨0, 1, [], false, []⟩ (.slice none 0 0))) (Both (CellT kx (wldC sb rb (.slice (some ⟨ga, 0, none⟩) n ca) vr (.slice (some ⟨gb, 0, none⟩) n cb) vR) tWld) (Both (RowG tPW 1 (.slice (some ⟨ga, 0, none⟩) n ca) n As) (Both (RowG tPW6 1 (.slice (some ⟨gb, 0, none⟩) n cb) n Bs) (Both (WrT k sb ef (closeP S x).2.1) (Both (StoreT sb (closeP S x).1) R)))))))) := h6.perm (show _ = Both (RwT kr y) (Both (RefT rb S) (Both (FiveT s #[.int .i64 3, .int .i64 o2, .int .i64 o3, .slice av ss.length cv] noAn noAn (an6C ⟨(closeP S x).2.2.1, 0, [], false, []⟩ (.slice none 0 0)) (an6C ⟨0, 1, [], false, []⟩ (.slice none 0 0))) (Both (CellT kx (wldC sb rb (.slice (some ⟨ga, 0, none⟩) n ca) vr (.slice (some ⟨gb, 0, none⟩) n cb) vR) tWld) (Both (RowG tPW 1 (.slice (some ⟨ga, 0, none⟩) n ca) n As) (Both (RowG tPW6 1 (.slice (some ⟨gb, 0, none⟩) n cb) n Bs) (Both (WrT k sb ef (closeP S x).2.1) (Both (StoreT sb (closeP S x).1) R))))))) by ac_rfl)
    have hrc := rClose_at h7 ((FiveT.stable s #[.int .i64 3, .int .i64 o2, .int .i64 o3, .slice av ss.length cv] noAn noAn (an6C ⟨(closeP S x).2.2.1, 0, [], false, []⟩ (.slice none 0 0)) (an6C ⟨0, 1, [], false, []⟩ (.slice none 0 0))).both ((CellT.stable kx (wldC sb rb (.slice (some ⟨ga, 0, none⟩) n ca) vr (.slice (some ⟨gb, 0, none⟩) n cb) vR) tWld).both ((RowG.stable tPW 1 (.slice (some ⟨ga, 0, none⟩) n ca) n As).both ((RowG.stable tPW6 1 (.slice (some ⟨gb, 0, none⟩) n cb) n Bs).both ((WrT.stable k sb ef (closeP S x).2.1).both ((StoreT.stable sb (closeP S x).1).both hR)))))) hG hry (fun e => by rw [hw.sim.buf (by rw [← hw.sim.dead]; exact e)]; have := hw.alive (by rw [← hw.sim.dead]; exact e); omega)
    rw [p1, p2] at hrc
    have HRC := Lib.hid hrc
    clear hrc h4 h5 h6 h7 y4 y2 y1 y3 y0
    (repeat' (first | (go_big_may; fail) | go_values | go_skip | go_guarded | go_step | go_upon | go_back | dsimp only))
    refine HRC.out.mono ?_
    rintro e w9 ⟨rfl, y', hy', h8⟩
    have h9 : At W w9 (Both (FiveT s #[.int .i64 3, .int .i64 o2, .int .i64 o3, .slice av ss.length cv] noAn noAn (an6C ⟨(closeP S x).2.2.1, 0, [], false, []⟩ (.slice none 0 0)) (an6C ⟨0, 1, [], false, []⟩ (.slice none 0 0))) (Both (CellT kx (wldC sb rb (.slice (some ⟨ga, 0, none⟩) n ca) vr (.slice (some ⟨gb, 0, none⟩) n cb) vR) tWld) (Both (RowG tPW 1 (.slice (some ⟨ga, 0, none⟩) n ca) n As) (Both (RowG tPW6 1 (.slice (some ⟨gb, 0, none⟩) n cb) n Bs) (Both (WrT k sb ef (closeP S x).2.1) (Both (StoreT sb (closeP S x).1) (Both (RwT kr y') (Both (RefT rb (closeP S x).1) R)))))))) := h8.perm (by ac_rfl)
    have hst9 := ((CellT.stable kx (wldC sb rb (.slice (some ⟨ga, 0, none⟩) n ca) vr (.slice (some ⟨gb, 0, none⟩) n cb) vR) tWld).both ((RowG.stable tPW 1 (.slice (some ⟨ga, 0, none⟩) n ca) n As).both ((RowG.stable tPW6 1 (.slice (some ⟨gb, 0, none⟩) n cb) n Bs).both ((WrT.stable k sb ef (closeP S x).2.1).both ((StoreT.stable sb (closeP S x).1).both ((RwT.stable kr y').both ((RefT.stable rb (closeP S x).1).both hR)))))))
    clear m0 m1 n0 n1 fm fn lm ln cx3
    obtain ⟨y4, y2, y1, y3, y0⟩ := five_get h9
    obtain ⟨n0, n1, _, _, _⟩ := five_at y4
    have fn := thaw_at y4
    have ln := lt_of_heap y4
    have HE := Lib.hid (show At W _ (Both (FiveT s #[.int .i64 3, .int .i64 o2, .int .i64 o3, .slice av ss.length cv] noAn noAn (an6C ⟨(closeP S x).2.2.1, 0, [], false, []⟩ (.slice none 0 0)) (an6C ⟨(closeP S x).2.2.1, (closeP S x).2.2.2, [], false, []⟩ (.slice none 0 0))) (Both (CellT kx (wldC sb rb (.slice (some ⟨ga, 0, none⟩) n ca) vr (.slice (some ⟨gb, 0, none⟩) n cb) vR) tWld) (Both (RowG tPW 1 (.slice (some ⟨ga, 0, none⟩) n ca) n As) (Both (RowG tPW6 1 (.slice (some ⟨gb, 0, none⟩) n cb) n Bs) (Both (WrT k sb ef (closeP S x).2.1) (Both (StoreT sb (closeP S x).1) (Both (RwT kr y') (Both (RefT rb (closeP S x).1) R)))))))) from five_set4 (five_set4 h9 hst9 0 (.int .i64 (closeP S x).2.2.1)) hst9 1 (.int .i64 (closeP S x).2.2.2))
    have HY := Lib.hid hy'
    clear h8 h9 hy' y4 y2 y1 y3 y0 HRC
    (repeat' (first | (go_big_may; fail) | go_values | go_skip | go_guarded | go_step | go_upon | go_back | dsimp only))
    clear n0 n1 fn ln
    generalize World.setCell _ (⟨s + 1 + 1 + 1 + 1, 1, none⟩ : Addr) _ = we at *
    have HCO := Lib.hid (code6_calls ((fails12_11 hF).below HE.out.below) hok)
    have hstE := ((CellT.stable kx (wldC sb rb (.slice (some ⟨ga, 0, none⟩) n ca) vr (.slice (some ⟨gb, 0, none⟩) n cb) vR) tWld).both ((RowG.stable tPW 1 (.slice (some ⟨ga, 0, none⟩) n ca) n As).both ((RowG.stable tPW6 1 (.slice (some ⟨gb, 0, none⟩) n cb) n Bs).both ((WrT.stable k sb ef (closeP S x).2.1).both ((StoreT.stable sb (closeP S x).1).both ((RwT.stable kr y').both ((RefT.stable rb (closeP S x).1).both hR)))))))
    obtain ⟨y4, y2, y1, y3, y0⟩ := five_get HE.out
    obtain ⟨m0, m1, m2, m3, m4⟩ := five_at y3
    have fm := thaw_at y3
    have lm := lt_of_heap y3
    have HE2 := Lib.hid (five_set3 HE.out hstE 1 (.int .i64 ((closeP S x).2.2.2 : Nat)))
    clear y0 y1 y2 y3 y4
    (repeat' (first | (go_big_may; fail) | go_values | go_skip | go_guarded | go_step | go_upon | go_back | dsimp only))
    refine HCO.out.mono ?_
    rintro e w20 ⟨rfl, rfl⟩
    (repeat' (first | (go_big_may; fail) | go_values | go_skip | go_guarded | go_step | go_upon | go_back | dsimp only))
    clear m0 m1 m2 m3 m4 fm lm HCO HE
    generalize World.setCell _ (⟨s + 1 + 1 + 1, 1, none⟩ : Addr) _ = wf at *
    have he : At W wf (Both (FiveT s #[.int .i64 3, .int .i64 o2, .int .i64 o3, .slice av ss.length cv] noAn noAn (an6C ⟨(closeP S x).2.2.1, (closeP S x).2.2.2, [], false, []⟩ (.slice none 0 0)) (an6C ⟨(closeP S x).2.2.1, (closeP S x).2.2.2, [], false, []⟩ (.slice none 0 0))) (Both (CellT kx (wldC sb rb (.slice (some ⟨ga, 0, none⟩) n ca) vr (.slice (some ⟨gb, 0, none⟩) n cb) vR) tWld) (Both (RowG tPW 1 (.slice (some ⟨ga, 0, none⟩) n ca) n As) (Both (RowG tPW6 1 (.slice (some ⟨gb, 0, none⟩) n cb) n Bs) (Both (WrT k sb ef (closeP S x).2.1) (Both (StoreT sb (closeP S x).1) (Both (RwT kr y') (Both (RefT rb (closeP S x).1) R)))))))) := HE2.out
    clear HE2
    have HE := Lib.hid he
    obtain ⟨y4, y2, y1, y3, y0⟩ := five_get he
    obtain ⟨x0, x1, x2, x3, x4⟩ := five_at y3
    obtain ⟨v0, v1, v2, v3, v4⟩ := five_at y4
    obtain ⟨q0, q1, q2, q3, q4⟩ := five_at y1
    obtain ⟨r0, r1, r2, r3, r4⟩ := five_at y2
    have g4 := thaw_at y1
    have g5 := thaw_at y2
    have l4 := lt_of_heap y1; have l5 := lt_of_heap y2; have l6 := lt_of_heap y3; have l7 := lt_of_heap y4
    have Y1 := Lib.hid y1
    have Y2 := Lib.hid y2
    clear y0 y1 y2 y3 y4 he
    (repeat' (first | (go_big_may; fail) | go_values | go_skip | go_guarded | go_step | go_upon | go_back | dsimp only))
    go_region
    (repeat' (first | (go_big_may; fail) | go_values | go_skip | go_guarded | go_step | go_upon | go_back | dsimp only))
    (try simp only [Exit.inBlock, Exit.then])
    refine bodyPost_ret (results_cells2 rfl _ _ (s + 1) (s + 1 + 1) tAn6 tAn6 (an6C ⟨(closeP S x).2.2.1, (closeP S x).2.2.2, [], false, []⟩ (.slice none 0 0)) (an6C ⟨(closeP S x).2.2.1, (closeP S x).2.2.2, [], false, []⟩ (.slice none 0 0)) (0, 0) (0, 0) _ rfl rfl ?_ ?_ Tryd.underlying59 rfl (by kernel_rfl) (by kernel_rfl)) rfl ?_
    · rw [heap_drew]; simp [World.setCell, Array.getElem?_modify, Y1.out]
    · rw [heap_drew]; simp [World.setCell, Array.getElem?_modify, Y2.out]
    · refine ⟨rfl, ?_⟩
      refine ⟨y', p3.trans HY.out, ?_⟩
      exact HE.out.loseU [s + 1, s + 1 + 1, s + 1 + 1 + 1 + 1] ((CellT.stable kx (wldC sb rb (.slice (some ⟨ga, 0, none⟩) n ca) vr (.slice (some ⟨gb, 0, none⟩) n cb) vR) tWld).both ((RowG.stable tPW 1 (.slice (some ⟨ga, 0, none⟩) n ca) n As).both ((RowG.stable tPW6 1 (.slice (some ⟨gb, 0, none⟩) n cb) n Bs).both ((WrT.stable k sb ef (closeP S x).2.1).both ((StoreT.stable sb (closeP S x).1).both ((RwT.stable kr y').both ((RefT.stable rb (closeP S x).1).both hR))))))) (fun fp h => cellsT_mem h) (by repeat' (first | with_reducible exact Upd.refl _ _ | (with_reducible refine Upd.drew ?_) | (with_reducible refine Upd.setCell ?_ (.inl (by simp)) _)))
theorem okC_one : okC 1 := .inr ⟨0, by decide⟩
set_option maxRecDepth 100000 in
set_option maxHeartbeats 3200000 in
theorem writer_drop {k kr : Nat} {x y : WrD} (hΦe : Φ = Both (WrT k sb ef x) (Both (StoreT sb S) (Both (RwT kr y) (Both (RefT rb S) R)))) (h : At W w (Both (CellT kx (wldC sb rb vw vr vW vR) tWld) (Both (RowG tPW 1 vw n As) (Both (RowG tPW6 1 vW n Bs) Φ)))) (hR : Stable R) (hF : Fails W ef fails12) (hG : GoodS S) (hw : WOk S x y) {o2 o3 : Int} (hn : 0 < n) (hi : place6N o2 n = i) (hil : i < n)
    (ha : As[i]? = some (.pointer (some ⟨k, 0, none⟩))) (hb : Bs[i]? = some (.pointer (some ⟨kr, 0, none⟩))) (hv : RdRow W v ss.length 1 (strs ss)) (hmade : S.made ≤ 16777216) (p1 : (dropP S y).1 = (dropP S x).1) :
    Calls Tryd.prog 34 #[.pointer (some ⟨kx, 0, none⟩), .agg #[.int .i64 4, .int .i64 o2, .int .i64 o3, v]] w fun e w' => e = .returned (.tuple #[an6V ⟨0, 0, [], false, []⟩ (.slice none 0 0), an6V ⟨0, 0, [], false, []⟩ (.slice none 0 0)]) ∧
      At W w' (Both (CellT kx (wldC sb rb vw vr vW vR) tWld) (Both (RowG tPW 1 vw n As) (Both (RowG tPW6 1 vW n Bs) (Both (WrT k sb ef (dropP S x).2) (Both (StoreT sb (dropP S x).1) (Both (RwT kr (dropP S y).2) (Both (RefT rb (dropP S x).1) R))))))) := by
  have hΦ : Stable Φ := by rw [hΦe]; exact (WrT.stable _ _ _ _).both ((StoreT.stable _ _).both ((RwT.stable _ _).both ((RefT.stable _ _).both hR)))
  obtain ⟨av, cv, rfl, _, _⟩ := hv.shape
  have hrx : inI64 (x.run : Int) := by have := hw.made; unfold inI64; omega
  have hry : inI64 (y.run : Int) := by rw [hw.sim.run]; exact hrx
  have hRA := (RowG.stable tPW 1 vw n As).both ((RowG.stable tPW6 1 vW n Bs).both hΦ)
  have hst0 := (CellT.stable kx (wldC sb rb vw vr vW vR) tWld).both hRA
  have h5 : At W _ (Both (FiveT w.heap.size #[.int .i64 4, .int .i64 o2, .int .i64 o3, .slice av ss.length cv] noAn noAn noAn noAn) (Both (CellT kx (wldC sb rb vw vr vW vR) tWld) (Both (RowG tPW 1 vw n As) (Both (RowG tPW6 1 vW n Bs) Φ)))) := (h.five6 hst0 #[.int .i64 4, .int .i64 o2, .int .i64 o3, .slice av ss.length cv]).perm (by unfold FiveT; ac_rfl)
  have hln := own_shape h.drop.rowG
  obtain ⟨ga, ca, hva, _, _, _⟩ := own_cut h.drop.rowG hn
  obtain ⟨gb, cb, hvb, _, _, hcb⟩ := own_cut h.drop.drop.rowG hn
  subst hva hvb
  unfold maxLen at hcb
  have hkx := lt_of_heap h.cell.1
  clear hln h
  have hnc : n ≤ 9223372036854775807 := by omega
  have H5 := Lib.hid h5
  clear h5
  go_enter Tryd.func34, Tryd.ntmps34
  (repeat' (first | (go_big_may; fail) | go_values | go_skip | go_guarded | go_step | go_upon | go_back | dsimp only))
  generalize ((((w.alloc _).alloc _).alloc _).alloc _).alloc _ = w1 at *
  generalize w.heap.size = s at *
  obtain ⟨y4, y2, y1, y3, y0⟩ := five_get H5.out
  have b0 := cell_at y0 0; have b1 := cell_at y0 1; have b3 := cell_at y0 3
  have c1 := cell_at H5.out.drop.cell.1 1; have c4 := cell_at H5.out.drop.cell.1 4
  have lk := lt_of_heap H5.out.drop.cell.1; have ls := lt_of_heap y0
  have hst5 := (FiveT.stable s #[.int .i64 4, .int .i64 o2, .int .i64 o3, .slice av ss.length cv] noAn noAn noAn noAn).both hst0
  go_cut [8] (fun v8 wx => v8 = .int .i64 (i : Nat) ∧ At W wx (Both (FiveT s #[.int .i64 4, .int .i64 o2, .int .i64 o3, .slice av ss.length cv] noAn noAn noAn noAn) (Both (CellT kx (wldC sb rb (.slice (some ⟨ga, 0, none⟩) n ca) vr (.slice (some ⟨gb, 0, none⟩) n cb) vR) tWld) (Both (RowG tPW 1 (.slice (some ⟨ga, 0, none⟩) n ca) n As) (Both (RowG tPW6 1 (.slice (some ⟨gb, 0, none⟩) n cb) n Bs) Φ)))))
  case first =>
    refine wp_only ?_
    rename_i J K' hJ hK
    have HJ := Lib.hid hJ
    have HK := Lib.hid hK
    clear hJ hK
    have hcg := And.intro b1 c1
    have hpl := place6_calls w1.drew o2 n hnc
    rw [hi] at hpl
    go_region_held3 (fun wx => wx.cell? ⟨s, 1, none⟩ = some (.int .i64 o2) ∧ wx.cell? ⟨kx, 1, none⟩ = some (.slice (some ⟨ga, 0, none⟩) n ca)) (first | assumption | go_keep) (first
      | (go_at_call 36; refine hpl.mono ?_; rintro e w8 ⟨rfl, rfl⟩))
    all_goals
      refine HK.out _ _ ?_
      have hJ := HJ.out
      go_meet
      case rel => exact ⟨rfl, H5.out.drew hst5⟩
  case rest =>
    obtain ⟨e8, h8⟩ := hcut
    subst e8
    have H8 := Lib.hid h8
    clear h8 H5 y0 y1 y2 y3 y4 b0 b1 b3 c1 c4 lk ls
    obtain ⟨y4, y2, y1, y3, y0⟩ := five_get H8.out
    have b0 := cell_at y0 0; have b3 := cell_at y0 3
    have c1 := cell_at H8.out.drop.cell.1 1; have c4 := cell_at H8.out.drop.cell.1 4
    have ra := (H8.out.drop.drop.rowCell ha).1
    have rb2 := (H8.out.drop.drop.drop.rowCell hb).1
    have hi0 : (0 : Int) ≤ i := by omega
    have hi1 : (i : Int) < n := by omega
    have hi2 : ¬ (i : Int) < 0 := by omega
    clear y0 y1 y2 y3 y4
    (repeat' (first | (go_big_may; fail) | go_values | go_skip | go_guarded | go_step | go_upon | go_back | dsimp only))
    go_quiet (fail)
    have HP := Lib.hid (H8.out.mono hst5 (below_dW _ nq))
    clear H8 c1 c4 ra rb2 b0 b3
    obtain ⟨y4, y2, y1, y3, y0⟩ := five_get HP.out
    have b0 := cell_at y0 0; have b3 := cell_at y0 3
    have c3 := cell_at HP.out.drop.cell.1 3
    generalize World.drewN _ nq = wq at *
    (repeat' (first | (go_big_may; fail) | go_values | go_skip | go_guarded | go_step | go_upon | go_back | dsimp only))
    have hP := HP.out
    rw [hΦe] at hP
    have h3 : At W wq (Both (WrT k sb ef x) (Both (StoreT sb S) (Both (FiveT s #[.int .i64 4, .int .i64 o2, .int .i64 o3, .slice av ss.length cv] noAn noAn noAn noAn) (Both (CellT kx (wldC sb rb (.slice (some ⟨ga, 0, none⟩) n ca) vr (.slice (some ⟨gb, 0, none⟩) n cb) vR) tWld) (Both (RowG tPW 1 (.slice (some ⟨ga, 0, none⟩) n ca) n As) (Both (RowG tPW6 1 (.slice (some ⟨gb, 0, none⟩) n cb) n Bs) (Both (RwT kr y) (Both (RefT rb S) R)))))))) := hP.perm (by ac_rfl)
    have hR3 := (FiveT.stable s #[.int .i64 4, .int .i64 o2, .int .i64 o3, .slice av ss.length cv] noAn noAn noAn noAn).both ((CellT.stable kx (wldC sb rb (.slice (some ⟨ga, 0, none⟩) n ca) vr (.slice (some ⟨gb, 0, none⟩) n cb) vR) tWld).both ((RowG.stable tPW 1 (.slice (some ⟨ga, 0, none⟩) n ca) n As).both ((RowG.stable tPW6 1 (.slice (some ⟨gb, 0, none⟩) n cb) n Bs).both ((RwT.stable kr y).both ((RefT.stable rb S).both hR)))))
    have HCL := Lib.hid (Drop_at h3 hR3 (fails12_11 hF) hG.le hrx hw.code)
    clear hP h3 HP b0 b3 c3 y4 y2 y1 y3 y0
    refine HCL.out.mono ?_
    rintro e w3 ⟨rfl, h4⟩
    clear HCL
    have h7 : At W w3 (Both (RwT kr y) (Both (RefT rb S) (Both (FiveT s #[.int .i64 4, .int .i64 o2, .int .i64 o3, .slice av ss.length cv] noAn noAn noAn noAn) (Both (CellT kx (wldC sb rb (.slice (some ⟨ga, 0, none⟩) n ca) vr (.slice (some ⟨gb, 0, none⟩) n cb) vR) tWld) (Both (RowG tPW 1 (.slice (some ⟨ga, 0, none⟩) n ca) n As) (Both (RowG tPW6 1 (.slice (some ⟨gb, 0, none⟩) n cb) n Bs) (Both (WrT k sb ef (dropP S x).2) (Both (StoreT sb (dropP S x).1) R)))))))) := h4.perm (by ac_rfl)
    have hrc := rDrop_at h7 ((FiveT.stable s #[.int .i64 4, .int .i64 o2, .int .i64 o3, .slice av ss.length cv] noAn noAn noAn noAn).both ((CellT.stable kx (wldC sb rb (.slice (some ⟨ga, 0, none⟩) n ca) vr (.slice (some ⟨gb, 0, none⟩) n cb) vR) tWld).both ((RowG.stable tPW 1 (.slice (some ⟨ga, 0, none⟩) n ca) n As).both ((RowG.stable tPW6 1 (.slice (some ⟨gb, 0, none⟩) n cb) n Bs).both ((WrT.stable k sb ef (dropP S x).2).both ((StoreT.stable sb (dropP S x).1).both hR)))))) hG hry
    rw [p1] at hrc
    have cx3 := cell_at h7.drop.drop.drop.cell.1 3
    have HRC := Lib.hid hrc
    clear hrc h4 h7
    (repeat' (first | (go_big_may; fail) | go_values | go_skip | go_guarded | go_step | go_upon | go_back | dsimp only))
    refine HRC.out.mono ?_
    rintro e w9 ⟨rfl, h8⟩
    have h9 : At W w9 (Both (FiveT s #[.int .i64 4, .int .i64 o2, .int .i64 o3, .slice av ss.length cv] noAn noAn noAn noAn) (Both (CellT kx (wldC sb rb (.slice (some ⟨ga, 0, none⟩) n ca) vr (.slice (some ⟨gb, 0, none⟩) n cb) vR) tWld) (Both (RowG tPW 1 (.slice (some ⟨ga, 0, none⟩) n ca) n As) (Both (RowG tPW6 1 (.slice (some ⟨gb, 0, none⟩) n cb) n Bs) (Both (WrT k sb ef (dropP S x).2) (Both (StoreT sb (dropP S x).1) (Both (RwT kr (dropP S y).2) (Both (RefT rb (dropP S x).1) R)))))))) := h8.perm (by ac_rfl)
    have HE := Lib.hid h9
    clear h8 h9 HRC cx3
    (repeat' (first | (go_big_may; fail) | go_values | go_skip | go_guarded | go_step | go_upon | go_back | dsimp only))
    have HCO := Lib.hid (code6_calls ((fails12_11 hF).below HE.out.below) (c := 0) (.inl rfl))
    have hstE := ((CellT.stable kx (wldC sb rb (.slice (some ⟨ga, 0, none⟩) n ca) vr (.slice (some ⟨gb, 0, none⟩) n cb) vR) tWld).both ((RowG.stable tPW 1 (.slice (some ⟨ga, 0, none⟩) n ca) n As).both ((RowG.stable tPW6 1 (.slice (some ⟨gb, 0, none⟩) n cb) n Bs).both ((WrT.stable k sb ef (dropP S x).2).both ((StoreT.stable sb (dropP S x).1).both ((RwT.stable kr (dropP S y).2).both ((RefT.stable rb (dropP S x).1).both hR)))))))
    obtain ⟨y4, y2, y1, y3, y0⟩ := five_get HE.out
    obtain ⟨m0, m1, m2, m3, m4⟩ := five_at y3
    have fm := thaw_at y3
    have lm := lt_of_heap y3
    have HE2 := Lib.hid (five_set3 HE.out hstE 1 (.int .i64 (0 : Nat)))
    clear y0 y1 y2 y3 y4
    (repeat' (first | (go_big_may; fail) | go_values | go_skip | go_guarded | go_step | go_upon | go_back | dsimp only))
    refine HCO.out.mono ?_
    rintro e w20 ⟨rfl, rfl⟩
    (repeat' (first | (go_big_may; fail) | go_values | go_skip | go_guarded | go_step | go_upon | go_back | dsimp only))
    clear m0 m1 m2 m3 m4 fm lm HCO HE
    generalize World.setCell _ (⟨s + 1 + 1 + 1, 1, none⟩ : Addr) _ = wf at *
    have he : At W wf (Both (FiveT s #[.int .i64 4, .int .i64 o2, .int .i64 o3, .slice av ss.length cv] noAn noAn (an6C ⟨0, 0, [], false, []⟩ (.slice none 0 0)) (an6C ⟨0, 0, [], false, []⟩ (.slice none 0 0))) (Both (CellT kx (wldC sb rb (.slice (some ⟨ga, 0, none⟩) n ca) vr (.slice (some ⟨gb, 0, none⟩) n cb) vR) tWld) (Both (RowG tPW 1 (.slice (some ⟨ga, 0, none⟩) n ca) n As) (Both (RowG tPW6 1 (.slice (some ⟨gb, 0, none⟩) n cb) n Bs) (Both (WrT k sb ef (dropP S x).2) (Both (StoreT sb (dropP S x).1) (Both (RwT kr (dropP S y).2) (Both (RefT rb (dropP S x).1) R)))))))) := HE2.out
    clear HE2
    have HE := Lib.hid he
    obtain ⟨y4, y2, y1, y3, y0⟩ := five_get he
    obtain ⟨x0, x1, x2, x3, x4⟩ := five_at y3
    obtain ⟨v0, v1, v2, v3, v4⟩ := five_at y4
    obtain ⟨q0, q1, q2, q3, q4⟩ := five_at y1
    obtain ⟨r0, r1, r2, r3, r4⟩ := five_at y2
    have g4 := thaw_at y1
    have g5 := thaw_at y2
    have l4 := lt_of_heap y1; have l5 := lt_of_heap y2; have l6 := lt_of_heap y3; have l7 := lt_of_heap y4
    have Y1 := Lib.hid y1
    have Y2 := Lib.hid y2
    clear y0 y1 y2 y3 y4 he
    (repeat' (first | (go_big_may; fail) | go_values | go_skip | go_guarded | go_step | go_upon | go_back | dsimp only))
    go_region
    (repeat' (first | (go_big_may; fail) | go_values | go_skip | go_guarded | go_step | go_upon | go_back | dsimp only))
    (try simp only [Exit.inBlock, Exit.then])
    refine bodyPost_ret (results_cells2 rfl _ _ (s + 1) (s + 1 + 1) tAn6 tAn6 (an6C ⟨0, 0, [], false, []⟩ (.slice none 0 0)) (an6C ⟨0, 0, [], false, []⟩ (.slice none 0 0)) (0, 0) (0, 0) _ rfl rfl ?_ ?_ Tryd.underlying59 rfl (by kernel_rfl) (by kernel_rfl)) rfl ?_
    · rw [heap_drew]; simp [World.setCell, Array.getElem?_modify, Y1.out]
    · rw [heap_drew]; simp [World.setCell, Array.getElem?_modify, Y2.out]
    · refine ⟨rfl, ?_⟩
      refine ?_
      exact HE.out.loseU [s + 1, s + 1 + 1, s + 1 + 1 + 1 + 1] ((CellT.stable kx (wldC sb rb (.slice (some ⟨ga, 0, none⟩) n ca) vr (.slice (some ⟨gb, 0, none⟩) n cb) vR) tWld).both ((RowG.stable tPW 1 (.slice (some ⟨ga, 0, none⟩) n ca) n As).both ((RowG.stable tPW6 1 (.slice (some ⟨gb, 0, none⟩) n cb) n Bs).both ((WrT.stable k sb ef (dropP S x).2).both ((StoreT.stable sb (dropP S x).1).both ((RwT.stable kr (dropP S y).2).both ((RefT.stable rb (dropP S x).1).both hR))))))) (fun fp h => cellsT_mem h) (by repeat' (first | with_reducible exact Upd.refl _ _ | (with_reducible refine Upd.drew ?_) | (with_reducible refine Upd.setCell ?_ (.inl (by simp)) _)))
set_option maxRecDepth 100000 in
set_option maxHeartbeats 3200000 in
theorem writer_put_nil (hΦ : Stable Φ) (h : At W w (Both (CellT kx (wldC sb rb vw vr vW vR) tWld) (Both (RowG tPW 1 vw n As) (Both (RowG tPW6 1 vW n Bs) Φ)))) (hF : Fails W ef fails12) {o2 o3 : Int} (hn : 0 < n) (hi : place6N o2 n = i) (hil : i < n)
    (ha : As[i]? = some (.pointer none)) (hb : Bs[i]? = some (.pointer none)) (hv : RdRow W v ss.length 1 (strs ss)) (hlen : ss.length ≤ 1048576) :
    Calls Tryd.prog 34 #[.pointer (some ⟨kx, 0, none⟩), .agg #[.int .i64 2, .int .i64 o2, .int .i64 o3, v]] w fun e w' => e = .returned (.tuple #[an6V ⟨0, 1, [], false, []⟩ (.slice none 0 0), an6V ⟨0, 1, [], false, []⟩ (.slice none 0 0)]) ∧
      At W w' (Both (CellT kx (wldC sb rb vw vr vW vR) tWld) (Both (RowG tPW 1 vw n As) (Both (RowG tPW6 1 vW n Bs) Φ))) := by
  obtain ⟨av, cv, rfl, _, _⟩ := hv.shape
  have hRA := (RowG.stable tPW 1 vw n As).both ((RowG.stable tPW6 1 vW n Bs).both hΦ)
  have hst0 := (CellT.stable kx (wldC sb rb vw vr vW vR) tWld).both hRA
  have h5 : At W _ (Both (FiveT w.heap.size #[.int .i64 2, .int .i64 o2, .int .i64 o3, .slice av ss.length cv] noAn noAn noAn noAn) (Both (CellT kx (wldC sb rb vw vr vW vR) tWld) (Both (RowG tPW 1 vw n As) (Both (RowG tPW6 1 vW n Bs) Φ)))) := (h.five6 hst0 #[.int .i64 2, .int .i64 o2, .int .i64 o3, .slice av ss.length cv]).perm (by unfold FiveT; ac_rfl)
  have hln := own_shape h.drop.rowG
  obtain ⟨ga, ca, hva, _, _, _⟩ := own_cut h.drop.rowG hn
  obtain ⟨gb, cb, hvb, _, _, hcb⟩ := own_cut h.drop.drop.rowG hn
  subst hva hvb
  unfold maxLen at hcb
  have hkx := lt_of_heap h.cell.1
  clear hln h
  have hnc : n ≤ 9223372036854775807 := by omega
  have H5 := Lib.hid h5
  clear h5
  go_enter Tryd.func34, Tryd.ntmps34
  (repeat' (first | (go_big_may; fail) | go_values | go_skip | go_guarded | go_step | go_upon | go_back | dsimp only))
  generalize ((((w.alloc _).alloc _).alloc _).alloc _).alloc _ = w1 at *
  generalize w.heap.size = s at *
  obtain ⟨y4, y2, y1, y3, y0⟩ := five_get H5.out
  have b0 := cell_at y0 0; have b1 := cell_at y0 1; have b3 := cell_at y0 3
  have c1 := cell_at H5.out.drop.cell.1 1; have c4 := cell_at H5.out.drop.cell.1 4
  have lk := lt_of_heap H5.out.drop.cell.1; have ls := lt_of_heap y0
  have hst5 := (FiveT.stable s #[.int .i64 2, .int .i64 o2, .int .i64 o3, .slice av ss.length cv] noAn noAn noAn noAn).both hst0
  go_cut [8] (fun v8 wx => v8 = .int .i64 (i : Nat) ∧ At W wx (Both (FiveT s #[.int .i64 2, .int .i64 o2, .int .i64 o3, .slice av ss.length cv] noAn noAn noAn noAn) (Both (CellT kx (wldC sb rb (.slice (some ⟨ga, 0, none⟩) n ca) vr (.slice (some ⟨gb, 0, none⟩) n cb) vR) tWld) (Both (RowG tPW 1 (.slice (some ⟨ga, 0, none⟩) n ca) n As) (Both (RowG tPW6 1 (.slice (some ⟨gb, 0, none⟩) n cb) n Bs) Φ)))))
  case first =>
    refine wp_only ?_
    rename_i J K' hJ hK
    have HJ := Lib.hid hJ
    have HK := Lib.hid hK
    clear hJ hK
    have hcg := And.intro b1 c1
    have hpl := place6_calls w1.drew o2 n hnc
    rw [hi] at hpl
    go_region_held3 (fun wx => wx.cell? ⟨s, 1, none⟩ = some (.int .i64 o2) ∧ wx.cell? ⟨kx, 1, none⟩ = some (.slice (some ⟨ga, 0, none⟩) n ca)) (first | assumption | go_keep) (first
      | (go_at_call 36; refine hpl.mono ?_; rintro e w8 ⟨rfl, rfl⟩))
    all_goals
      refine HK.out _ _ ?_
      have hJ := HJ.out
      go_meet
      case rel => exact ⟨rfl, H5.out.drew hst5⟩
  case rest =>
    obtain ⟨e8, h8⟩ := hcut
    subst e8
    have H8 := Lib.hid h8
    clear h8 H5 y0 y1 y2 y3 y4 b0 b1 b3 c1 c4 lk ls
    obtain ⟨y4, y2, y1, y3, y0⟩ := five_get H8.out
    have b0 := cell_at y0 0; have b3 := cell_at y0 3
    have c1 := cell_at H8.out.drop.cell.1 1; have c4 := cell_at H8.out.drop.cell.1 4
    have ra := (H8.out.drop.drop.rowCell ha).1
    have rb2 := (H8.out.drop.drop.drop.rowCell hb).1
    have hi0 : (0 : Int) ≤ i := by omega
    have hi1 : (i : Int) < n := by omega
    have hi2 : ¬ (i : Int) < 0 := by omega
    clear y0 y1 y2 y3 y4
    (repeat' (first | (go_big_may; fail) | go_values | go_skip | go_guarded | go_step | go_upon | go_back | dsimp only))
    go_quiet (fail)
    have HP := Lib.hid (H8.out.mono hst5 (below_dW _ nq))
    clear H8 c1 c4 ra rb2 b0 b3
    obtain ⟨y4, y2, y1, y3, y0⟩ := five_get HP.out
    have b0 := cell_at y0 0; have b3 := cell_at y0 3
    have c3 := cell_at HP.out.drop.cell.1 3
    generalize World.drewN _ nq = wq at *
    (repeat' (first | (go_big_may; fail) | go_values | go_skip | go_guarded | go_step | go_upon | go_back | dsimp only))
    have HTW := Lib.hid (twin_calls ss (.slice av ss.length cv) wq (hv.below HP.out.below) (by omega))
    refine HTW.out.mono ?_
    rintro e w2 ⟨v2, rfl, ho2, hb2⟩
    have hst2 := (FiveT.stable s #[.int .i64 2, .int .i64 o2, .int .i64 o3, .slice av ss.length cv] noAn noAn noAn noAn).both hst0
    have h2 := HP.out.mono hst2 hb2
    have HPU := Lib.hid (Put_nil ((fails12_11 hF).below h2.below) v2)
    have H2 := Lib.hid h2
    clear h2 HTW HP b0 b3 c3 y4 y2 y1 y3 y0 ho2 hb2
    (repeat' (first | (go_big_may; fail) | go_values | go_skip | go_guarded | go_step | go_upon | go_back | dsimp only))
    refine HPU.out.mono ?_
    rintro e w3 ⟨rfl, rfl⟩
    obtain ⟨y4, y2, y1, y3, y0⟩ := five_get H2.out
    obtain ⟨n0, n1, _, _, _⟩ := five_at y4
    have fn := thaw_at y4
    have ln := lt_of_heap y4
    have HE := Lib.hid (show At W _ (Both (FiveT s #[.int .i64 2, .int .i64 o2, .int .i64 o3, .slice av ss.length cv] noAn noAn noAn (an6C ⟨0, 1, [], false, []⟩ (.slice none 0 0))) (Both (CellT kx (wldC sb rb (.slice (some ⟨ga, 0, none⟩) n ca) vr (.slice (some ⟨gb, 0, none⟩) n cb) vR) tWld) (Both (RowG tPW 1 (.slice (some ⟨ga, 0, none⟩) n ca) n As) (Both (RowG tPW6 1 (.slice (some ⟨gb, 0, none⟩) n cb) n Bs) Φ)))) from five_set4 H2.out hst0 1 (.int .i64 1))
    clear y4 y2 y1 y3 y0 HPU
    (repeat' (first | (go_big_may; fail) | go_values | go_skip | go_guarded | go_step | go_upon | go_back | dsimp only))
    clear n0 n1 fn ln
    generalize World.setCell _ (⟨s + 1 + 1 + 1 + 1, 1, none⟩ : Addr) _ = we at *
    have hco := code6_calls ((fails12_11 hF).below HE.out.below) (c := 1) okC_one
    rw [errV_pos ef (by decide)] at hco
    have HCO := Lib.hid hco
    clear hco
    have hstE := hst0
    obtain ⟨y4, y2, y1, y3, y0⟩ := five_get HE.out
    obtain ⟨m0, m1, m2, m3, m4⟩ := five_at y3
    have fm := thaw_at y3
    have lm := lt_of_heap y3
    have HE2 := Lib.hid (five_set3 HE.out hstE 1 (.int .i64 (1 : Nat)))
    clear y0 y1 y2 y3 y4
    (repeat' (first | (go_big_may; fail) | go_values | go_skip | go_guarded | go_step | go_upon | go_back | dsimp only))
    refine HCO.out.mono ?_
    rintro e w20 ⟨rfl, rfl⟩
    (repeat' (first | (go_big_may; fail) | go_values | go_skip | go_guarded | go_step | go_upon | go_back | dsimp only))
    clear m0 m1 m2 m3 m4 fm lm HCO HE
    generalize World.setCell _ (⟨s + 1 + 1 + 1, 1, none⟩ : Addr) _ = wf at *
    have he : At W wf (Both (FiveT s #[.int .i64 2, .int .i64 o2, .int .i64 o3, .slice av ss.length cv] noAn noAn (an6C ⟨0, 1, [], false, []⟩ (.slice none 0 0)) (an6C ⟨0, 1, [], false, []⟩ (.slice none 0 0))) (Both (CellT kx (wldC sb rb (.slice (some ⟨ga, 0, none⟩) n ca) vr (.slice (some ⟨gb, 0, none⟩) n cb) vR) tWld) (Both (RowG tPW 1 (.slice (some ⟨ga, 0, none⟩) n ca) n As) (Both (RowG tPW6 1 (.slice (some ⟨gb, 0, none⟩) n cb) n Bs) Φ)))) := HE2.out
    clear HE2
    have HE := Lib.hid he
    obtain ⟨y4, y2, y1, y3, y0⟩ := five_get he
    obtain ⟨x0, x1, x2, x3, x4⟩ := five_at y3
    obtain ⟨v0, v1, v2, v3, v4⟩ := five_at y4
    obtain ⟨q0, q1, q2, q3, q4⟩ := five_at y1
    obtain ⟨r0, r1, r2, r3, r4⟩ := five_at y2
    have g4 := thaw_at y1
    have g5 := thaw_at y2
    have l4 := lt_of_heap y1; have l5 := lt_of_heap y2; have l6 := lt_of_heap y3; have l7 := lt_of_heap y4
    have Y1 := Lib.hid y1
    have Y2 := Lib.hid y2
    clear y0 y1 y2 y3 y4 he
    (repeat' (first | (go_big_may; fail) | go_values | go_skip | go_guarded | go_step | go_upon | go_back | dsimp only))
    go_region
    (repeat' (first | (go_big_may; fail) | go_values | go_skip | go_guarded | go_step | go_upon | go_back | dsimp only))
    (try simp only [Exit.inBlock, Exit.then])
    refine bodyPost_ret (results_cells2 rfl _ _ (s + 1) (s + 1 + 1) tAn6 tAn6 (an6C ⟨0, 1, [], false, []⟩ (.slice none 0 0)) (an6C ⟨0, 1, [], false, []⟩ (.slice none 0 0)) (0, 0) (0, 0) _ rfl rfl ?_ ?_ Tryd.underlying59 rfl (by kernel_rfl) (by kernel_rfl)) rfl ?_
    · rw [heap_drew]; simp [World.setCell, Array.getElem?_modify, Y1.out]
    · rw [heap_drew]; simp [World.setCell, Array.getElem?_modify, Y2.out]
    · refine ⟨rfl, ?_⟩
      refine ?_
      exact HE.out.loseU [s + 1, s + 1 + 1, s + 1 + 1 + 1 + 1] hst0 (fun fp h => cellsT_mem h) (by repeat' (first | with_reducible exact Upd.refl _ _ | (with_reducible refine Upd.drew ?_) | (with_reducible refine Upd.setCell ?_ (.inl (by simp)) _)))
set_option maxRecDepth 100000 in
set_option maxHeartbeats 3200000 in
theorem writer_close_nil (hΦ : Stable Φ) (h : At W w (Both (CellT kx (wldC sb rb vw vr vW vR) tWld) (Both (RowG tPW 1 vw n As) (Both (RowG tPW6 1 vW n Bs) Φ)))) (hF : Fails W ef fails12) {o2 o3 : Int} (hn : 0 < n) (hi : place6N o2 n = i) (hil : i < n)
    (ha : As[i]? = some (.pointer none)) (hb : Bs[i]? = some (.pointer none)) (hv : RdRow W v ss.length 1 (strs ss)) (hlen : ss.length ≤ 1048576) :
    Calls Tryd.prog 34 #[.pointer (some ⟨kx, 0, none⟩), .agg #[.int .i64 3, .int .i64 o2, .int .i64 o3, v]] w fun e w' => e = .returned (.tuple #[an6V ⟨0, 1, [], false, []⟩ (.slice none 0 0), an6V ⟨0, 1, [], false, []⟩ (.slice none 0 0)]) ∧
      At W w' (Both (CellT kx (wldC sb rb vw vr vW vR) tWld) (Both (RowG tPW 1 vw n As) (Both (RowG tPW6 1 vW n Bs) Φ))) := by
  obtain ⟨av, cv, rfl, _, _⟩ := hv.shape
  have hRA := (RowG.stable tPW 1 vw n As).both ((RowG.stable tPW6 1 vW n Bs).both hΦ)
  have hst0 := (CellT.stable kx (wldC sb rb vw vr vW vR) tWld).both hRA
  have h5 : At W _ (Both (FiveT w.heap.size #[.int .i64 3, .int .i64 o2, .int .i64 o3, .slice av ss.length cv] noAn noAn noAn noAn) (Both (CellT kx (wldC sb rb vw vr vW vR) tWld) (Both (RowG tPW 1 vw n As) (Both (RowG tPW6 1 vW n Bs) Φ)))) := (h.five6 hst0 #[.int .i64 3, .int .i64 o2, .int .i64 o3, .slice av ss.length cv]).perm (by unfold FiveT; ac_rfl)
  have hln := own_shape h.drop.rowG
  obtain ⟨ga, ca, hva, _, _, _⟩ := own_cut h.drop.rowG hn
  obtain ⟨gb, cb, hvb, _, _, hcb⟩ := own_cut h.drop.drop.rowG hn
  subst hva hvb
  unfold maxLen at hcb
  have hkx := lt_of_heap h.cell.1
  clear hln h
  have hnc : n ≤ 9223372036854775807 := by omega
  have H5 := Lib.hid h5
  clear h5
  go_enter Tryd.func34, Tryd.ntmps34
  (repeat' (first | (go_big_may; fail) | go_values | go_skip | go_guarded | go_step | go_upon | go_back | dsimp only))
  generalize ((((w.alloc _).alloc _).alloc _).alloc _).alloc _ = w1 at *
  generalize w.heap.size = s at *
  obtain ⟨y4, y2, y1, y3, y0⟩ := five_get H5.out
  have b0 := cell_at y0 0; have b1 := cell_at y0 1; have b3 := cell_at y0 3
  have c1 := cell_at H5.out.drop.cell.1 1; have c4 := cell_at H5.out.drop.cell.1 4
  have lk := lt_of_heap H5.out.drop.cell.1; have ls := lt_of_heap y0
  have hst5 := (FiveT.stable s #[.int .i64 3, .int .i64 o2, .int .i64 o3, .slice av ss.length cv] noAn noAn noAn noAn).both hst0
  go_cut [8] (fun v8 wx => v8 = .int .i64 (i : Nat) ∧ At W wx (Both (FiveT s #[.int .i64 3, .int .i64 o2, .int .i64 o3, .slice av ss.length cv] noAn noAn noAn noAn) (Both (CellT kx (wldC sb rb (.slice (some ⟨ga, 0, none⟩) n ca) vr (.slice (some ⟨gb, 0, none⟩) n cb) vR) tWld) (Both (RowG tPW 1 (.slice (some ⟨ga, 0, none⟩) n ca) n As) (Both (RowG tPW6 1 (.slice (some ⟨gb, 0, none⟩) n cb) n Bs) Φ)))))
  case first =>
    refine wp_only ?_
    rename_i J K' hJ hK
    have HJ := Lib.hid hJ
    have HK := Lib.hid hK
    clear hJ hK
    have hcg := And.intro b1 c1
    have hpl := place6_calls w1.drew o2 n hnc
    rw [hi] at hpl
    go_region_held3 (fun wx => wx.cell? ⟨s, 1, none⟩ = some (.int .i64 o2) ∧ wx.cell? ⟨kx, 1, none⟩ = some (.slice (some ⟨ga, 0, none⟩) n ca)) (first | assumption | go_keep) (first
      | (go_at_call 36; refine hpl.mono ?_; rintro e w8 ⟨rfl, rfl⟩))
    all_goals
      refine HK.out _ _ ?_
      have hJ := HJ.out
      go_meet
      case rel => exact ⟨rfl, H5.out.drew hst5⟩
  case rest =>
    obtain ⟨e8, h8⟩ := hcut
    subst e8
    have H8 := Lib.hid h8
    clear h8 H5 y0 y1 y2 y3 y4 b0 b1 b3 c1 c4 lk ls
    obtain ⟨y4, y2, y1, y3, y0⟩ := five_get H8.out
    have b0 := cell_at y0 0; have b3 := cell_at y0 3
    have c1 := cell_at H8.out.drop.cell.1 1; have c4 := cell_at H8.out.drop.cell.1 4
    have ra := (H8.out.drop.drop.rowCell ha).1
    have rb2 := (H8.out.drop.drop.drop.rowCell hb).1
    have hi0 : (0 : Int) ≤ i := by omega
    have hi1 : (i : Int) < n := by omega
    have hi2 : ¬ (i : Int) < 0 := by omega
    clear y0 y1 y2 y3 y4
    (repeat' (first | (go_big_may; fail) | go_values | go_skip | go_guarded | go_step | go_upon | go_back | dsimp only))
    go_quiet (fail)
    have HP := Lib.hid (H8.out.mono hst5 (below_dW _ nq))
    clear H8 c1 c4 ra rb2 b0 b3
    obtain ⟨y4, y2, y1, y3, y0⟩ := five_get HP.out
    have b0 := cell_at y0 0; have b3 := cell_at y0 3
    have c3 := cell_at HP.out.drop.cell.1 3
    generalize World.drewN _ nq = wq at *
    (repeat' (first | (go_big_may; fail) | go_values | go_skip | go_guarded | go_step | go_upon | go_back | dsimp only))
    have HPU := Lib.hid (Close_nil ((fails12_11 hF).below HP.out.below))
    clear b0 b3 c3 y4 y2 y1 y3 y0
    refine HPU.out.mono ?_
    rintro e w3 ⟨rfl, rfl⟩
    obtain ⟨y4, y2, y1, y3, y0⟩ := five_get HP.out
    obtain ⟨m0, m1, _, _, _⟩ := five_at y3
    obtain ⟨n0, n1, _, _, _⟩ := five_at y4
    have fm := thaw_at y3
    have lm := lt_of_heap y3
    have fn := thaw_at y4
    have ln := lt_of_heap y4
    have HE := Lib.hid (show At W _ (Both (FiveT s #[.int .i64 3, .int .i64 o2, .int .i64 o3, .slice av ss.length cv] noAn noAn noAn (an6C ⟨0, 1, [], false, []⟩ (.slice none 0 0))) (Both (CellT kx (wldC sb rb (.slice (some ⟨ga, 0, none⟩) n ca) vr (.slice (some ⟨gb, 0, none⟩) n cb) vR) tWld) (Both (RowG tPW 1 (.slice (some ⟨ga, 0, none⟩) n ca) n As) (Both (RowG tPW6 1 (.slice (some ⟨gb, 0, none⟩) n cb) n Bs) Φ)))) from five_set4 (five_set3 HP.out hst0 0 (.int .i64 0)) hst0 1 (.int .i64 1))
    clear y4 y2 y1 y3 y0 HPU
    (repeat' (first | (go_big_may; fail) | go_values | go_skip | go_guarded | go_step | go_upon | go_back | dsimp only))
    clear n0 n1 fn ln m0 m1 fm lm
    generalize World.setCell _ (⟨s + 1 + 1 + 1 + 1, 1, none⟩ : Addr) _ = we at *
    have hco := code6_calls ((fails12_11 hF).below HE.out.below) (c := 1) okC_one
    rw [errV_pos ef (by decide)] at hco
    have HCO := Lib.hid hco
    clear hco
    have hstE := hst0
    obtain ⟨y4, y2, y1, y3, y0⟩ := five_get HE.out
    obtain ⟨m0, m1, m2, m3, m4⟩ := five_at y3
    have fm := thaw_at y3
    have lm := lt_of_heap y3
    have HE2 := Lib.hid (five_set3 HE.out hstE 1 (.int .i64 (1 : Nat)))
    clear y0 y1 y2 y3 y4
    (repeat' (first | (go_big_may; fail) | go_values | go_skip | go_guarded | go_step | go_upon | go_back | dsimp only))
    refine HCO.out.mono ?_
    rintro e w20 ⟨rfl, rfl⟩
    (repeat' (first | (go_big_may; fail) | go_values | go_skip | go_guarded | go_step | go_upon | go_back | dsimp only))
    clear m0 m1 m2 m3 m4 fm lm HCO HE
    generalize World.setCell _ (⟨s + 1 + 1 + 1, 1, none⟩ : Addr) _ = wf at *
    have he : At W wf (Both (FiveT s #[.int .i64 3, .int .i64 o2, .int .i64 o3, .slice av ss.length cv] noAn noAn (an6C ⟨0, 1, [], false, []⟩ (.slice none 0 0)) (an6C ⟨0, 1, [], false, []⟩ (.slice none 0 0))) (Both (CellT kx (wldC sb rb (.slice (some ⟨ga, 0, none⟩) n ca) vr (.slice (some ⟨gb, 0, none⟩) n cb) vR) tWld) (Both (RowG tPW 1 (.slice (some ⟨ga, 0, none⟩) n ca) n As) (Both (RowG tPW6 1 (.slice (some ⟨gb, 0, none⟩) n cb) n Bs) Φ)))) := HE2.out
    clear HE2
    have HE := Lib.hid he
    obtain ⟨y4, y2, y1, y3, y0⟩ := five_get he
    obtain ⟨x0, x1, x2, x3, x4⟩ := five_at y3
    obtain ⟨v0, v1, v2, v3, v4⟩ := five_at y4
    obtain ⟨q0, q1, q2, q3, q4⟩ := five_at y1
    obtain ⟨r0, r1, r2, r3, r4⟩ := five_at y2
    have g4 := thaw_at y1
    have g5 := thaw_at y2
    have l4 := lt_of_heap y1; have l5 := lt_of_heap y2; have l6 := lt_of_heap y3; have l7 := lt_of_heap y4
    have Y1 := Lib.hid y1
    have Y2 := Lib.hid y2
    clear y0 y1 y2 y3 y4 he
    (repeat' (first | (go_big_may; fail) | go_values | go_skip | go_guarded | go_step | go_upon | go_back | dsimp only))
    go_region
    (repeat' (first | (go_big_may; fail) | go_values | go_skip | go_guarded | go_step | go_upon | go_back | dsimp only))
    (try simp only [Exit.inBlock, Exit.then])
    refine bodyPost_ret (results_cells2 rfl _ _ (s + 1) (s + 1 + 1) tAn6 tAn6 (an6C ⟨0, 1, [], false, []⟩ (.slice none 0 0)) (an6C ⟨0, 1, [], false, []⟩ (.slice none 0 0)) (0, 0) (0, 0) _ rfl rfl ?_ ?_ Tryd.underlying59 rfl (by kernel_rfl) (by kernel_rfl)) rfl ?_
    · rw [heap_drew]; simp [World.setCell, Array.getElem?_modify, Y1.out]
    · rw [heap_drew]; simp [World.setCell, Array.getElem?_modify, Y2.out]
    · refine ⟨rfl, ?_⟩
      refine ?_
      exact HE.out.loseU [s + 1, s + 1 + 1, s + 1 + 1 + 1 + 1] hst0 (fun fp h => cellsT_mem h) (by repeat' (first | with_reducible exact Upd.refl _ _ | (with_reducible refine Upd.drew ?_) | (with_reducible refine Upd.setCell ?_ (.inl (by simp)) _)))
set_option maxRecDepth 100000 in
set_option maxHeartbeats 3200000 in
theorem writer_drop_nil (hΦ : Stable Φ) (h : At W w (Both (CellT kx (wldC sb rb vw vr vW vR) tWld) (Both (RowG tPW 1 vw n As) (Both (RowG tPW6 1 vW n Bs) Φ)))) (hF : Fails W ef fails12) {o2 o3 : Int} (hn : 0 < n) (hi : place6N o2 n = i) (hil : i < n)
    (ha : As[i]? = some (.pointer none)) (hb : Bs[i]? = some (.pointer none)) (hv : RdRow W v ss.length 1 (strs ss)) (hlen : ss.length ≤ 1048576) :
    Calls Tryd.prog 34 #[.pointer (some ⟨kx, 0, none⟩), .agg #[.int .i64 4, .int .i64 o2, .int .i64 o3, v]] w fun e w' => e = .returned (.tuple #[an6V ⟨0, 0, [], false, []⟩ (.slice none 0 0), an6V ⟨0, 0, [], false, []⟩ (.slice none 0 0)]) ∧
      At W w' (Both (CellT kx (wldC sb rb vw vr vW vR) tWld) (Both (RowG tPW 1 vw n As) (Both (RowG tPW6 1 vW n Bs) Φ))) := by
  obtain ⟨av, cv, rfl, _, _⟩ := hv.shape
  have hRA := (RowG.stable tPW 1 vw n As).both ((RowG.stable tPW6 1 vW n Bs).both hΦ)
  have hst0 := (CellT.stable kx (wldC sb rb vw vr vW vR) tWld).both hRA
  have h5 : At W _ (Both (FiveT w.heap.size #[.int .i64 4, .int .i64 o2, .int .i64 o3, .slice av ss.length cv] noAn noAn noAn noAn) (Both (CellT kx (wldC sb rb vw vr vW vR) tWld) (Both (RowG tPW 1 vw n As) (Both (RowG tPW6 1 vW n Bs) Φ)))) := (h.five6 hst0 #[.int .i64 4, .int .i64 o2, .int .i64 o3, .slice av ss.length cv]).perm (by unfold FiveT; ac_rfl)
  have hln := own_shape h.drop.rowG
  obtain ⟨ga, ca, hva, _, _, _⟩ := own_cut h.drop.rowG hn
  obtain ⟨gb, cb, hvb, _, _, hcb⟩ := own_cut h.drop.drop.rowG hn
  subst hva hvb
  unfold maxLen at hcb
  have hkx := lt_of_heap h.cell.1
  clear hln h
  have hnc : n ≤ 9223372036854775807 := by omega
  have H5 := Lib.hid h5
  clear h5
  go_enter Tryd.func34, Tryd.ntmps34
  (repeat' (first | (go_big_may; fail) | go_values | go_skip | go_guarded | go_step | go_upon | go_back | dsimp only))
  generalize ((((w.alloc _).alloc _).alloc _).alloc _).alloc _ = w1 at *
  generalize w.heap.size = s at *
  obtain ⟨y4, y2, y1, y3, y0⟩ := five_get H5.out
  have b0 := cell_at y0 0; have b1 := cell_at y0 1; have b3 := cell_at y0 3
  have c1 := cell_at H5.out.drop.cell.1 1; have c4 := cell_at H5.out.drop.cell.1 4
  have lk := lt_of_heap H5.out.drop.cell.1; have ls := lt_of_heap y0
  have hst5 := (FiveT.stable s #[.int .i64 4, .int .i64 o2, .int .i64 o3, .slice av ss.length cv] noAn noAn noAn noAn).both hst0
  go_cut [8] (fun v8 wx => v8 = .int .i64 (i : Nat) ∧ At W wx (Both (FiveT s #[.int .i64 4, .int .i64 o2, .int .i64 o3, .slice av ss.length cv] noAn noAn noAn noAn) (Both (CellT kx (wldC sb rb (.slice (some ⟨ga, 0, none⟩) n ca) vr (.slice (some ⟨gb, 0, none⟩) n cb) vR) tWld) (Both (RowG tPW 1 (.slice (some ⟨ga, 0, none⟩) n ca) n As) (Both (RowG tPW6 1 (.slice (some ⟨gb, 0, none⟩) n cb) n Bs) Φ)))))
  case first =>
    refine wp_only ?_
    rename_i J K' hJ hK
    have HJ := Lib.hid hJ
    have HK := Lib.hid hK
    clear hJ hK
    have hcg := And.intro b1 c1
    have hpl := place6_calls w1.drew o2 n hnc
    rw [hi] at hpl
    go_region_held3 (fun wx => wx.cell? ⟨s, 1, none⟩ = some (.int .i64 o2) ∧ wx.cell? ⟨kx, 1, none⟩ = some (.slice (some ⟨ga, 0, none⟩) n ca)) (first | assumption | go_keep) (first
      | (go_at_call 36; refine hpl.mono ?_; rintro e w8 ⟨rfl, rfl⟩))
    all_goals
      refine HK.out _ _ ?_
      have hJ := HJ.out
      go_meet
      case rel => exact ⟨rfl, H5.out.drew hst5⟩
  case rest =>
    obtain ⟨e8, h8⟩ := hcut
    subst e8
    have H8 := Lib.hid h8
    clear h8 H5 y0 y1 y2 y3 y4 b0 b1 b3 c1 c4 lk ls
    obtain ⟨y4, y2, y1, y3, y0⟩ := five_get H8.out
    have b0 := cell_at y0 0; have b3 := cell_at y0 3
    have c1 := cell_at H8.out.drop.cell.1 1; have c4 := cell_at H8.out.drop.cell.1 4
    have ra := (H8.out.drop.drop.rowCell ha).1
    have rb2 := (H8.out.drop.drop.drop.rowCell hb).1
    have hi0 : (0 : Int) ≤ i := by omega
    have hi1 : (i : Int) < n := by omega
    have hi2 : ¬ (i : Int) < 0 := by omega
    clear y0 y1 y2 y3 y4
    (repeat' (first | (go_big_may; fail) | go_values | go_skip | go_guarded | go_step | go_upon | go_back | dsimp only))
    go_quiet (fail)
    have HP := Lib.hid (H8.out.mono hst5 (below_dW _ nq))
    clear H8 c1 c4 ra rb2 b0 b3
    obtain ⟨y4, y2, y1, y3, y0⟩ := five_get HP.out
    have b0 := cell_at y0 0; have b3 := cell_at y0 3
    have c3 := cell_at HP.out.drop.cell.1 3
    generalize World.drewN _ nq = wq at *
    (repeat' (first | (go_big_may; fail) | go_values | go_skip | go_guarded | go_step | go_upon | go_back | dsimp only))
    have HPU := Lib.hid (Drop_nil (w := wq))
    clear b0 b3 c3 y4 y2 y1 y3 y0
    refine HPU.out.mono ?_
    rintro e w3 ⟨rfl, hb3⟩
    have hst2 := (FiveT.stable s #[.int .i64 4, .int .i64 o2, .int .i64 o3, .slice av ss.length cv] noAn noAn noAn noAn).both hst0
    have HE := Lib.hid (HP.out.mono hst2 hb3)
    clear hb3 HPU
    (repeat' (first | (go_big_may; fail) | go_values | go_skip | go_guarded | go_step | go_upon | go_back | dsimp only))
    have HCO := Lib.hid (code6_calls ((fails12_11 hF).below HE.out.below) (c := 0) (.inl rfl))
    have hstE := hst0
    obtain ⟨y4, y2, y1, y3, y0⟩ := five_get HE.out
    obtain ⟨m0, m1, m2, m3, m4⟩ := five_at y3
    have fm := thaw_at y3
    have lm := lt_of_heap y3
    have HE2 := Lib.hid (five_set3 HE.out hstE 1 (.int .i64 (0 : Nat)))
    clear y0 y1 y2 y3 y4
    (repeat' (first | (go_big_may; fail) | go_values | go_skip | go_guarded | go_step | go_upon | go_back | dsimp only))
    refine HCO.out.mono ?_
    rintro e w20 ⟨rfl, rfl⟩
    (repeat' (first | (go_big_may; fail) | go_values | go_skip | go_guarded | go_step | go_upon | go_back | dsimp only))
    clear m0 m1 m2 m3 m4 fm lm HCO HE
    generalize World.setCell _ (⟨s + 1 + 1 + 1, 1, none⟩ : Addr) _ = wf at *
    have he : At W wf (Both (FiveT s #[.int .i64 4, .int .i64 o2, .int .i64 o3, .slice av ss.length cv] noAn noAn (an6C ⟨0, 0, [], false, []⟩ (.slice none 0 0)) (an6C ⟨0, 0, [], false, []⟩ (.slice none 0 0))) (Both (CellT kx (wldC sb rb (.slice (some ⟨ga, 0, none⟩) n ca) vr (.slice (some ⟨gb, 0, none⟩) n cb) vR) tWld) (Both (RowG tPW 1 (.slice (some ⟨ga, 0, none⟩) n ca) n As) (Both (RowG tPW6 1 (.slice (some ⟨gb, 0, none⟩) n cb) n Bs) Φ)))) := HE2.out
    clear HE2
    have HE := Lib.hid he
    obtain ⟨y4, y2, y1, y3, y0⟩ := five_get he
    obtain ⟨x0, x1, x2, x3, x4⟩ := five_at y3
    obtain ⟨v0, v1, v2, v3, v4⟩ := five_at y4
    obtain ⟨q0, q1, q2, q3, q4⟩ := five_at y1
    obtain ⟨r0, r1, r2, r3, r4⟩ := five_at y2
    have g4 := thaw_at y1
    have g5 := thaw_at y2
    have l4 := lt_of_heap y1; have l5 := lt_of_heap y2; have l6 := lt_of_heap y3; have l7 := lt_of_heap y4
    have Y1 := Lib.hid y1
    have Y2 := Lib.hid y2
    clear y0 y1 y2 y3 y4 he
    (repeat' (first | (go_big_may; fail) | go_values | go_skip | go_guarded | go_step | go_upon | go_back | dsimp only))
    go_region
    (repeat' (first | (go_big_may; fail) | go_values | go_skip | go_guarded | go_step | go_upon | go_back | dsimp only))
    (try simp only [Exit.inBlock, Exit.then])
    refine bodyPost_ret (results_cells2 rfl _ _ (s + 1) (s + 1 + 1) tAn6 tAn6 (an6C ⟨0, 0, [], false, []⟩ (.slice none 0 0)) (an6C ⟨0, 0, [], false, []⟩ (.slice none 0 0)) (0, 0) (0, 0) _ rfl rfl ?_ ?_ Tryd.underlying59 rfl (by kernel_rfl) (by kernel_rfl)) rfl ?_
    · rw [heap_drew]; simp [World.setCell, Array.getElem?_modify, Y1.out]
    · rw [heap_drew]; simp [World.setCell, Array.getElem?_modify, Y2.out]
    · refine ⟨rfl, ?_⟩
      refine ?_
      exact HE.out.loseU [s + 1, s + 1 + 1, s + 1 + 1 + 1 + 1] hst0 (fun fp h => cellsT_mem h) (by repeat' (first | with_reducible exact Upd.refl _ _ | (with_reducible refine Upd.drew ?_) | (with_reducible refine Upd.setCell ?_ (.inl (by simp)) _)))
set_option maxRecDepth 100000 in
set_option maxHeartbeats 3200000 in
theorem writer_none {vr vR : Value} (hΦ : Stable Φ) (h : At W w (Both (CellT kx (wldC sb rb vw vr vW vR) tWld) (Both (RowG tPW 1 vw 0 []) Φ))) {kk o2 o3 : Int} (hv : RdRow W v ss.length 1 (strs ss)) :
    Calls Tryd.prog 34 #[.pointer (some ⟨kx, 0, none⟩), .agg #[.int .i64 kk, .int .i64 o2, .int .i64 o3, v]] w fun e w' => e = .returned (.tuple #[an6V ⟨0, 0, [], false, []⟩ (.slice none 0 0), an6V ⟨0, 0, [], false, []⟩ (.slice none 0 0)]) ∧
      At W w' (Both (CellT kx (wldC sb rb vw vr vW vR) tWld) (Both (RowG tPW 1 vw 0 []) Φ)) := by
  obtain ⟨av, cv, rfl, _, _⟩ := hv.shape
  have hst0 := (CellT.stable kx (wldC sb rb vw vr vW vR) tWld).both ((RowG.stable tPW 1 vw 0 []).both hΦ)
  have h5 : At W _ (Both (FiveT w.heap.size #[.int .i64 kk, .int .i64 o2, .int .i64 o3, .slice av ss.length cv] noAn noAn noAn noAn) (Both (CellT kx (wldC sb rb vw vr vW vR) tWld) (Both (RowG tPW 1 vw 0 []) Φ))) := (h.five6 hst0 #[.int .i64 kk, .int .i64 o2, .int .i64 o3, .slice av ss.length cv]).perm (by unfold FiveT; ac_rfl)
  obtain ⟨ga, ca, hva, _, hca⟩ := own_shape h.drop.rowG
  subst hva
  have hi : place6N o2 0 = -1 := by unfold place6N; rw [if_pos (by omega)]; rfl
  have H5 := Lib.hid h5
  clear h5 h
  go_enter Tryd.func34, Tryd.ntmps34
  (repeat' (first | (go_big_may; fail) | go_values | go_skip | go_guarded | go_step | go_upon | go_back | dsimp only))
  generalize ((((w.alloc _).alloc _).alloc _).alloc _).alloc _ = w1 at *
  generalize w.heap.size = s at *
  obtain ⟨y4, y2, y1, y3, y0⟩ := five_get H5.out
  have b1 := cell_at y0 1
  have c1 := cell_at H5.out.drop.cell.1 1
  have lk := lt_of_heap H5.out.drop.cell.1; have ls := lt_of_heap y0
  have hst5 := (FiveT.stable s #[.int .i64 kk, .int .i64 o2, .int .i64 o3, .slice av ss.length cv] noAn noAn noAn noAn).both hst0
  have hcg := And.intro b1 c1
  have hpl := place6_calls w1.drew o2 0 (by decide)
  rw [hi] at hpl
  clear y4 y2 y1 y3 y0
  go_region_held3 (fun wx => wx.cell? ⟨s, 1, none⟩ = some (.int .i64 o2) ∧ wx.cell? ⟨kx, 1, none⟩ = some (.slice ga 0 ca)) (first | assumption | go_keep) (first
    | (go_at_call 36; refine hpl.mono ?_; rintro e w8 ⟨rfl, rfl⟩))
  all_goals
    have he := H5.out.drew hst5
    clear H5 hcg b1 c1 lk ls hpl
    generalize w1.drew = wf at *
    (repeat' (first | (go_big_may; fail) | go_values | go_skip | go_guarded | go_step | go_upon | go_back | dsimp only))
    have HE := Lib.hid he
    obtain ⟨y4, y2, y1, y3, y0⟩ := five_get he
    obtain ⟨x0, x1, x2, x3, x4⟩ := five_at y3
    obtain ⟨v0, v1, v2, v3, v4⟩ := five_at y4
    obtain ⟨q0, q1, q2, q3, q4⟩ := five_at y1
    obtain ⟨r0, r1, r2, r3, r4⟩ := five_at y2
    have g4 := thaw_at y1
    have g5 := thaw_at y2
    have l4 := lt_of_heap y1; have l5 := lt_of_heap y2; have l6 := lt_of_heap y3; have l7 := lt_of_heap y4
    have Y1 := Lib.hid y1
    have Y2 := Lib.hid y2
    clear y0 y1 y2 y3 y4 he
    (repeat' (first | (go_big_may; fail) | go_values | go_skip | go_guarded | go_step | go_upon | go_back | dsimp only))
    go_region
    (repeat' (first | (go_big_may; fail) | go_values | go_skip | go_guarded | go_step | go_upon | go_back | dsimp only))
    (try simp only [Exit.inBlock, Exit.then])
    refine bodyPost_ret (results_cells2 rfl _ _ (s + 1) (s + 1 + 1) tAn6 tAn6 (an6C ⟨0, 0, [], false, []⟩ (.slice none 0 0)) (an6C ⟨0, 0, [], false, []⟩ (.slice none 0 0)) (0, 0) (0, 0) _ rfl rfl ?_ ?_ Tryd.underlying59 rfl (by kernel_rfl) (by kernel_rfl)) rfl ?_
    · rw [heap_drew]; simp [World.setCell, Array.getElem?_modify, Y1.out]
    · rw [heap_drew]; simp [World.setCell, Array.getElem?_modify, Y2.out]
    · refine ⟨rfl, ?_⟩
      refine ?_
      exact HE.out.loseU [s + 1, s + 1 + 1, s + 1 + 1 + 1 + 1] hst0 (fun fp h => cellsT_mem h) (by repeat' (first | with_reducible exact Upd.refl _ _ | (with_reducible refine Upd.drew ?_) | (with_reducible refine Upd.setCell ?_ (.inl (by simp)) _)))
end
end Go.Proofs.YtiimpnhjnodgpaaDoor
namespace Go.Proofs.YtiimpnhjnodgpaaDoor
open Go.RowKit

section
variable {W w : World} {R Φ : Thing} {kx sb rb : Nat} {ef : Nat → Nat × Nat} {S : St} {vw vr vW vR v : Value} {n i : Nat} {As Bs : List Value} {ss : List (List UInt8)}
set_option maxRecDepth 100000 in
set_option maxHeartbeats 3200000 in
theorem step_pass2 {X : Thing} {Q : Thing → Prop} {A : An6} (hX : Stable X) (h : At W w X) {o2 o3 : Int} (hv : RdRow W v ss.length 1 (strs ss))
    (hC : ∀ w1 Y, Stable Y → At W w1 (Both X Y) → Calls Tryd.prog 34 #[.pointer (some ⟨kx, 0, none⟩), .agg #[.int .i64 2, .int .i64 o2, .int .i64 o3, v]] w1 fun e w' => e = .returned (.tuple #[an6V A (.slice none 0 0), an6V A (.slice none 0 0)]) ∧ ∃ X', Stable X' ∧ Q X' ∧ At W w' (Both X' Y)) :
    Calls Tryd.prog 15 #[.pointer (some ⟨kx, 0, none⟩), .agg #[.int .i64 2, .int .i64 o2, .int .i64 o3, v]] w fun e w' => e = .returned (.tuple #[an6V A (.slice none 0 0), an6V A (.slice none 0 0)]) ∧ ∃ X', Q X' ∧ At W w' X' := by
  obtain ⟨av, cv, rfl, _, _⟩ := hv.shape
  have h5 : At W _ (Both (FiveT w.heap.size #[.int .i64 2, .int .i64 o2, .int .i64 o3, .slice av ss.length cv] noAn noAn noAn noAn) X) := (h.five6 hX #[.int .i64 2, .int .i64 o2, .int .i64 o3, .slice av ss.length cv]).perm (by unfold FiveT; ac_rfl)
  have H5 := Lib.hid h5
  clear h5 h
  go_enter Tryd.func15, Tryd.ntmps15
  (repeat' (first | (go_big_may; fail) | go_values | go_skip | go_guarded | go_step | go_upon | go_back | dsimp only))
  generalize ((((w.alloc _).alloc _).alloc _).alloc _).alloc _ = w1 at *
  generalize w.heap.size = s at *
  obtain ⟨y4, y2, y1, y3, y0⟩ := five_get H5.out
  have b0 := cell_at y0 0; have b1 := cell_at y0 1; have b2 := cell_at y0 2; have b3 := cell_at y0 3
  have lk0 := lt_of_heap y0
  simp only [List.getElem?_toArray, List.getElem?_cons_zero, List.getElem?_cons_succ] at b0 b1 b2 b3
  clear y4 y2 y1 y3 y0
  have hc := hC w1 _ (FiveT.stable s #[.int .i64 2, .int .i64 o2, .int .i64 o3, .slice av ss.length cv] noAn noAn noAn noAn) H5.out.comm
  have HC2 := Lib.hid hc
  clear hc hC H5
  (repeat' (first | (go_big_may; fail) | go_values | go_skip | go_guarded | go_step | go_upon | go_back | dsimp only))
  refine HC2.out.mono ?_
  rintro e w2 ⟨rfl, X', hX', hQ, h6⟩
  have h7 := h6.comm
  obtain ⟨y4, y2, y1, y3, y0⟩ := five_get h7
  obtain ⟨q0, q1, q2, q3, q4⟩ := five_at y1
  obtain ⟨r0, r1, r2, r3, r4⟩ := five_at y2
  have g4 := thaw_at y1
  have g5 := thaw_at y2
  have l4 := lt_of_heap y1; have l5 := lt_of_heap y2
  have Y1 := Lib.hid y1
  have Y2 := Lib.hid y2
  have H7 := Lib.hid h7
  have HQ := Lib.hid hQ
  clear y0 y1 y2 y3 y4 h6 h7 HC2 b0 b1 b2 b3 hQ
  (repeat' (first | (go_big_may; fail) | go_values | go_skip | go_guarded | go_step | go_upon | go_back | dsimp only))
  (try simp only [Exit.inBlock, Exit.then])
  refine bodyPost_ret (results_cells2 rfl _ _ (s + 1) (s + 1 + 1) tAn6 tAn6 (an6C A (.slice none 0 0)) (an6C A (.slice none 0 0)) (0, 0) (0, 0) _ rfl rfl ?_ ?_ Tryd.underlying59 rfl (by kernel_rfl) (by kernel_rfl)) rfl ?_
  · simp [World.setCell, Array.getElem?_modify, Y1.out]
  · simp [World.setCell, Array.getElem?_modify, Y2.out]
  · refine ⟨rfl, X', HQ.out, ?_⟩
    exact H7.out.loseU [s + 1, s + 1 + 1, s + 1 + 1 + 1 + 1] hX' (fun fp h => cellsT_mem h) (by repeat' (first | with_reducible exact Upd.refl _ _ | (with_reducible refine Upd.drew ?_) | (with_reducible refine Upd.setCell ?_ (.inl (by simp)) _)))
set_option maxRecDepth 100000 in
set_option maxHeartbeats 3200000 in
theorem step_pass3 {X : Thing} {Q : Thing → Prop} {A : An6} (hX : Stable X) (h : At W w X) {o2 o3 : Int} (hv : RdRow W v ss.length 1 (strs ss))
    (hC : ∀ w1 Y, Stable Y → At W w1 (Both X Y) → Calls Tryd.prog 34 #[.pointer (some ⟨kx, 0, none⟩), .agg #[.int .i64 3, .int .i64 o2, .int .i64 o3, v]] w1 fun e w' => e = .returned (.tuple #[an6V A (.slice none 0 0), an6V A (.slice none 0 0)]) ∧ ∃ X', Stable X' ∧ Q X' ∧ At W w' (Both X' Y)) :
    Calls Tryd.prog 15 #[.pointer (some ⟨kx, 0, none⟩), .agg #[.int .i64 3, .int .i64 o2, .int .i64 o3, v]] w fun e w' => e = .returned (.tuple #[an6V A (.slice none 0 0), an6V A (.slice none 0 0)]) ∧ ∃ X', Q X' ∧ At W w' X' := by
  obtain ⟨av, cv, rfl, _, _⟩ := hv.shape
  have h5 : At W _ (Both (FiveT w.heap.size #[.int .i64 3, .int .i64 o2, .int .i64 o3, .slice av ss.length cv] noAn noAn noAn noAn) X) := (h.five6 hX #[.int .i64 3, .int .i64 o2, .int .i64 o3, .slice av ss.length cv]).perm (by unfold FiveT; ac_rfl)
  have H5 := Lib.hid h5
  clear h5 h
  go_enter Tryd.func15, Tryd.ntmps15
  (repeat' (first | (go_big_may; fail) | go_values | go_skip | go_guarded | go_step | go_upon | go_back | dsimp only))
  generalize ((((w.alloc _).alloc _).alloc _).alloc _).alloc _ = w1 at *
  generalize w.heap.size = s at *
  obtain ⟨y4, y2, y1, y3, y0⟩ := five_get H5.out
  have b0 := cell_at y0 0; have b1 := cell_at y0 1; have b2 := cell_at y0 2; have b3 := cell_at y0 3
  have lk0 := lt_of_heap y0
  simp only [List.getElem?_toArray, List.getElem?_cons_zero, List.getElem?_cons_succ] at b0 b1 b2 b3
  clear y4 y2 y1 y3 y0
  have hc := hC w1 _ (FiveT.stable s #[.int .i64 3, .int .i64 o2, .int .i64 o3, .slice av ss.length cv] noAn noAn noAn noAn) H5.out.comm
  have HC2 := Lib.hid hc
  clear hc hC H5
  (repeat' (first | (go_big_may; fail) | go_values | go_skip | go_guarded | go_step | go_upon | go_back | dsimp only))
  refine HC2.out.mono ?_
  rintro e w2 ⟨rfl, X', hX', hQ, h6⟩
  have h7 := h6.comm
  obtain ⟨y4, y2, y1, y3, y0⟩ := five_get h7
  obtain ⟨q0, q1, q2, q3, q4⟩ := five_at y1
  obtain ⟨r0, r1, r2, r3, r4⟩ := five_at y2
  have g4 := thaw_at y1
  have g5 := thaw_at y2
  have l4 := lt_of_heap y1; have l5 := lt_of_heap y2
  have Y1 := Lib.hid y1
  have Y2 := Lib.hid y2
  have H7 := Lib.hid h7
  have HQ := Lib.hid hQ
  clear y0 y1 y2 y3 y4 h6 h7 HC2 b0 b1 b2 b3 hQ
  (repeat' (first | (go_big_may; fail) | go_values | go_skip | go_guarded | go_step | go_upon | go_back | dsimp only))
  (try simp only [Exit.inBlock, Exit.then])
  refine bodyPost_ret (results_cells2 rfl _ _ (s + 1) (s + 1 + 1) tAn6 tAn6 (an6C A (.slice none 0 0)) (an6C A (.slice none 0 0)) (0, 0) (0, 0) _ rfl rfl ?_ ?_ Tryd.underlying59 rfl (by kernel_rfl) (by kernel_rfl)) rfl ?_
  · simp [World.setCell, Array.getElem?_modify, Y1.out]
  · simp [World.setCell, Array.getElem?_modify, Y2.out]
  · refine ⟨rfl, X', HQ.out, ?_⟩
    exact H7.out.loseU [s + 1, s + 1 + 1, s + 1 + 1 + 1 + 1] hX' (fun fp h => cellsT_mem h) (by repeat' (first | with_reducible exact Upd.refl _ _ | (with_reducible refine Upd.drew ?_) | (with_reducible refine Upd.setCell ?_ (.inl (by simp)) _)))
set_option maxRecDepth 100000 in
set_option maxHeartbeats 3200000 in
theorem step_pass4 {X : Thing} {Q : Thing → Prop} {A : An6} (hX : Stable X) (h : At W w X) {o2 o3 : Int} (hv : RdRow W v ss.length 1 (strs ss))
    (hC : ∀ w1 Y, Stable Y → At W w1 (Both X Y) → Calls Tryd.prog 34 #[.pointer (some ⟨kx, 0, none⟩), .agg #[.int .i64 4, .int .i64 o2, .int .i64 o3, v]] w1 fun e w' => e = .returned (.tuple #[an6V A (.slice none 0 0), an6V A (.slice none 0 0)]) ∧ ∃ X', Stable X' ∧ Q X' ∧ At W w' (Both X' Y)) :
    Calls Tryd.prog 15 #[.pointer (some ⟨kx, 0, none⟩), .agg #[.int .i64 4, .int .i64 o2, .int .i64 o3, v]] w fun e w' => e = .returned (.tuple #[an6V A (.slice none 0 0), an6V A (.slice none 0 0)]) ∧ ∃ X', Q X' ∧ At W w' X' := by
  obtain ⟨av, cv, rfl, _, _⟩ := hv.shape
  have h5 : At W _ (Both (FiveT w.heap.size #[.int .i64 4, .int .i64 o2, .int .i64 o3, .slice av ss.length cv] noAn noAn noAn noAn) X) := (h.five6 hX #[.int .i64 4, .int .i64 o2, .int .i64 o3, .slice av ss.length cv]).perm (by unfold FiveT; ac_rfl)
  have H5 := Lib.hid h5
  clear h5 h
  go_enter Tryd.func15, Tryd.ntmps15
  (repeat' (first | (go_big_may; fail) | go_values | go_skip | go_guarded | go_step | go_upon | go_back | dsimp only))
  generalize ((((w.alloc _).alloc _).alloc _).alloc _).alloc _ = w1 at *
  generalize w.heap.size = s at *
  obtain ⟨y4, y2, y1, y3, y0⟩ := five_get H5.out
  have b0 := cell_at y0 0; have b1 := cell_at y0 1; have b2 := cell_at y0 2; have b3 := cell_at y0 3
  have lk0 := lt_of_heap y0
  simp only [List.getElem?_toArray, List.getElem?_cons_zero, List.getElem?_cons_succ] at b0 b1 b2 b3
  clear y4 y2 y1 y3 y0
  have hc := hC w1 _ (FiveT.stable s #[.int .i64 4, .int .i64 o2, .int .i64 o3, .slice av ss.length cv] noAn noAn noAn noAn) H5.out.comm
  have HC2 := Lib.hid hc
  clear hc hC H5
  (repeat' (first | (go_big_may; fail) | go_values | go_skip | go_guarded | go_step | go_upon | go_back | dsimp only))
  refine HC2.out.mono ?_
  rintro e w2 ⟨rfl, X', hX', hQ, h6⟩
  have h7 := h6.comm
  obtain ⟨y4, y2, y1, y3, y0⟩ := five_get h7
  obtain ⟨q0, q1, q2, q3, q4⟩ := five_at y1
  obtain ⟨r0, r1, r2, r3, r4⟩ := five_at y2
  have g4 := thaw_at y1
  have g5 := thaw_at y2
  have l4 := lt_of_heap y1; have l5 := lt_of_heap y2
  have Y1 := Lib.hid y1
  have Y2 := Lib.hid y2
  have H7 := Lib.hid h7
  have HQ := Lib.hid hQ
  clear y0 y1 y2 y3 y4 h6 h7 HC2 b0 b1 b2 b3 hQ
  (repeat' (first | (go_big_may; fail) | go_values | go_skip | go_guarded | go_step | go_upon | go_back | dsimp only))
  (try simp only [Exit.inBlock, Exit.then])
  refine bodyPost_ret (results_cells2 rfl _ _ (s + 1) (s + 1 + 1) tAn6 tAn6 (an6C A (.slice none 0 0)) (an6C A (.slice none 0 0)) (0, 0) (0, 0) _ rfl rfl ?_ ?_ Tryd.underlying59 rfl (by kernel_rfl) (by kernel_rfl)) rfl ?_
  · simp [World.setCell, Array.getElem?_modify, Y1.out]
  · simp [World.setCell, Array.getElem?_modify, Y2.out]
  · refine ⟨rfl, X', HQ.out, ?_⟩
    exact H7.out.loseU [s + 1, s + 1 + 1, s + 1 + 1 + 1 + 1] hX' (fun fp h => cellsT_mem h) (by repeat' (first | with_reducible exact Upd.refl _ _ | (with_reducible refine Upd.drew ?_) | (with_reducible refine Upd.setCell ?_ (.inl (by simp)) _)))
set_option maxRecDepth 100000 in
set_option maxHeartbeats 3200000 in
theorem step_pass7 {X : Thing} {Q : Thing → Prop} {A : An6} (hX : Stable X) (h : At W w X) {o2 o3 : Int} (hv : RdRow W v ss.length 1 (strs ss))
    (hC : ∀ w1 Y, Stable Y → At W w1 (Both X Y) → Calls Tryd.prog 38 #[.pointer (some ⟨kx, 0, none⟩), .agg #[.int .i64 7, .int .i64 o2, .int .i64 o3, v]] w1 fun e w' => e = .returned (.tuple #[an6V A (.slice none 0 0), an6V A (.slice none 0 0)]) ∧ ∃ X', Stable X' ∧ Q X' ∧ At W w' (Both X' Y)) :
    Calls Tryd.prog 15 #[.pointer (some ⟨kx, 0, none⟩), .agg #[.int .i64 7, .int .i64 o2, .int .i64 o3, v]] w fun e w' => e = .returned (.tuple #[an6V A (.slice none 0 0), an6V A (.slice none 0 0)]) ∧ ∃ X', Q X' ∧ At W w' X' := by
  obtain ⟨av, cv, rfl, _, _⟩ := hv.shape
  have h5 : At W _ (Both (FiveT w.heap.size #[.int .i64 7, .int .i64 o2, .int .i64 o3, .slice av ss.length cv] noAn noAn noAn noAn) X) := (h.five6 hX #[.int .i64 7, .int .i64 o2, .int .i64 o3, .slice av ss.length cv]).perm (by unfold FiveT; ac_rfl)
  have H5 := Lib.hid h5
  clear h5 h
  go_enter Tryd.func15, Tryd.ntmps15
  (repeat' (first | (go_big_may; fail) | go_values | go_skip | go_guarded | go_step | go_upon | go_back | dsimp only))
  generalize ((((w.alloc _).alloc _).alloc _).alloc _).alloc _ = w1 at *
  generalize w.heap.size = s at *
  obtain ⟨y4, y2, y1, y3, y0⟩ := five_get H5.out
  have b0 := cell_at y0 0; have b1 := cell_at y0 1; have b2 := cell_at y0 2; have b3 := cell_at y0 3
  have lk0 := lt_of_heap y0
  simp only [List.getElem?_toArray, List.getElem?_cons_zero, List.getElem?_cons_succ] at b0 b1 b2 b3
  clear y4 y2 y1 y3 y0
  have hc := hC w1 _ (FiveT.stable s #[.int .i64 7, .int .i64 o2, .int .i64 o3, .slice av ss.length cv] noAn noAn noAn noAn) H5.out.comm
  have HC2 := Lib.hid hc
  clear hc hC H5
  (repeat' (first | (go_big_may; fail) | go_values | go_skip | go_guarded | go_step | go_upon | go_back | dsimp only))
  refine HC2.out.mono ?_
  rintro e w2 ⟨rfl, X', hX', hQ, h6⟩
  have h7 := h6.comm
  obtain ⟨y4, y2, y1, y3, y0⟩ := five_get h7
  obtain ⟨q0, q1, q2, q3, q4⟩ := five_at y1
  obtain ⟨r0, r1, r2, r3, r4⟩ := five_at y2
  have g4 := thaw_at y1
  have g5 := thaw_at y2
  have l4 := lt_of_heap y1; have l5 := lt_of_heap y2
  have Y1 := Lib.hid y1
  have Y2 := Lib.hid y2
  have H7 := Lib.hid h7
  have HQ := Lib.hid hQ
  clear y0 y1 y2 y3 y4 h6 h7 HC2 b0 b1 b2 b3 hQ
  (repeat' (first | (go_big_may; fail) | go_values | go_skip | go_guarded | go_step | go_upon | go_back | dsimp only))
  (try simp only [Exit.inBlock, Exit.then])
  refine bodyPost_ret (results_cells2 rfl _ _ (s + 1) (s + 1 + 1) tAn6 tAn6 (an6C A (.slice none 0 0)) (an6C A (.slice none 0 0)) (0, 0) (0, 0) _ rfl rfl ?_ ?_ Tryd.underlying59 rfl (by kernel_rfl) (by kernel_rfl)) rfl ?_
  · simp [World.setCell, Array.getElem?_modify, Y1.out]
  · simp [World.setCell, Array.getElem?_modify, Y2.out]
  · refine ⟨rfl, X', HQ.out, ?_⟩
    exact H7.out.loseU [s + 1, s + 1 + 1, s + 1 + 1 + 1 + 1] hX' (fun fp h => cellsT_mem h) (by repeat' (first | with_reducible exact Upd.refl _ _ | (with_reducible refine Upd.drew ?_) | (with_reducible refine Upd.setCell ?_ (.inl (by simp)) _)))
set_option maxRecDepth 100000 in
set_option maxHeartbeats 3200000 in
theorem step_other {X : Thing} (hX : Stable X) (hF : Fails W ef fails12) (h : At W w X) {kk o2 o3 : Int} (hv : RdRow W v ss.length 1 (strs ss)) (hk : kk < 1 ∨ 10 < kk) :
    Calls Tryd.prog 15 #[.pointer (some ⟨kx, 0, none⟩), .agg #[.int .i64 kk, .int .i64 o2, .int .i64 o3, v]] w fun e w' => e = .returned (.tuple #[an6V ⟨0, 0, [], false, []⟩ (.slice none 0 0), an6V ⟨0, 0, [], false, []⟩ (.slice none 0 0)]) ∧ At W w' X := by
  obtain ⟨av, cv, rfl, _, _⟩ := hv.shape
  have k1 : (kk == 1) = false := beq_eq_false_iff_ne.2 (by omega)
  have k2 : (kk == 2) = false := beq_eq_false_iff_ne.2 (by omega)
  have k3 : (kk == 3) = false := beq_eq_false_iff_ne.2 (by omega)
  have k4 : (kk == 4) = false := beq_eq_false_iff_ne.2 (by omega)
  have k5 : (kk == 5) = false := beq_eq_false_iff_ne.2 (by omega)
  have k6 : (kk == 6) = false := beq_eq_false_iff_ne.2 (by omega)
  have k7 : (kk == 7) = false := beq_eq_false_iff_ne.2 (by omega)
  have k8 : (kk == 8) = false := beq_eq_false_iff_ne.2 (by omega)
  have k9 : (kk == 9) = false := beq_eq_false_iff_ne.2 (by omega)
  have k10 : (kk == 10) = false := beq_eq_false_iff_ne.2 (by omega)
  clear hk
  have h5 : At W _ (Both (FiveT w.heap.size #[.int .i64 kk, .int .i64 o2, .int .i64 o3, .slice av ss.length cv] noAn noAn noAn noAn) X) := (h.five6 hX #[.int .i64 kk, .int .i64 o2, .int .i64 o3, .slice av ss.length cv]).perm (by unfold FiveT; ac_rfl)
  have H5 := Lib.hid h5
  clear h5 h
  go_enter Tryd.func15, Tryd.ntmps15
  (repeat' (first | (go_big_may; fail) | go_values | go_skip | go_guarded | go_step | go_upon | go_back | dsimp only))
  generalize ((((w.alloc _).alloc _).alloc _).alloc _).alloc _ = w1 at *
  generalize w.heap.size = s at *
  obtain ⟨y4, y2, y1, y3, y0⟩ := five_get H5.out
  have b0 := cell_at y0 0; have b1 := cell_at y0 1; have b2 := cell_at y0 2; have b3 := cell_at y0 3
  have lk0 := lt_of_heap y0
  simp only [List.getElem?_toArray, List.getElem?_cons_zero, List.getElem?_cons_succ] at b0 b1 b2 b3
  clear y4 y2 y1 y3 y0
  (repeat' (first | (go_big_may; fail) | go_values | go_skip | go_guarded | go_step | go_upon | go_back | dsimp only))
  have HCO := Lib.hid (code6_calls ((fails12_11 hF).below H5.out.below) (c := 0) (.inl rfl))
  obtain ⟨y4, y2, y1, y3, y0⟩ := five_get H5.out
  obtain ⟨m0, m1, m2, m3, m4⟩ := five_at y3
  have fm := thaw_at y3
  have lm := lt_of_heap y3
  have HE2 := Lib.hid (five_set3 H5.out hX 1 (.int .i64 (0 : Nat)))
  clear y0 y1 y2 y3 y4 k1 k2 k3 k4 k5 k6 k7 k8 k9 k10
  refine HCO.out.mono ?_
  rintro e w20 ⟨rfl, rfl⟩
  (repeat' (first | (go_big_may; fail) | go_values | go_skip | go_guarded | go_step | go_upon | go_back | dsimp only))
  clear m0 m1 m2 m3 m4 fm lm HCO H5 b0 b1 b2 b3
  generalize World.setCell _ (⟨s + 1 + 1 + 1, 1, none⟩ : Addr) _ = wf at *
  have he : At W wf (Both (FiveT s #[.int .i64 kk, .int .i64 o2, .int .i64 o3, .slice av ss.length cv] noAn noAn (an6C ⟨0, 0, [], false, []⟩ (.slice none 0 0)) (an6C ⟨0, 0, [], false, []⟩ (.slice none 0 0))) X) := HE2.out
  clear HE2
  have HE := Lib.hid he
  obtain ⟨y4, y2, y1, y3, y0⟩ := five_get he
  obtain ⟨x0, x1, x2, x3, x4⟩ := five_at y3
  obtain ⟨v0, v1, v2, v3, v4⟩ := five_at y4
  obtain ⟨q0, q1, q2, q3, q4⟩ := five_at y1
  obtain ⟨r0, r1, r2, r3, r4⟩ := five_at y2
  have g4 := thaw_at y1
  have g5 := thaw_at y2
  have l4 := lt_of_heap y1; have l5 := lt_of_heap y2; have l6 := lt_of_heap y3; have l7 := lt_of_heap y4
  have Y1 := Lib.hid y1
  have Y2 := Lib.hid y2
  clear y0 y1 y2 y3 y4 he
  (repeat' (first | (go_big_may; fail) | go_values | go_skip | go_guarded | go_step | go_upon | go_back | dsimp only))
  go_region
  (repeat' (first | (go_big_may; fail) | go_values | go_skip | go_guarded | go_step | go_upon | go_back | dsimp only))
  (try simp only [Exit.inBlock, Exit.then])
  refine bodyPost_ret (results_cells2 rfl _ _ (s + 1) (s + 1 + 1) tAn6 tAn6 (an6C ⟨0, 0, [], false, []⟩ (.slice none 0 0)) (an6C ⟨0, 0, [], false, []⟩ (.slice none 0 0)) (0, 0) (0, 0) _ rfl rfl ?_ ?_ Tryd.underlying59 rfl (by kernel_rfl) (by kernel_rfl)) rfl ?_
  · rw [heap_drew]; simp [World.setCell, Array.getElem?_modify, Y1.out]
  · rw [heap_drew]; simp [World.setCell, Array.getElem?_modify, Y2.out]
  · refine ⟨rfl, ?_⟩
    refine ?_
    exact HE.out.loseU [s + 1, s + 1 + 1, s + 1 + 1 + 1 + 1] hX (fun fp h => cellsT_mem h) (by repeat' (first | with_reducible exact Upd.refl _ _ | (with_reducible refine Upd.drew ?_) | (with_reducible refine Upd.setCell ?_ (.inl (by simp)) _)))
end
end Go.Proofs.YtiimpnhjnodgpaaDoor
namespace Go.Proofs.YtiimpnhjnodgpaaDoor
open Go.RowKit

section
variable {W w : World} {R Φ : Thing} {kx sb rb : Nat} {ef : Nat → Nat × Nat} {S : St} {vw vr vW vR v : Value} {n i : Nat} {As Bs : List Value} {ss : List (List UInt8)}
set_option maxRecDepth 100000 in
set_option maxHeartbeats 3200000 in
theorem step_break (hΦ : Stable Φ) (hF : Fails W ef fails12) (h : At W w (Both (CellT kx (wldC sb rb vw vr vW vR) tWld) (Both (StoreT sb (S)) (Both (RefT rb (S)) Φ)))) {o2 o3 : Int} (ho3 : inI64 o3) (hv : RdRow W v ss.length 1 (strs ss)) :
    Calls Tryd.prog 15 #[.pointer (some ⟨kx, 0, none⟩), .agg #[.int .i64 8, .int .i64 o2, .int .i64 o3, v]] w fun e w' => e = .returned (.tuple #[an6V ⟨0, 0, [], false, []⟩ (.slice none 0 0), an6V ⟨0, 0, [], false, []⟩ (.slice none 0 0)]) ∧ At W w' (Both (CellT kx (wldC sb rb vw vr vW vR) tWld) (Both (StoreT sb (breakS S o3)) (Both (RefT rb (breakS S o3)) Φ))) := by
  obtain ⟨av, cv, rfl, _, _⟩ := hv.shape
  have hX := ((CellT.stable kx (wldC sb rb vw vr vW vR) tWld).both ((StoreT.stable sb (S)).both ((RefT.stable rb (S)).both hΦ)))
  have hkx := lt_of_heap h.cell.1
  have h5 : At W _ (Both (FiveT w.heap.size #[.int .i64 8, .int .i64 o2, .int .i64 o3, .slice av ss.length cv] noAn noAn noAn noAn) (Both (CellT kx (wldC sb rb vw vr vW vR) tWld) (Both (StoreT sb (S)) (Both (RefT rb (S)) Φ)))) := (h.five6 hX #[.int .i64 8, .int .i64 o2, .int .i64 o3, .slice av ss.length cv]).perm (by unfold FiveT; ac_rfl)
  have H5 := Lib.hid h5
  clear h5 h
  go_enter Tryd.func15, Tryd.ntmps15
  (repeat' (first | (go_big_may; fail) | go_values | go_skip | go_guarded | go_step | go_upon | go_back | dsimp only))
  generalize ((((w.alloc _).alloc _).alloc _).alloc _).alloc _ = w1 at *
  generalize w.heap.size = s at *
  obtain ⟨y4, y2, y1, y3, y0⟩ := five_get H5.out
  have b0 := cell_at y0 0; have b1 := cell_at y0 1; have b2 := cell_at y0 2; have b3 := cell_at y0 3
  have lk0 := lt_of_heap y0
  simp only [List.getElem?_toArray, List.getElem?_cons_zero, List.getElem?_cons_succ] at b0 b1 b2 b3
  clear y4 y2 y1 y3 y0
  have c0 := cell_at H5.out.drop.cell.1 0
  have lkx := lt_of_heap H5.out.drop.cell.1
  have hcg := And.intro c0 b2
  have h6 : At W w1.drew (Both (StoreT sb S) (Both (FiveT s #[.int .i64 8, .int .i64 o2, .int .i64 o3, .slice av ss.length cv] noAn noAn noAn noAn) (Both (CellT kx (wldC sb rb vw vr vW vR) tWld) (Both (RefT rb S) Φ)))) := (H5.out.drew ((FiveT.stable _ _ _ _ _ _).both hX)).perm (by ac_rfl)
  have hBK := Break_at h6 ((FiveT.stable s #[.int .i64 8, .int .i64 o2, .int .i64 o3, .slice av ss.length cv] noAn noAn noAn noAn).both ((CellT.stable kx (wldC sb rb vw vr vW vR) tWld).both ((RefT.stable rb S).both hΦ))) ho3
  have HBK := Lib.hid hBK
  clear h6 hBK
  go_region_held3 (fun wx => wx.cell? ⟨kx, 0, none⟩ = some (.pointer (some ⟨sb, 0, none⟩)) ∧ wx.cell? ⟨s, 2, none⟩ = some (.int .i64 o3)) (first | assumption | go_keep) (first
    | (go_at_call 39; refine HBK.out.mono ?_; rintro e w8 ⟨rfl, h13⟩
       have h14 : At W w8 (Both (FiveT s #[.int .i64 8, .int .i64 o2, .int .i64 o3, .slice av ss.length cv] noAn noAn noAn noAn) (Both (CellT kx (wldC sb rb vw vr vW vR) tWld) (Both (StoreT sb (breakS S o3)) (Both (RefT rb (S)) Φ)))) := h13.perm (by ac_rfl)
       obtain ⟨y4, y2, y1, y3, y0⟩ := five_get h14
       have q0 := cell_at h14.drop.cell.1 0
       have q2 := cell_at y0 2
       have cg8 := And.intro q0 q2
       have H14 := Lib.hid h14
       clear h13 h14 y0 y1 y2 y3 y4))
  all_goals
    have c3 := cell_at H14.out.drop.cell.1 3
    have lk8 := lt_of_heap H14.out.drop.cell.1
    obtain ⟨y4, y2, y1, y3, y0⟩ := five_get H14.out
    have ls8 := lt_of_heap y0
    have b28 := cell_at y0 2
    have hcg8 := And.intro c3 b28
    have h6 : At W w8.drew (Both (RefT rb S) (Both (FiveT s #[.int .i64 8, .int .i64 o2, .int .i64 o3, .slice av ss.length cv] noAn noAn noAn noAn) (Both (CellT kx (wldC sb rb vw vr vW vR) tWld) (Both (StoreT sb (breakS S o3)) Φ)))) := (H14.out.drew ((FiveT.stable _ _ _ _ _ _).both ((CellT.stable kx (wldC sb rb vw vr vW vR) tWld).both ((StoreT.stable sb (breakS S o3)).both ((RefT.stable rb (S)).both hΦ))))).perm (by ac_rfl)
    have HRB := Lib.hid (rBreak_at h6 ((FiveT.stable s #[.int .i64 8, .int .i64 o2, .int .i64 o3, .slice av ss.length cv] noAn noAn noAn noAn).both ((CellT.stable kx (wldC sb rb vw vr vW vR) tWld).both ((StoreT.stable sb (breakS S o3)).both hΦ))) ho3)
    clear h6 y4 y2 y1 y3 y0 cg8 HBK H5 c0 lkx hcg
    (repeat' (first | (go_big_may; fail) | go_values | go_skip | go_guarded | go_step | go_upon | go_back | dsimp only))
    go_region_held3 (fun wx => wx.cell? ⟨kx, 3, none⟩ = some (.pointer (some ⟨rb, 0, none⟩)) ∧ wx.cell? ⟨s, 2, none⟩ = some (.int .i64 o3)) (first | assumption | go_keep) (first
      | (go_at_call 40; refine HRB.out.mono ?_; rintro e w9 ⟨rfl, h13⟩
         have h14 : At W w9 (Both (FiveT s #[.int .i64 8, .int .i64 o2, .int .i64 o3, .slice av ss.length cv] noAn noAn noAn noAn) (Both (CellT kx (wldC sb rb vw vr vW vR) tWld) (Both (StoreT sb (breakS S o3)) (Both (RefT rb (breakS S o3)) Φ)))) := h13.perm (by ac_rfl)
         obtain ⟨y4, y2, y1, y3, y0⟩ := five_get h14
         have q0 := cell_at h14.drop.cell.1 3
         have q2 := cell_at y0 2
         have cg9 := And.intro q0 q2
         have H15 := Lib.hid h14
         clear h13 h14 y0 y1 y2 y3 y4))
    all_goals
      have HE := H15
      clear H14 H15 cg9 hcg8 c3 lk8 ls8 b28 HRB q0 q2
      have HCO := Lib.hid (code6_calls ((fails12_11 hF).below HE.out.below) (c := 0) (.inl rfl))
      have hst := ((CellT.stable kx (wldC sb rb vw vr vW vR) tWld).both ((StoreT.stable sb (breakS S o3)).both ((RefT.stable rb (breakS S o3)).both hΦ)))
      obtain ⟨y4, y2, y1, y3, y0⟩ := five_get HE.out
      obtain ⟨m0, m1, m2, m3, m4⟩ := five_at y3
      have fm := thaw_at y3
      have lm := lt_of_heap y3
      have HE2 := Lib.hid (five_set3 HE.out hst 1 (.int .i64 (0 : Nat)))
      clear y0 y1 y2 y3 y4
      (repeat' (first | (go_big_may; fail) | go_values | go_skip | go_guarded | go_step | go_upon | go_back | dsimp only))
      refine HCO.out.mono ?_
      rintro e w20 ⟨rfl, rfl⟩
      (repeat' (first | (go_big_may; fail) | go_values | go_skip | go_guarded | go_step | go_upon | go_back | dsimp only))
      clear m0 m1 m2 m3 m4 fm lm HCO HE
      generalize World.setCell _ (⟨s + 1 + 1 + 1, 1, none⟩ : Addr) _ = wf at *
      have he := HE2.out
      clear HE2
      have HE := Lib.hid he
      obtain ⟨y4, y2, y1, y3, y0⟩ := five_get he
      obtain ⟨x0, x1, x2, x3, x4⟩ := five_at y3
      obtain ⟨v0, v1, v2, v3, v4⟩ := five_at y4
      obtain ⟨q0, q1, q2, q3, q4⟩ := five_at y1
      obtain ⟨r0, r1, r2, r3, r4⟩ := five_at y2
      have g4 := thaw_at y1
      have g5 := thaw_at y2
      have l4 := lt_of_heap y1; have l5 := lt_of_heap y2; have l6 := lt_of_heap y3; have l7 := lt_of_heap y4
      have Y1 := Lib.hid y1
      have Y2 := Lib.hid y2
      clear y0 y1 y2 y3 y4 he
      (repeat' (first | (go_big_may; fail) | go_values | go_skip | go_guarded | go_step | go_upon | go_back | dsimp only))
      go_region
      (repeat' (first | (go_big_may; fail) | go_values | go_skip | go_guarded | go_step | go_upon | go_back | dsimp only))
      (try simp only [Exit.inBlock, Exit.then])
      refine bodyPost_ret (results_cells2 rfl _ _ (s + 1) (s + 1 + 1) tAn6 tAn6 (an6C ⟨0, 0, [], false, []⟩ (.slice none 0 0)) (an6C ⟨0, 0, [], false, []⟩ (.slice none 0 0)) (0, 0) (0, 0) _ rfl rfl ?_ ?_ Tryd.underlying59 rfl (by kernel_rfl) (by kernel_rfl)) rfl ?_
      · rw [heap_drew]; simp [World.setCell, Array.getElem?_modify, Y1.out]
      · rw [heap_drew]; simp [World.setCell, Array.getElem?_modify, Y2.out]
      · refine ⟨rfl, ?_⟩
        refine ?_
        exact HE.out.loseU [s + 1, s + 1 + 1, s + 1 + 1 + 1 + 1] hst (fun fp h => cellsT_mem h) (by repeat' (first | with_reducible exact Upd.refl _ _ | (with_reducible refine Upd.drew ?_) | (with_reducible refine Upd.setCell ?_ (.inl (by simp)) _)))
end
end Go.Proofs.YtiimpnhjnodgpaaDoor
