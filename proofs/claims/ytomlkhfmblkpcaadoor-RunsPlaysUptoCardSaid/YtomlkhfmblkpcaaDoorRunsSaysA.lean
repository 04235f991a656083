/- runs: the law's own 'says', walked, kind by kind (written by port/runssays.py). -/
import Derived.Test.YtomlkhfmblkpcaaDoorRunsSay
import Derived.Test.YtomlkhfmblkpcaaDoorAppendAt
namespace Go.Proofs.YtomlkhfmblkpcaaDoor
open Go.RowKit

set_option maxRecDepth 100000 in
set_option maxHeartbeats 3200000 in
theorem says1 {W w : World} {b : Nat} {S : St} {R : Thing} (h : At W w (Both (RefT b S) R)) (hR : Stable R) (hG : GoodS S) {o : OpD} (ho : OpOk W o) (hk : o.k = 1) :
    Calls Tryd.prog 23 #[.pointer (some ⟨b, 0, none⟩), opV o] w fun e w' => ∃ v, e = .returned (ansV (⟨(createP S).2.1, (createP S).2.2, [], []⟩ : AnsD) v) ∧ At W w' (Both (RowT v (⟨(createP S).2.1, (createP S).2.2, [], []⟩ : AnsD).list) (Both (RefT b (createP S).1) R)) := by
  have hst := (RefT.stable b S).both hR
  have h3 := (h.three hst o).fourth
  have HR3 := Lib.hid (three_stable hR (w.heap.size + 2) (w.heap.size + 1) w.heap.size zeroAns zeroAns (opCells o) tAns tAns tOp)
  have H3 := Lib.hid h3
  have HRR := Lib.hid hR
  have HG := Lib.hid hG
  have HO := Lib.hid ho
  clear h hst h3 hR hG ho
  obtain ⟨k, run, pos, n, v, parts⟩ := o
  dsimp only at hk ⊢
  subst hk
  go_enter Tryd.func23, Tryd.ntmps23
  (repeat' (first | (go_big_may; fail) | go_values | go_skip | go_guarded | go_step | go_upon | go_back | dsimp only))
  refine (rCreate_at H3.out HR3.out HG.out).mono ?_
  rintro e w1 ⟨rfl, h4⟩
  have hb1 := h4.below
  have e5 := h4.drop.cell
  have e4 := h4.drop.drop.cell
  have eb := h4.drop.drop.drop.cell
  have a0 := cell_of e5.1 0; have a1 := cell_of e5.1 1; have a2 := cell_of e5.1 2; have a3 := cell_of e5.1 3
  have f0 := thaw_of e5.1
  have g0 := thaw_of e4.1
  have d0 := cell_of e4.1 0; have d1 := cell_of e4.1 1; have d2 := cell_of e4.1 2; have d3 := cell_of e4.1 3
  simp only [List.getElem?_toArray, List.getElem?_cons_zero, List.getElem?_cons_succ] at a0 a1 a2 a3 d0 d1 d2 d3
  have H4 := Lib.hid h4
  have HB1 := Lib.hid hb1
  have HW := Lib.hid e5.2
  have E4 := Lib.hid e4.1
  clear h4 hb1 e5 e4 eb H3 HR3
  generalize w.heap.size = s at *
  (repeat' (first | (go_big_may; fail) | go_values | go_skip | go_guarded | go_step | go_upon | go_back | dsimp only))
  (try simp only [Exit.inBlock, Exit.then])
  refine bodyPost_ret (results_cell_row rfl _ _ (s + 1) tAns #[.int .i64 (createP S).2.1, .int .i64 (createP S).2.2, .string ⟨([]).toArray⟩, .slice none 0 0] (0, 0) _ rfl ?_ Tryd.underlying43 rfl (by kernel_rfl)) rfl ?_
  · have := E4.out
    simp [World.setCell, Array.getElem?_modify, this]
  · refine ⟨_, rfl, ?_⟩
    exact (H4.out.third.lose3 ((RefT.stable _ _).both HRR.out) (by repeat' (first | with_reducible exact Upd.refl _ _ | (with_reducible refine Upd.setCell ?_ (.inl (by simp)) _)))).noRow ((RefT.stable _ _).both HRR.out)

set_option maxRecDepth 100000 in
set_option maxHeartbeats 3200000 in
theorem says3 {W w : World} {b : Nat} {S : St} {R : Thing} (h : At W w (Both (RefT b S) R)) (hR : Stable R) (hG : GoodS S) {o : OpD} (ho : OpOk W o) (hk : o.k = 3) :
    Calls Tryd.prog 23 #[.pointer (some ⟨b, 0, none⟩), opV o] w fun e w' => ∃ v, e = .returned (ansV (⟨0, (sealP S o.run).2, [], []⟩ : AnsD) v) ∧ At W w' (Both (RowT v (⟨0, (sealP S o.run).2, [], []⟩ : AnsD).list) (Both (RefT b (sealP S o.run).1) R)) := by
  have hst := (RefT.stable b S).both hR
  have h3 := (h.three hst o).fourth
  have HR3 := Lib.hid (three_stable hR (w.heap.size + 2) (w.heap.size + 1) w.heap.size zeroAns zeroAns (opCells o) tAns tAns tOp)
  have H3 := Lib.hid h3
  have HRR := Lib.hid hR
  have HG := Lib.hid hG
  have HO := Lib.hid ho
  clear h hst h3 hR hG ho
  obtain ⟨k, run, pos, n, v, parts⟩ := o
  dsimp only at hk ⊢
  subst hk
  go_enter Tryd.func23, Tryd.ntmps23
  (repeat' (first | (go_big_may; fail) | go_values | go_skip | go_guarded | go_step | go_upon | go_back | dsimp only))
  refine (rSeal_at H3.out HR3.out HG.out HO.out.run).mono ?_
  rintro e w1 ⟨rfl, h4⟩
  have hb1 := h4.below
  have e5 := h4.drop.cell
  have e4 := h4.drop.drop.cell
  have eb := h4.drop.drop.drop.cell
  have a0 := cell_of e5.1 0; have a1 := cell_of e5.1 1; have a2 := cell_of e5.1 2; have a3 := cell_of e5.1 3
  have f0 := thaw_of e5.1
  have g0 := thaw_of e4.1
  have d0 := cell_of e4.1 0; have d1 := cell_of e4.1 1; have d2 := cell_of e4.1 2; have d3 := cell_of e4.1 3
  simp only [List.getElem?_toArray, List.getElem?_cons_zero, List.getElem?_cons_succ] at a0 a1 a2 a3 d0 d1 d2 d3
  have H4 := Lib.hid h4
  have HB1 := Lib.hid hb1
  have HW := Lib.hid e5.2
  have E4 := Lib.hid e4.1
  clear h4 hb1 e5 e4 eb H3 HR3
  generalize w.heap.size = s at *
  (repeat' (first | (go_big_may; fail) | go_values | go_skip | go_guarded | go_step | go_upon | go_back | dsimp only))
  (try simp only [Exit.inBlock, Exit.then])
  refine bodyPost_ret (results_cell_row rfl _ _ (s + 1) tAns #[.int .i64 0, .int .i64 (sealP S run).2, .string ⟨([]).toArray⟩, .slice none 0 0] (0, 0) _ rfl ?_ Tryd.underlying43 rfl (by kernel_rfl)) rfl ?_
  · have := E4.out
    simp [World.setCell, Array.getElem?_modify, this]
  · refine ⟨_, rfl, ?_⟩
    exact (H4.out.third.lose3 ((RefT.stable _ _).both HRR.out) (by repeat' (first | with_reducible exact Upd.refl _ _ | (with_reducible refine Upd.setCell ?_ (.inl (by simp)) _)))).noRow ((RefT.stable _ _).both HRR.out)

set_option maxRecDepth 100000 in
set_option maxHeartbeats 3200000 in
theorem says4 {W w : World} {b : Nat} {S : St} {R : Thing} (h : At W w (Both (RefT b S) R)) (hR : Stable R) (hG : GoodS S) {o : OpD} (ho : OpOk W o) (hk : o.k = 4) :
    Calls Tryd.prog 23 #[.pointer (some ⟨b, 0, none⟩), opV o] w fun e w' => ∃ v, e = .returned (ansV (⟨0, (readC S o.run o.pos o.n), (readT S o.run o.pos o.n), []⟩ : AnsD) v) ∧ At W w' (Both (RowT v (⟨0, (readC S o.run o.pos o.n), (readT S o.run o.pos o.n), []⟩ : AnsD).list) (Both (RefT b S) R)) := by
  have hst := (RefT.stable b S).both hR
  have h3 := (h.three hst o).fourth
  have HR3 := Lib.hid (three_stable hR (w.heap.size + 2) (w.heap.size + 1) w.heap.size zeroAns zeroAns (opCells o) tAns tAns tOp)
  have H3 := Lib.hid h3
  have HRR := Lib.hid hR
  have HG := Lib.hid hG
  have HO := Lib.hid ho
  clear h hst h3 hR hG ho
  obtain ⟨k, run, pos, n, v, parts⟩ := o
  dsimp only at hk ⊢
  subst hk
  go_enter Tryd.func23, Tryd.ntmps23
  (repeat' (first | (go_big_may; fail) | go_values | go_skip | go_guarded | go_step | go_upon | go_back | dsimp only))
  refine (rRead_at H3.out HG.out HO.out.run HO.out.pos HO.out.n).mono ?_
  rintro e w1 ⟨rfl, hw1⟩
  have h4 := H3.out
  rw [hw1] at h4
  clear hw1
  have hb1 := h4.below
  have e5 := h4.drop.cell
  have e4 := h4.drop.drop.cell
  have eb := h4.drop.drop.drop.cell
  have a0 := cell_of e5.1 0; have a1 := cell_of e5.1 1; have a2 := cell_of e5.1 2; have a3 := cell_of e5.1 3
  have f0 := thaw_of e5.1
  have g0 := thaw_of e4.1
  have d0 := cell_of e4.1 0; have d1 := cell_of e4.1 1; have d2 := cell_of e4.1 2; have d3 := cell_of e4.1 3
  simp only [List.getElem?_toArray, List.getElem?_cons_zero, List.getElem?_cons_succ] at a0 a1 a2 a3 d0 d1 d2 d3
  have H4 := Lib.hid h4
  have HB1 := Lib.hid hb1
  have HW := Lib.hid e5.2
  have E4 := Lib.hid e4.1
  clear h4 hb1 e5 e4 eb H3 HR3
  generalize w.heap.size = s at *
  (repeat' (first | (go_big_may; fail) | go_values | go_skip | go_guarded | go_step | go_upon | go_back | dsimp only))
  (try simp only [Exit.inBlock, Exit.then])
  refine bodyPost_ret (results_cell_row rfl _ _ (s + 1) tAns #[.int .i64 0, .int .i64 (readC S run pos n), .string ⟨((readT S run pos n)).toArray⟩, .slice none 0 0] (0, 0) _ rfl ?_ Tryd.underlying43 rfl (by kernel_rfl)) rfl ?_
  · have := E4.out
    simp [World.setCell, Array.getElem?_modify, this]
  · refine ⟨_, rfl, ?_⟩
    exact (H4.out.third.lose3 ((RefT.stable _ _).both HRR.out) (by repeat' (first | with_reducible exact Upd.refl _ _ | (with_reducible refine Upd.setCell ?_ (.inl (by simp)) _)))).noRow ((RefT.stable _ _).both HRR.out)

end Go.Proofs.YtomlkhfmblkpcaaDoor
