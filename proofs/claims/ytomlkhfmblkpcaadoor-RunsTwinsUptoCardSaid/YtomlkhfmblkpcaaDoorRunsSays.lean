/- runs: the law's own 'says', walked, kind by kind (written by port/runssays.py). -/
import Derived.Test.YtomlkhfmblkpcaaDoorRunsRefB
import Derived.Test.YtomlkhfmblkpcaaDoorAppendAt
namespace Go.Proofs.YtomlkhfmblkpcaaDoor
open Go.RowKit

set_option maxRecDepth 100000 in
set_option maxHeartbeats 3200000 in
theorem says1 {W w : World} {b : Nat} {S : St} {R : Thing} (h : At W w (Both (RefT b S) R)) (hR : Stable R) (hG : GoodS S) {o : OpD} (ho : OpOk W o) (hk : o.k = 1) :
    Calls Tryd.prog 23 #[.pointer (some ⟨b, 0, none⟩), opV o] w fun e w' => ∃ v, e = .returned (ansV (⟨(createP S).2.1, (createP S).2.2, [], []⟩ : AnsD) v) ∧ At W w' (Both (RowT v (⟨(createP S).2.1, (createP S).2.2, [], []⟩ : AnsD).list) (Both (RefT b (createP S).1) R)) := by
  have hst := (RefT.stable b S).both hR
  have h3 := (h.three hst o).fourth
  have HR3 := Lib.hid (three_stable hR (w.heap.size + 2) (w.heap.size + 1) w.heap.size zeroAns zeroAns (opCells o) tAns tAns tOp)
  have H3 := Lib.hid h3
  have HRR := Lib.hid hR
  have HG := Lib.hid hG
  have HO := Lib.hid ho
  clear h hst h3 hR hG ho
  obtain ⟨k, run, pos, n, v, parts⟩ := o
  dsimp only at hk ⊢
  subst hk
  go_enter Tryd.func23, Tryd.ntmps23
  (repeat' (first | (go_big_may; fail) | go_values | go_skip | go_guarded | go_step | go_upon | go_back | dsimp only))
  refine (rCreate_at H3.out HR3.out HG.out).mono ?_
  rintro e w1 ⟨rfl, h4⟩
  have hb1 := h4.below
  have e5 := h4.drop.cell
  have e4 := h4.drop.drop.cell
  have eb := h4.drop.drop.drop.cell
  have a0 := cell_of e5.1 0; have a1 := cell_of e5.1 1; have a2 := cell_of e5.1 2; have a3 := cell_of e5.1 3
  have f0 := thaw_of e5.1
  have g0 := thaw_of e4.1
  have d0 := cell_of e4.1 0; have d1 := cell_of e4.1 1; have d2 := cell_of e4.1 2; have d3 := cell_of e4.1 3
  simp only [List.getElem?_toArray, List.getElem?_cons_zero, List.getElem?_cons_succ] at a0 a1 a2 a3 d0 d1 d2 d3
  have H4 := Lib.hid h4
  have HB1 := Lib.hid hb1
  have HW := Lib.hid e5.2
  have E4 := Lib.hid e4.1
  clear h4 hb1 e5 e4 eb H3 HR3
  generalize w.heap.size = s at *
  (repeat' (first | (go_big_may; fail) | go_values | go_skip | go_guarded | go_step | go_upon | go_back | dsimp only))
  (try simp only [Exit.inBlock, Exit.then])
  refine bodyPost_ret (results_cell_row rfl _ _ (s + 1) tAns #[.int .i64 (createP S).2.1, .int .i64 (createP S).2.2, .string ⟨([]).toArray⟩, .slice none 0 0] (0, 0) _ rfl ?_ Tryd.underlying43 rfl (by kernel_rfl)) rfl ?_
  · have := E4.out
    simp [World.setCell, Array.getElem?_modify, this]
  · refine ⟨_, rfl, ?_⟩
    exact (H4.out.third.lose3 ((RefT.stable _ _).both HRR.out) (by repeat' (first | with_reducible exact Upd.refl _ _ | (with_reducible refine Upd.setCell ?_ (.inl (by simp)) _)))).noRow ((RefT.stable _ _).both HRR.out)

set_option maxRecDepth 100000 in
set_option maxHeartbeats 3200000 in
theorem says2 {W w : World} {b : Nat} {S : St} {R : Thing} (h : At W w (Both (RefT b S) R)) (hR : Stable R) (hG : GoodS S) {o : OpD} (ho : OpOk W o) (hk : o.k = 2) :
    Calls Tryd.prog 23 #[.pointer (some ⟨b, 0, none⟩), opV o] w fun e w' => ∃ v, e = .returned (ansV (⟨0, (appendP S o.run (cat o.parts)).2, [], []⟩ : AnsD) v) ∧ At W w' (Both (RowT v (⟨0, (appendP S o.run (cat o.parts)).2, [], []⟩ : AnsD).list) (Both (RefT b (appendP S o.run (cat o.parts)).1) R)) := by
  have hst := (RefT.stable b S).both hR
  have h3 := (h.three hst o).fourth
  have HR3 := Lib.hid (three_stable hR (w.heap.size + 2) (w.heap.size + 1) w.heap.size zeroAns zeroAns (opCells o) tAns tAns tOp)
  have H3 := Lib.hid h3
  have HRR := Lib.hid hR
  have HG := Lib.hid hG
  have HO := Lib.hid ho
  clear h hst h3 hR hG ho
  obtain ⟨k, run, pos, n, v, parts⟩ := o
  dsimp only at hk ⊢
  subst hk
  go_enter Tryd.func23, Tryd.ntmps23
  (repeat' (first | (go_big_may; fail) | go_values | go_skip | go_guarded | go_step | go_upon | go_back | dsimp only))
  refine (rAppend_at H3.out HR3.out HG.out HO.out.run HO.out.row HO.out.len).mono ?_
  rintro e w1 ⟨rfl, h4⟩
  have hb1 := h4.below
  have e5 := h4.drop.cell
  have e4 := h4.drop.drop.cell
  have eb := h4.drop.drop.drop.cell
  have a0 := cell_of e5.1 0; have a1 := cell_of e5.1 1; have a2 := cell_of e5.1 2; have a3 := cell_of e5.1 3
  have f0 := thaw_of e5.1
  have g0 := thaw_of e4.1
  have d0 := cell_of e4.1 0; have d1 := cell_of e4.1 1; have d2 := cell_of e4.1 2; have d3 := cell_of e4.1 3
  simp only [List.getElem?_toArray, List.getElem?_cons_zero, List.getElem?_cons_succ] at a0 a1 a2 a3 d0 d1 d2 d3
  have H4 := Lib.hid h4
  have HB1 := Lib.hid hb1
  have HW := Lib.hid e5.2
  have E4 := Lib.hid e4.1
  clear h4 hb1 e5 e4 eb H3 HR3
  generalize w.heap.size = s at *
  (repeat' (first | (go_big_may; fail) | go_values | go_skip | go_guarded | go_step | go_upon | go_back | dsimp only))
  (try simp only [Exit.inBlock, Exit.then])
  refine bodyPost_ret (results_cell_row rfl _ _ (s + 1) tAns #[.int .i64 0, .int .i64 (appendP S run (cat parts)).2, .string ⟨([]).toArray⟩, .slice none 0 0] (0, 0) _ rfl ?_ Tryd.underlying43 rfl (by kernel_rfl)) rfl ?_
  · have := E4.out
    simp [World.setCell, Array.getElem?_modify, this]
  · refine ⟨_, rfl, ?_⟩
    exact (H4.out.third.lose3 ((RefT.stable _ _).both HRR.out) (by repeat' (first | with_reducible exact Upd.refl _ _ | (with_reducible refine Upd.setCell ?_ (.inl (by simp)) _)))).noRow ((RefT.stable _ _).both HRR.out)

set_option maxRecDepth 100000 in
set_option maxHeartbeats 3200000 in
theorem says3 {W w : World} {b : Nat} {S : St} {R : Thing} (h : At W w (Both (RefT b S) R)) (hR : Stable R) (hG : GoodS S) {o : OpD} (ho : OpOk W o) (hk : o.k = 3) :
    Calls Tryd.prog 23 #[.pointer (some ⟨b, 0, none⟩), opV o] w fun e w' => ∃ v, e = .returned (ansV (⟨0, (sealP S o.run).2, [], []⟩ : AnsD) v) ∧ At W w' (Both (RowT v (⟨0, (sealP S o.run).2, [], []⟩ : AnsD).list) (Both (RefT b (sealP S o.run).1) R)) := by
  have hst := (RefT.stable b S).both hR
  have h3 := (h.three hst o).fourth
  have HR3 := Lib.hid (three_stable hR (w.heap.size + 2) (w.heap.size + 1) w.heap.size zeroAns zeroAns (opCells o) tAns tAns tOp)
  have H3 := Lib.hid h3
  have HRR := Lib.hid hR
  have HG := Lib.hid hG
  have HO := Lib.hid ho
  clear h hst h3 hR hG ho
  obtain ⟨k, run, pos, n, v, parts⟩ := o
  dsimp only at hk ⊢
  subst hk
  go_enter Tryd.func23, Tryd.ntmps23
  (repeat' (first | (go_big_may; fail) | go_values | go_skip | go_guarded | go_step | go_upon | go_back | dsimp only))
  refine (rSeal_at H3.out HR3.out HG.out HO.out.run).mono ?_
  rintro e w1 ⟨rfl, h4⟩
  have hb1 := h4.below
  have e5 := h4.drop.cell
  have e4 := h4.drop.drop.cell
  have eb := h4.drop.drop.drop.cell
  have a0 := cell_of e5.1 0; have a1 := cell_of e5.1 1; have a2 := cell_of e5.1 2; have a3 := cell_of e5.1 3
  have f0 := thaw_of e5.1
  have g0 := thaw_of e4.1
  have d0 := cell_of e4.1 0; have d1 := cell_of e4.1 1; have d2 := cell_of e4.1 2; have d3 := cell_of e4.1 3
  simp only [List.getElem?_toArray, List.getElem?_cons_zero, List.getElem?_cons_succ] at a0 a1 a2 a3 d0 d1 d2 d3
  have H4 := Lib.hid h4
  have HB1 := Lib.hid hb1
  have HW := Lib.hid e5.2
  have E4 := Lib.hid e4.1
  clear h4 hb1 e5 e4 eb H3 HR3
  generalize w.heap.size = s at *
  (repeat' (first | (go_big_may; fail) | go_values | go_skip | go_guarded | go_step | go_upon | go_back | dsimp only))
  (try simp only [Exit.inBlock, Exit.then])
  refine bodyPost_ret (results_cell_row rfl _ _ (s + 1) tAns #[.int .i64 0, .int .i64 (sealP S run).2, .string ⟨([]).toArray⟩, .slice none 0 0] (0, 0) _ rfl ?_ Tryd.underlying43 rfl (by kernel_rfl)) rfl ?_
  · have := E4.out
    simp [World.setCell, Array.getElem?_modify, this]
  · refine ⟨_, rfl, ?_⟩
    exact (H4.out.third.lose3 ((RefT.stable _ _).both HRR.out) (by repeat' (first | with_reducible exact Upd.refl _ _ | (with_reducible refine Upd.setCell ?_ (.inl (by simp)) _)))).noRow ((RefT.stable _ _).both HRR.out)

set_option maxRecDepth 100000 in
set_option maxHeartbeats 3200000 in
theorem says4 {W w : World} {b : Nat} {S : St} {R : Thing} (h : At W w (Both (RefT b S) R)) (hR : Stable R) (hG : GoodS S) {o : OpD} (ho : OpOk W o) (hk : o.k = 4) :
    Calls Tryd.prog 23 #[.pointer (some ⟨b, 0, none⟩), opV o] w fun e w' => ∃ v, e = .returned (ansV (⟨0, (readC S o.run o.pos o.n), (readT S o.run o.pos o.n), []⟩ : AnsD) v) ∧ At W w' (Both (RowT v (⟨0, (readC S o.run o.pos o.n), (readT S o.run o.pos o.n), []⟩ : AnsD).list) (Both (RefT b S) R)) := by
  have hst := (RefT.stable b S).both hR
  have h3 := (h.three hst o).fourth
  have HR3 := Lib.hid (three_stable hR (w.heap.size + 2) (w.heap.size + 1) w.heap.size zeroAns zeroAns (opCells o) tAns tAns tOp)
  have H3 := Lib.hid h3
  have HRR := Lib.hid hR
  have HG := Lib.hid hG
  have HO := Lib.hid ho
  clear h hst h3 hR hG ho
  obtain ⟨k, run, pos, n, v, parts⟩ := o
  dsimp only at hk ⊢
  subst hk
  go_enter Tryd.func23, Tryd.ntmps23
  (repeat' (first | (go_big_may; fail) | go_values | go_skip | go_guarded | go_step | go_upon | go_back | dsimp only))
  refine (rRead_at H3.out HG.out HO.out.run HO.out.pos HO.out.n).mono ?_
  rintro e w1 ⟨rfl, hw1⟩
  have h4 := H3.out
  rw [hw1] at h4
  clear hw1
  have hb1 := h4.below
  have e5 := h4.drop.cell
  have e4 := h4.drop.drop.cell
  have eb := h4.drop.drop.drop.cell
  have a0 := cell_of e5.1 0; have a1 := cell_of e5.1 1; have a2 := cell_of e5.1 2; have a3 := cell_of e5.1 3
  have f0 := thaw_of e5.1
  have g0 := thaw_of e4.1
  have d0 := cell_of e4.1 0; have d1 := cell_of e4.1 1; have d2 := cell_of e4.1 2; have d3 := cell_of e4.1 3
  simp only [List.getElem?_toArray, List.getElem?_cons_zero, List.getElem?_cons_succ] at a0 a1 a2 a3 d0 d1 d2 d3
  have H4 := Lib.hid h4
  have HB1 := Lib.hid hb1
  have HW := Lib.hid e5.2
  have E4 := Lib.hid e4.1
  clear h4 hb1 e5 e4 eb H3 HR3
  generalize w.heap.size = s at *
  (repeat' (first | (go_big_may; fail) | go_values | go_skip | go_guarded | go_step | go_upon | go_back | dsimp only))
  (try simp only [Exit.inBlock, Exit.then])
  refine bodyPost_ret (results_cell_row rfl _ _ (s + 1) tAns #[.int .i64 0, .int .i64 (readC S run pos n), .string ⟨((readT S run pos n)).toArray⟩, .slice none 0 0] (0, 0) _ rfl ?_ Tryd.underlying43 rfl (by kernel_rfl)) rfl ?_
  · have := E4.out
    simp [World.setCell, Array.getElem?_modify, this]
  · refine ⟨_, rfl, ?_⟩
    exact (H4.out.third.lose3 ((RefT.stable _ _).both HRR.out) (by repeat' (first | with_reducible exact Upd.refl _ _ | (with_reducible refine Upd.setCell ?_ (.inl (by simp)) _)))).noRow ((RefT.stable _ _).both HRR.out)

set_option maxRecDepth 100000 in
set_option maxHeartbeats 3200000 in
theorem says5 {W w : World} {b : Nat} {S : St} {R : Thing} (h : At W w (Both (RefT b S) R)) (hR : Stable R) (hG : GoodS S) {o : OpD} (ho : OpOk W o) (hk : o.k = 5) :
    Calls Tryd.prog 23 #[.pointer (some ⟨b, 0, none⟩), opV o] w fun e w' => ∃ v, e = .returned (ansV (⟨(sizeN S o.run), (sizeC S o.run), [], []⟩ : AnsD) v) ∧ At W w' (Both (RowT v (⟨(sizeN S o.run), (sizeC S o.run), [], []⟩ : AnsD).list) (Both (RefT b S) R)) := by
  have hst := (RefT.stable b S).both hR
  have h3 := (h.three hst o).fourth
  have HR3 := Lib.hid (three_stable hR (w.heap.size + 2) (w.heap.size + 1) w.heap.size zeroAns zeroAns (opCells o) tAns tAns tOp)
  have H3 := Lib.hid h3
  have HRR := Lib.hid hR
  have HG := Lib.hid hG
  have HO := Lib.hid ho
  clear h hst h3 hR hG ho
  obtain ⟨k, run, pos, n, v, parts⟩ := o
  dsimp only at hk ⊢
  subst hk
  go_enter Tryd.func23, Tryd.ntmps23
  (repeat' (first | (go_big_may; fail) | go_values | go_skip | go_guarded | go_step | go_upon | go_back | dsimp only))
  refine (rSize_at H3.out HG.out HO.out.run).mono ?_
  rintro e w1 ⟨rfl, hw1⟩
  have h4 := H3.out
  rw [hw1] at h4
  clear hw1
  have hb1 := h4.below
  have e5 := h4.drop.cell
  have e4 := h4.drop.drop.cell
  have eb := h4.drop.drop.drop.cell
  have a0 := cell_of e5.1 0; have a1 := cell_of e5.1 1; have a2 := cell_of e5.1 2; have a3 := cell_of e5.1 3
  have f0 := thaw_of e5.1
  have g0 := thaw_of e4.1
  have d0 := cell_of e4.1 0; have d1 := cell_of e4.1 1; have d2 := cell_of e4.1 2; have d3 := cell_of e4.1 3
  simp only [List.getElem?_toArray, List.getElem?_cons_zero, List.getElem?_cons_succ] at a0 a1 a2 a3 d0 d1 d2 d3
  have H4 := Lib.hid h4
  have HB1 := Lib.hid hb1
  have HW := Lib.hid e5.2
  have E4 := Lib.hid e4.1
  clear h4 hb1 e5 e4 eb H3 HR3
  generalize w.heap.size = s at *
  (repeat' (first | (go_big_may; fail) | go_values | go_skip | go_guarded | go_step | go_upon | go_back | dsimp only))
  (try simp only [Exit.inBlock, Exit.then])
  refine bodyPost_ret (results_cell_row rfl _ _ (s + 1) tAns #[.int .i64 (sizeN S run), .int .i64 (sizeC S run), .string ⟨([]).toArray⟩, .slice none 0 0] (0, 0) _ rfl ?_ Tryd.underlying43 rfl (by kernel_rfl)) rfl ?_
  · have := E4.out
    simp [World.setCell, Array.getElem?_modify, this]
  · refine ⟨_, rfl, ?_⟩
    exact (H4.out.third.lose3 ((RefT.stable _ _).both HRR.out) (by repeat' (first | with_reducible exact Upd.refl _ _ | (with_reducible refine Upd.setCell ?_ (.inl (by simp)) _)))).noRow ((RefT.stable _ _).both HRR.out)

set_option maxRecDepth 100000 in
set_option maxHeartbeats 3200000 in
theorem says6 {W w : World} {b : Nat} {S : St} {R : Thing} (h : At W w (Both (RefT b S) R)) (hR : Stable R) (hG : GoodS S) {o : OpD} (ho : OpOk W o) (hk : o.k = 6) :
    Calls Tryd.prog 23 #[.pointer (some ⟨b, 0, none⟩), opV o] w fun e w' => ∃ v, e = .returned (ansV (⟨0, (removeP S o.run).2, [], []⟩ : AnsD) v) ∧ At W w' (Both (RowT v (⟨0, (removeP S o.run).2, [], []⟩ : AnsD).list) (Both (RefT b (removeP S o.run).1) R)) := by
  have hst := (RefT.stable b S).both hR
  have h3 := (h.three hst o).fourth
  have HR3 := Lib.hid (three_stable hR (w.heap.size + 2) (w.heap.size + 1) w.heap.size zeroAns zeroAns (opCells o) tAns tAns tOp)
  have H3 := Lib.hid h3
  have HRR := Lib.hid hR
  have HG := Lib.hid hG
  have HO := Lib.hid ho
  clear h hst h3 hR hG ho
  obtain ⟨k, run, pos, n, v, parts⟩ := o
  dsimp only at hk ⊢
  subst hk
  go_enter Tryd.func23, Tryd.ntmps23
  (repeat' (first | (go_big_may; fail) | go_values | go_skip | go_guarded | go_step | go_upon | go_back | dsimp only))
  refine (rRemove_at H3.out HR3.out HG.out HO.out.run).mono ?_
  rintro e w1 ⟨rfl, h4⟩
  have hb1 := h4.below
  have e5 := h4.drop.cell
  have e4 := h4.drop.drop.cell
  have eb := h4.drop.drop.drop.cell
  have a0 := cell_of e5.1 0; have a1 := cell_of e5.1 1; have a2 := cell_of e5.1 2; have a3 := cell_of e5.1 3
  have f0 := thaw_of e5.1
  have g0 := thaw_of e4.1
  have d0 := cell_of e4.1 0; have d1 := cell_of e4.1 1; have d2 := cell_of e4.1 2; have d3 := cell_of e4.1 3
  simp only [List.getElem?_toArray, List.getElem?_cons_zero, List.getElem?_cons_succ] at a0 a1 a2 a3 d0 d1 d2 d3
  have H4 := Lib.hid h4
  have HB1 := Lib.hid hb1
  have HW := Lib.hid e5.2
  have E4 := Lib.hid e4.1
  clear h4 hb1 e5 e4 eb H3 HR3
  generalize w.heap.size = s at *
  (repeat' (first | (go_big_may; fail) | go_values | go_skip | go_guarded | go_step | go_upon | go_back | dsimp only))
  (try simp only [Exit.inBlock, Exit.then])
  refine bodyPost_ret (results_cell_row rfl _ _ (s + 1) tAns #[.int .i64 0, .int .i64 (removeP S run).2, .string ⟨([]).toArray⟩, .slice none 0 0] (0, 0) _ rfl ?_ Tryd.underlying43 rfl (by kernel_rfl)) rfl ?_
  · have := E4.out
    simp [World.setCell, Array.getElem?_modify, this]
  · refine ⟨_, rfl, ?_⟩
    exact (H4.out.third.lose3 ((RefT.stable _ _).both HRR.out) (by repeat' (first | with_reducible exact Upd.refl _ _ | (with_reducible refine Upd.setCell ?_ (.inl (by simp)) _)))).noRow ((RefT.stable _ _).both HRR.out)

set_option maxRecDepth 100000 in
set_option maxHeartbeats 3200000 in
theorem says7 {W w : World} {b : Nat} {S : St} {R : Thing} (h : At W w (Both (RefT b S) R)) (hR : Stable R) (hG : GoodS S) {o : OpD} (ho : OpOk W o) (hk : o.k = 7) :
    Calls Tryd.prog 23 #[.pointer (some ⟨b, 0, none⟩), opV o] w fun e w' => ∃ v, e = .returned (ansV (⟨0, 0, [], S.keys⟩ : AnsD) v) ∧ At W w' (Both (RowT v (⟨0, 0, [], S.keys⟩ : AnsD).list) (Both (RefT b S) R)) := by
  have hst := (RefT.stable b S).both hR
  have h3 := (h.three hst o).fourth
  have HR3 := Lib.hid (three_stable hR (w.heap.size + 2) (w.heap.size + 1) w.heap.size zeroAns zeroAns (opCells o) tAns tAns tOp)
  have H3 := Lib.hid h3
  have HRR := Lib.hid hR
  have HG := Lib.hid hG
  have HO := Lib.hid ho
  clear h hst h3 hR hG ho
  obtain ⟨k, run, pos, n, v, parts⟩ := o
  dsimp only at hk ⊢
  subst hk
  go_enter Tryd.func23, Tryd.ntmps23
  (repeat' (first | (go_big_may; fail) | go_values | go_skip | go_guarded | go_step | go_upon | go_back | dsimp only))
  refine (rLive_at H3.out HR3.out HG.out).mono ?_
  rintro e w1 ⟨vl, rfl, h4⟩
  obtain ⟨aol, capl, hvl, _, _⟩ := own_shape h4.row
  subst hvl
  have h4 : At W w1 (Both (RefT b S) (Both (CellT (w.heap.size + 2) zeroAns tAns) (Both (CellT (w.heap.size + 1) zeroAns tAns) (Both (CellT w.heap.size (opCells ⟨7, run, pos, n, v, parts⟩) tOp) (Both (RowT (.slice aol S.keys.length capl) S.keys) R))))) := by
    obtain ⟨h5, fp, h6, h7⟩ := h4.swap
    exact ⟨h5, fp, Both.mono (fun w fp h => Both.mono (fun w fp h => Both.mono (fun w fp h => h.assoc) h.assoc) h.assoc) h6, h7⟩
  have hb1 := h4.below
  have e5 := h4.drop.cell
  have e4 := h4.drop.drop.cell
  have eb := h4.drop.drop.drop.cell
  have a0 := cell_of e5.1 0; have a1 := cell_of e5.1 1; have a2 := cell_of e5.1 2; have a3 := cell_of e5.1 3
  have f0 := thaw_of e5.1
  have g0 := thaw_of e4.1
  have d0 := cell_of e4.1 0; have d1 := cell_of e4.1 1; have d2 := cell_of e4.1 2; have d3 := cell_of e4.1 3
  simp only [List.getElem?_toArray, List.getElem?_cons_zero, List.getElem?_cons_succ] at a0 a1 a2 a3 d0 d1 d2 d3
  have H4 := Lib.hid h4
  have HB1 := Lib.hid hb1
  have HW := Lib.hid e5.2
  have E4 := Lib.hid e4.1
  clear h4 hb1 e5 e4 eb H3 HR3
  generalize w.heap.size = s at *
  (repeat' (first | (go_big_may; fail) | go_values | go_skip | go_guarded | go_step | go_upon | go_back | dsimp only))
  (try simp only [Exit.inBlock, Exit.then])
  refine bodyPost_ret (results_cell_row rfl _ _ (s + 1) tAns #[.int .i64 0, .int .i64 0, .string ⟨([]).toArray⟩, .slice aol S.keys.length capl] (0, 0) _ rfl ?_ Tryd.underlying43 rfl (by kernel_rfl)) rfl ?_
  · have := E4.out
    simp [World.setCell, Array.getElem?_modify, this]
  · refine ⟨_, rfl, ?_⟩
    exact (H4.out.third.lose3 ((RefT.stable _ _).both ((RowT.stable _ _).both HRR.out)) (by repeat' (first | with_reducible exact Upd.refl _ _ | (with_reducible refine Upd.setCell ?_ (.inl (by simp)) _)))).swap

set_option maxRecDepth 100000 in
set_option maxHeartbeats 3200000 in
theorem says8 {W w : World} {b : Nat} {S : St} {R : Thing} (h : At W w (Both (RefT b S) R)) (hR : Stable R) (hG : GoodS S) {o : OpD} (ho : OpOk W o) (hk : o.k = 8) :
    Calls Tryd.prog 23 #[.pointer (some ⟨b, 0, none⟩), opV o] w fun e w' => ∃ v, e = .returned (ansV (⟨S.used, 0, [], []⟩ : AnsD) v) ∧ At W w' (Both (RowT v (⟨S.used, 0, [], []⟩ : AnsD).list) (Both (RefT b S) R)) := by
  have hst := (RefT.stable b S).both hR
  have h3 := (h.three hst o).fourth
  have HR3 := Lib.hid (three_stable hR (w.heap.size + 2) (w.heap.size + 1) w.heap.size zeroAns zeroAns (opCells o) tAns tAns tOp)
  have H3 := Lib.hid h3
  have HRR := Lib.hid hR
  have HG := Lib.hid hG
  have HO := Lib.hid ho
  clear h hst h3 hR hG ho
  obtain ⟨k, run, pos, n, v, parts⟩ := o
  dsimp only at hk ⊢
  subst hk
  go_enter Tryd.func23, Tryd.ntmps23
  (repeat' (first | (go_big_may; fail) | go_values | go_skip | go_guarded | go_step | go_upon | go_back | dsimp only))
  refine (rUsed_at H3.out HG.out).mono ?_
  rintro e w1 ⟨rfl, hw1⟩
  have h4 := H3.out
  rw [hw1] at h4
  clear hw1
  have hb1 := h4.below
  have e5 := h4.drop.cell
  have e4 := h4.drop.drop.cell
  have eb := h4.drop.drop.drop.cell
  have a0 := cell_of e5.1 0; have a1 := cell_of e5.1 1; have a2 := cell_of e5.1 2; have a3 := cell_of e5.1 3
  have f0 := thaw_of e5.1
  have g0 := thaw_of e4.1
  have d0 := cell_of e4.1 0; have d1 := cell_of e4.1 1; have d2 := cell_of e4.1 2; have d3 := cell_of e4.1 3
  simp only [List.getElem?_toArray, List.getElem?_cons_zero, List.getElem?_cons_succ] at a0 a1 a2 a3 d0 d1 d2 d3
  have H4 := Lib.hid h4
  have HB1 := Lib.hid hb1
  have HW := Lib.hid e5.2
  have E4 := Lib.hid e4.1
  clear h4 hb1 e5 e4 eb H3 HR3
  generalize w.heap.size = s at *
  (repeat' (first | (go_big_may; fail) | go_values | go_skip | go_guarded | go_step | go_upon | go_back | dsimp only))
  (try simp only [Exit.inBlock, Exit.then])
  refine bodyPost_ret (results_cell_row rfl _ _ (s + 1) tAns #[.int .i64 S.used, .int .i64 0, .string ⟨([]).toArray⟩, .slice none 0 0] (0, 0) _ rfl ?_ Tryd.underlying43 rfl (by kernel_rfl)) rfl ?_
  · have := E4.out
    simp [World.setCell, Array.getElem?_modify, this]
  · refine ⟨_, rfl, ?_⟩
    exact (H4.out.third.lose3 ((RefT.stable _ _).both HRR.out) (by repeat' (first | with_reducible exact Upd.refl _ _ | (with_reducible refine Upd.setCell ?_ (.inl (by simp)) _)))).noRow ((RefT.stable _ _).both HRR.out)

set_option maxRecDepth 100000 in
set_option maxHeartbeats 3200000 in
theorem says9 {W w : World} {b : Nat} {S : St} {R : Thing} (h : At W w (Both (RefT b S) R)) (hR : Stable R) (hG : GoodS S) {o : OpD} (ho : OpOk W o) (hk : o.k = 9) :
    Calls Tryd.prog 23 #[.pointer (some ⟨b, 0, none⟩), opV o] w fun e w' => ∃ v, e = .returned (ansV (⟨S.peak, 0, [], []⟩ : AnsD) v) ∧ At W w' (Both (RowT v (⟨S.peak, 0, [], []⟩ : AnsD).list) (Both (RefT b S) R)) := by
  have hst := (RefT.stable b S).both hR
  have h3 := (h.three hst o).fourth
  have HR3 := Lib.hid (three_stable hR (w.heap.size + 2) (w.heap.size + 1) w.heap.size zeroAns zeroAns (opCells o) tAns tAns tOp)
  have H3 := Lib.hid h3
  have HRR := Lib.hid hR
  have HG := Lib.hid hG
  have HO := Lib.hid ho
  clear h hst h3 hR hG ho
  obtain ⟨k, run, pos, n, v, parts⟩ := o
  dsimp only at hk ⊢
  subst hk
  go_enter Tryd.func23, Tryd.ntmps23
  have h4 := H3.out
  obtain ⟨w1, hw1⟩ : ∃ w1, w1 = (((w.alloc (.cells (opCells ⟨9, run, pos, n, v, parts⟩) tOp)).alloc (.cells zeroAns tAns)).alloc (.cells zeroAns tAns)) := ⟨_, rfl⟩
  rw [← hw1] at h4
  go_upto_region 20 with (fail)
  rw [← hw1]
  clear hw1
  obtain ⟨r1, r2⟩ := h4.refC
  have rf := World.block_lt_of_cell? _ _ r1
  have hb1 := h4.below
  have e5 := h4.drop.cell
  have e4 := h4.drop.drop.cell
  have eb := h4.drop.drop.drop.cell
  have a0 := cell_of e5.1 0; have a1 := cell_of e5.1 1; have a2 := cell_of e5.1 2; have a3 := cell_of e5.1 3
  have f0 := thaw_of e5.1
  have g0 := thaw_of e4.1
  have d0 := cell_of e4.1 0; have d1 := cell_of e4.1 1; have d2 := cell_of e4.1 2; have d3 := cell_of e4.1 3
  simp only [List.getElem?_toArray, List.getElem?_cons_zero, List.getElem?_cons_succ] at a0 a1 a2 a3 d0 d1 d2 d3
  have H4 := Lib.hid h4
  have HB1 := Lib.hid hb1
  have HW := Lib.hid e5.2
  have E4 := Lib.hid e4.1
  clear h4 hb1 e5 e4 eb H3 HR3
  generalize w.heap.size = s at *
  (repeat' (first | (go_big_may; fail) | go_values | go_skip | go_guarded | go_step | go_upon | go_back | dsimp only))
  (try simp only [Exit.inBlock, Exit.then])
  refine bodyPost_ret (results_cell_row rfl _ _ (s + 1) tAns #[.int .i64 S.peak, .int .i64 0, .string ⟨([]).toArray⟩, .slice none 0 0] (0, 0) _ rfl ?_ Tryd.underlying43 rfl (by kernel_rfl)) rfl ?_
  · have := E4.out
    simp [World.setCell, Array.getElem?_modify, this]
  · refine ⟨_, rfl, ?_⟩
    exact (H4.out.third.lose3 ((RefT.stable _ _).both HRR.out) (by repeat' (first | with_reducible exact Upd.refl _ _ | (with_reducible refine Upd.setCell ?_ (.inl (by simp)) _)))).noRow ((RefT.stable _ _).both HRR.out)

set_option maxRecDepth 100000 in
set_option maxHeartbeats 3200000 in
theorem says10 {W w : World} {b : Nat} {S : St} {R : Thing} (h : At W w (Both (RefT b S) R)) (hR : Stable R) (hG : GoodS S) {o : OpD} (ho : OpOk W o) (hk : o.k = 10) :
    Calls Tryd.prog 23 #[.pointer (some ⟨b, 0, none⟩), opV o] w fun e w' => ∃ v, e = .returned (ansV (⟨S.made, 0, [], []⟩ : AnsD) v) ∧ At W w' (Both (RowT v (⟨S.made, 0, [], []⟩ : AnsD).list) (Both (RefT b S) R)) := by
  have hst := (RefT.stable b S).both hR
  have h3 := (h.three hst o).fourth
  have HR3 := Lib.hid (three_stable hR (w.heap.size + 2) (w.heap.size + 1) w.heap.size zeroAns zeroAns (opCells o) tAns tAns tOp)
  have H3 := Lib.hid h3
  have HRR := Lib.hid hR
  have HG := Lib.hid hG
  have HO := Lib.hid ho
  clear h hst h3 hR hG ho
  obtain ⟨k, run, pos, n, v, parts⟩ := o
  dsimp only at hk ⊢
  subst hk
  go_enter Tryd.func23, Tryd.ntmps23
  have h4 := H3.out
  obtain ⟨w1, hw1⟩ : ∃ w1, w1 = (((w.alloc (.cells (opCells ⟨10, run, pos, n, v, parts⟩) tOp)).alloc (.cells zeroAns tAns)).alloc (.cells zeroAns tAns)) := ⟨_, rfl⟩
  rw [← hw1] at h4
  go_upto_region 22 with (fail)
  rw [← hw1]
  clear hw1
  obtain ⟨r1, r2⟩ := h4.refC
  have rf := World.block_lt_of_cell? _ _ r1
  have hb1 := h4.below
  have e5 := h4.drop.cell
  have e4 := h4.drop.drop.cell
  have eb := h4.drop.drop.drop.cell
  have a0 := cell_of e5.1 0; have a1 := cell_of e5.1 1; have a2 := cell_of e5.1 2; have a3 := cell_of e5.1 3
  have f0 := thaw_of e5.1
  have g0 := thaw_of e4.1
  have d0 := cell_of e4.1 0; have d1 := cell_of e4.1 1; have d2 := cell_of e4.1 2; have d3 := cell_of e4.1 3
  simp only [List.getElem?_toArray, List.getElem?_cons_zero, List.getElem?_cons_succ] at a0 a1 a2 a3 d0 d1 d2 d3
  have H4 := Lib.hid h4
  have HB1 := Lib.hid hb1
  have HW := Lib.hid e5.2
  have E4 := Lib.hid e4.1
  clear h4 hb1 e5 e4 eb H3 HR3
  generalize w.heap.size = s at *
  (repeat' (first | (go_big_may; fail) | go_values | go_skip | go_guarded | go_step | go_upon | go_back | dsimp only))
  (try simp only [Exit.inBlock, Exit.then])
  refine bodyPost_ret (results_cell_row rfl _ _ (s + 1) tAns #[.int .i64 S.made, .int .i64 0, .string ⟨([]).toArray⟩, .slice none 0 0] (0, 0) _ rfl ?_ Tryd.underlying43 rfl (by kernel_rfl)) rfl ?_
  · have := E4.out
    simp [World.setCell, Array.getElem?_modify, this]
  · refine ⟨_, rfl, ?_⟩
    exact (H4.out.third.lose3 ((RefT.stable _ _).both HRR.out) (by repeat' (first | with_reducible exact Upd.refl _ _ | (with_reducible refine Upd.setCell ?_ (.inl (by simp)) _)))).noRow ((RefT.stable _ _).both HRR.out)

set_option maxRecDepth 100000 in
set_option maxHeartbeats 3200000 in
theorem says11 {W w : World} {b : Nat} {S : St} {R : Thing} (h : At W w (Both (RefT b S) R)) (hR : Stable R) (hG : GoodS S) {o : OpD} (ho : OpOk W o) (hk : o.k = 11) :
    Calls Tryd.prog 23 #[.pointer (some ⟨b, 0, none⟩), opV o] w fun e w' => ∃ v, e = .returned (ansV (⟨0, 0, [], []⟩ : AnsD) v) ∧ At W w' (Both (RowT v (⟨0, 0, [], []⟩ : AnsD).list) (Both (RefT b (breakS S o.n)) R)) := by
  have hst := (RefT.stable b S).both hR
  have h3 := (h.three hst o).fourth
  have HR3 := Lib.hid (three_stable hR (w.heap.size + 2) (w.heap.size + 1) w.heap.size zeroAns zeroAns (opCells o) tAns tAns tOp)
  have H3 := Lib.hid h3
  have HRR := Lib.hid hR
  have HG := Lib.hid hG
  have HO := Lib.hid ho
  clear h hst h3 hR hG ho
  obtain ⟨k, run, pos, n, v, parts⟩ := o
  dsimp only at hk ⊢
  subst hk
  go_enter Tryd.func23, Tryd.ntmps23
  (repeat' (first | (go_big_may; fail) | go_values | go_skip | go_guarded | go_step | go_upon | go_back | dsimp only))
  refine (rBreak_at H3.out HR3.out HO.out.n).mono ?_
  rintro e w1 ⟨rfl, h4⟩
  have hb1 := h4.below
  have e5 := h4.drop.cell
  have e4 := h4.drop.drop.cell
  have eb := h4.drop.drop.drop.cell
  have a0 := cell_of e5.1 0; have a1 := cell_of e5.1 1; have a2 := cell_of e5.1 2; have a3 := cell_of e5.1 3
  have f0 := thaw_of e5.1
  have g0 := thaw_of e4.1
  have d0 := cell_of e4.1 0; have d1 := cell_of e4.1 1; have d2 := cell_of e4.1 2; have d3 := cell_of e4.1 3
  simp only [List.getElem?_toArray, List.getElem?_cons_zero, List.getElem?_cons_succ] at a0 a1 a2 a3 d0 d1 d2 d3
  have H4 := Lib.hid h4
  have HB1 := Lib.hid hb1
  have HW := Lib.hid e5.2
  have E4 := Lib.hid e4.1
  clear h4 hb1 e5 e4 eb H3 HR3
  generalize w.heap.size = s at *
  (repeat' (first | (go_big_may; fail) | go_values | go_skip | go_guarded | go_step | go_upon | go_back | dsimp only))
  (try simp only [Exit.inBlock, Exit.then])
  refine bodyPost_ret (results_cell_row rfl _ _ (s + 1) tAns #[.int .i64 0, .int .i64 0, .string ⟨([]).toArray⟩, .slice none 0 0] (0, 0) _ rfl ?_ Tryd.underlying43 rfl (by kernel_rfl)) rfl ?_
  · have := E4.out
    simp [World.setCell, Array.getElem?_modify, this]
  · refine ⟨_, rfl, ?_⟩
    exact (H4.out.third.lose3 ((RefT.stable _ _).both HRR.out) (by repeat' (first | with_reducible exact Upd.refl _ _ | (with_reducible refine Upd.setCell ?_ (.inl (by simp)) _)))).noRow ((RefT.stable _ _).both HRR.out)

set_option maxRecDepth 100000 in
set_option maxHeartbeats 3200000 in
theorem says12 {W w : World} {b : Nat} {S : St} {R : Thing} (h : At W w (Both (RefT b S) R)) (hR : Stable R) (hG : GoodS S) {o : OpD} (ho : OpOk W o) (hk : o.k ≠ 1 ∧ o.k ≠ 2 ∧ o.k ≠ 3 ∧ o.k ≠ 4 ∧ o.k ≠ 5 ∧ o.k ≠ 6 ∧ o.k ≠ 7 ∧ o.k ≠ 8 ∧ o.k ≠ 9 ∧ o.k ≠ 10 ∧ o.k ≠ 11) :
    Calls Tryd.prog 23 #[.pointer (some ⟨b, 0, none⟩), opV o] w fun e w' => ∃ v, e = .returned (ansV (⟨0, 0, [], []⟩ : AnsD) v) ∧ At W w' (Both (RowT v (⟨0, 0, [], []⟩ : AnsD).list) (Both (RefT b S) R)) := by
  have hst := (RefT.stable b S).both hR
  have h3 := (h.three hst o).fourth
  have HR3 := Lib.hid (three_stable hR (w.heap.size + 2) (w.heap.size + 1) w.heap.size zeroAns zeroAns (opCells o) tAns tAns tOp)
  have H3 := Lib.hid h3
  have HRR := Lib.hid hR
  have HG := Lib.hid hG
  have HO := Lib.hid ho
  clear h hst h3 hR hG ho
  obtain ⟨k, run, pos, n, v, parts⟩ := o
  dsimp only at hk ⊢
  obtain ⟨n1, n2, n3, n4, n5, n6, n7, n8, n9, n10, n11⟩ := hk
  have m1 : (k == 1) = false := by simpa using n1
  have m2 : (k == 2) = false := by simpa using n2
  have m3 : (k == 3) = false := by simpa using n3
  have m4 : (k == 4) = false := by simpa using n4
  have m5 : (k == 5) = false := by simpa using n5
  have m6 : (k == 6) = false := by simpa using n6
  have m7 : (k == 7) = false := by simpa using n7
  have m8 : (k == 8) = false := by simpa using n8
  have m9 : (k == 9) = false := by simpa using n9
  have m10 : (k == 10) = false := by simpa using n10
  have m11 : (k == 11) = false := by simpa using n11
  clear n1 n2 n3 n4 n5 n6 n7 n8 n9 n10 n11
  go_enter Tryd.func23, Tryd.ntmps23
  have h4 := H3.out
  obtain ⟨w1, hw1⟩ : ∃ w1, w1 = (((w.alloc (.cells (opCells ⟨k, run, pos, n, v, parts⟩) tOp)).alloc (.cells zeroAns tAns)).alloc (.cells zeroAns tAns)) := ⟨_, rfl⟩
  rw [← hw1] at h4
  go_upto_region 25 with (fail)
  rw [← hw1]
  clear hw1
  obtain ⟨r1, r2⟩ := h4.refC
  have rf := World.block_lt_of_cell? _ _ r1
  have hb1 := h4.below
  have e5 := h4.drop.cell
  have e4 := h4.drop.drop.cell
  have eb := h4.drop.drop.drop.cell
  have a0 := cell_of e5.1 0; have a1 := cell_of e5.1 1; have a2 := cell_of e5.1 2; have a3 := cell_of e5.1 3
  have f0 := thaw_of e5.1
  have g0 := thaw_of e4.1
  have d0 := cell_of e4.1 0; have d1 := cell_of e4.1 1; have d2 := cell_of e4.1 2; have d3 := cell_of e4.1 3
  simp only [List.getElem?_toArray, List.getElem?_cons_zero, List.getElem?_cons_succ] at a0 a1 a2 a3 d0 d1 d2 d3
  have H4 := Lib.hid h4
  have HB1 := Lib.hid hb1
  have HW := Lib.hid e5.2
  have E4 := Lib.hid e4.1
  clear h4 hb1 e5 e4 eb H3 HR3
  generalize w.heap.size = s at *
  (repeat' (first | (go_big_may; fail) | go_values | go_skip | go_guarded | go_step | go_upon | go_back | dsimp only))
  (try simp only [Exit.inBlock, Exit.then])
  refine bodyPost_ret (results_cell_row rfl _ _ (s + 1) tAns #[.int .i64 0, .int .i64 0, .string ⟨([]).toArray⟩, .slice none 0 0] (0, 0) _ rfl ?_ Tryd.underlying43 rfl (by kernel_rfl)) rfl ?_
  · have := E4.out
    simp [World.setCell, Array.getElem?_modify, this]
  · refine ⟨_, rfl, ?_⟩
    exact (H4.out.third.lose3 ((RefT.stable _ _).both HRR.out) (by repeat' (first | with_reducible exact Upd.refl _ _ | (with_reducible refine Upd.setCell ?_ (.inl (by simp)) _)))).noRow ((RefT.stable _ _).both HRR.out)

end Go.Proofs.YtomlkhfmblkpcaaDoor
