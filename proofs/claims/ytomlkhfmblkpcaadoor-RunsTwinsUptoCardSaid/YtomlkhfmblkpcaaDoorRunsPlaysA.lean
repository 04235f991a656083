/- runs: the law's own 'plays', walked, kind by kind (written by port/runsplays.py). · runs: the law's own 'plays' at Append, walked. -/
import Derived.Test.YtomlkhfmblkpcaaDoorRunsPlay
import Derived.Test.YtomlkhfmblkpcaaDoorAppendAt
import Derived.Test.YtomlkhfmblkpcaaDoorRunsWakes
namespace Go.Proofs.YtomlkhfmblkpcaaDoor
section
open Go.RowKit

set_option maxRecDepth 100000 in
set_option maxHeartbeats 3200000 in
theorem plays1 {W w : World} {b : Nat} {S : St} {R : Thing} (h : At W w (Both (StoreT b S) R)) (hR : Stable R) {ef : Nat → Nat × Nat} (hF : Fails W ef failsAll) (hG : GoodS S) {o : OpD} (ho : OpOk W o) (hk : o.k = 1) :
    Calls Tryd.prog 21 #[.pointer (some ⟨b, 0, none⟩), opV o] w fun e w' => ∃ v, e = .returned (ansV (⟨(createP S).2.1, (createP S).2.2, [], []⟩ : AnsD) v) ∧ At W w' (Both (RowT v (⟨(createP S).2.1, (createP S).2.2, [], []⟩ : AnsD).list) (Both (StoreT b (createP S).1) R)) := by
  have hst := (StoreT.stable b S).both hR
  have h3 := (h.three hst o).fourth
  have HR3 := Lib.hid (three_stable hR (w.heap.size + 2) (w.heap.size + 1) w.heap.size zeroAns zeroAns (opCells o) tAns tAns tOp)
  have H3 := Lib.hid h3
  have HF := Lib.hid hF
  have HRR := Lib.hid hR
  have HG := Lib.hid hG
  have HO := Lib.hid ho
  clear h hst h3 hF hR hG ho
  obtain ⟨k, run, pos, n, v, parts⟩ := o
  dsimp only at hk ⊢
  subst hk
  go_enter Tryd.func21, Tryd.ntmps21
  (repeat' (first | (go_big_may; fail) | go_values | go_skip | go_guarded | go_step | go_upon | go_back | dsimp only))
  refine (Create_at H3.out HR3.out HF.out).mono ?_
  rintro e w1 ⟨rfl, h4⟩
  have hb1 := h4.below
  have e5 := h4.drop.cell
  have e4 := h4.drop.drop.cell
  have eb := h4.drop.drop.drop.cell
  have a0 := cell_of e5.1 0; have a1 := cell_of e5.1 1; have a2 := cell_of e5.1 2; have a3 := cell_of e5.1 3
  have f0 := thaw_of e5.1
  have g0 := thaw_of e4.1
  have d0 := cell_of e4.1 0; have d1 := cell_of e4.1 1; have d2 := cell_of e4.1 2; have d3 := cell_of e4.1 3
  simp only [List.getElem?_toArray, List.getElem?_cons_zero, List.getElem?_cons_succ] at a0 a1 a2 a3 d0 d1 d2 d3
  have H4 := Lib.hid h4
  have HB1 := Lib.hid hb1
  have HW := Lib.hid e5.2
  have E4 := Lib.hid e4.1
  clear h4 hb1 e5 e4 eb H3 HR3
  generalize w.heap.size = s at *
  (repeat' (first | (go_big_may; fail) | go_values | go_skip | go_guarded | go_step | go_upon | go_back | dsimp only))
  refine (code_calls (ef := ef) (c := (createP S).2.2) (HF.out.below ?hb) (okC_create S).fails).mono ?_
  case hb => exact by (repeat' (first | with_reducible exact HB1.out | (with_reducible refine Below.setCell ?_ (by exact HW.out) _)))
  rintro e w2 ⟨rfl, rfl⟩
  (repeat' (first | (go_big_may; fail) | go_values | go_skip | go_guarded | go_step | go_upon | go_back | dsimp only))
  (try simp only [Exit.inBlock, Exit.then])
  refine bodyPost_ret (results_cell_row rfl _ _ (s + 1) tAns #[.int .i64 (createP S).2.1, .int .i64 (createP S).2.2, .string ⟨([]).toArray⟩, .slice none 0 0] (0, 0) _ rfl ?_ Tryd.underlying43 rfl (by kernel_rfl)) rfl ?_
  · have := E4.out
    simp [World.setCell, Array.getElem?_modify, this]
  · refine ⟨_, rfl, ?_⟩
    exact (H4.out.third.lose3 ((StoreT.stable _ _).both HRR.out) (by repeat' (first | with_reducible exact Upd.refl _ _ | (with_reducible refine Upd.setCell ?_ (.inl (by simp)) _)))).noRow ((StoreT.stable _ _).both HRR.out)

set_option maxRecDepth 100000 in
set_option maxHeartbeats 3200000 in
theorem plays3 {W w : World} {b : Nat} {S : St} {R : Thing} (h : At W w (Both (StoreT b S) R)) (hR : Stable R) {ef : Nat → Nat × Nat} (hF : Fails W ef failsAll) (hG : GoodS S) {o : OpD} (ho : OpOk W o) (hk : o.k = 3) :
    Calls Tryd.prog 21 #[.pointer (some ⟨b, 0, none⟩), opV o] w fun e w' => ∃ v, e = .returned (ansV (⟨0, (sealP S o.run).2, [], []⟩ : AnsD) v) ∧ At W w' (Both (RowT v (⟨0, (sealP S o.run).2, [], []⟩ : AnsD).list) (Both (StoreT b (sealP S o.run).1) R)) := by
  have hst := (StoreT.stable b S).both hR
  have h3 := (h.three hst o).fourth
  have HR3 := Lib.hid (three_stable hR (w.heap.size + 2) (w.heap.size + 1) w.heap.size zeroAns zeroAns (opCells o) tAns tAns tOp)
  have H3 := Lib.hid h3
  have HF := Lib.hid hF
  have HRR := Lib.hid hR
  have HG := Lib.hid hG
  have HO := Lib.hid ho
  clear h hst h3 hF hR hG ho
  obtain ⟨k, run, pos, n, v, parts⟩ := o
  dsimp only at hk ⊢
  subst hk
  go_enter Tryd.func21, Tryd.ntmps21
  (repeat' (first | (go_big_may; fail) | go_values | go_skip | go_guarded | go_step | go_upon | go_back | dsimp only))
  refine (Seal_at H3.out HR3.out HF.out HO.out.run).mono ?_
  rintro e w1 ⟨rfl, h4⟩
  have hb1 := h4.below
  have e5 := h4.drop.cell
  have e4 := h4.drop.drop.cell
  have eb := h4.drop.drop.drop.cell
  have a0 := cell_of e5.1 0; have a1 := cell_of e5.1 1; have a2 := cell_of e5.1 2; have a3 := cell_of e5.1 3
  have f0 := thaw_of e5.1
  have g0 := thaw_of e4.1
  have d0 := cell_of e4.1 0; have d1 := cell_of e4.1 1; have d2 := cell_of e4.1 2; have d3 := cell_of e4.1 3
  simp only [List.getElem?_toArray, List.getElem?_cons_zero, List.getElem?_cons_succ] at a0 a1 a2 a3 d0 d1 d2 d3
  have H4 := Lib.hid h4
  have HB1 := Lib.hid hb1
  have HW := Lib.hid e5.2
  have E4 := Lib.hid e4.1
  clear h4 hb1 e5 e4 eb H3 HR3
  generalize w.heap.size = s at *
  (repeat' (first | (go_big_may; fail) | go_values | go_skip | go_guarded | go_step | go_upon | go_back | dsimp only))
  refine (code_calls (ef := ef) (c := (sealP S run).2) (HF.out.below ?hb) (okC_seal S run).fails).mono ?_
  case hb => exact by (repeat' (first | with_reducible exact HB1.out | (with_reducible refine Below.setCell ?_ (by exact HW.out) _)))
  rintro e w2 ⟨rfl, rfl⟩
  (repeat' (first | (go_big_may; fail) | go_values | go_skip | go_guarded | go_step | go_upon | go_back | dsimp only))
  (try simp only [Exit.inBlock, Exit.then])
  refine bodyPost_ret (results_cell_row rfl _ _ (s + 1) tAns #[.int .i64 0, .int .i64 (sealP S run).2, .string ⟨([]).toArray⟩, .slice none 0 0] (0, 0) _ rfl ?_ Tryd.underlying43 rfl (by kernel_rfl)) rfl ?_
  · have := E4.out
    simp [World.setCell, Array.getElem?_modify, this]
  · refine ⟨_, rfl, ?_⟩
    exact (H4.out.third.lose3 ((StoreT.stable _ _).both HRR.out) (by repeat' (first | with_reducible exact Upd.refl _ _ | (with_reducible refine Upd.setCell ?_ (.inl (by simp)) _)))).noRow ((StoreT.stable _ _).both HRR.out)

set_option maxRecDepth 100000 in
set_option maxHeartbeats 3200000 in
theorem plays4 {W w : World} {b : Nat} {S : St} {R : Thing} (h : At W w (Both (StoreT b S) R)) (hR : Stable R) {ef : Nat → Nat × Nat} (hF : Fails W ef failsAll) (hG : GoodS S) {o : OpD} (ho : OpOk W o) (hk : o.k = 4) :
    Calls Tryd.prog 21 #[.pointer (some ⟨b, 0, none⟩), opV o] w fun e w' => ∃ v, e = .returned (ansV (⟨0, (readC S o.run o.pos o.n), (readT S o.run o.pos o.n), []⟩ : AnsD) v) ∧ At W w' (Both (RowT v (⟨0, (readC S o.run o.pos o.n), (readT S o.run o.pos o.n), []⟩ : AnsD).list) (Both (StoreT b S) R)) := by
  have hst := (StoreT.stable b S).both hR
  have h3 := (h.three hst o).fourth
  have HR3 := Lib.hid (three_stable hR (w.heap.size + 2) (w.heap.size + 1) w.heap.size zeroAns zeroAns (opCells o) tAns tAns tOp)
  have H3 := Lib.hid h3
  have HF := Lib.hid hF
  have HRR := Lib.hid hR
  have HG := Lib.hid hG
  have HO := Lib.hid ho
  clear h hst h3 hF hR hG ho
  obtain ⟨k, run, pos, n, v, parts⟩ := o
  dsimp only at hk ⊢
  subst hk
  go_enter Tryd.func21, Tryd.ntmps21
  (repeat' (first | (go_big_may; fail) | go_values | go_skip | go_guarded | go_step | go_upon | go_back | dsimp only))
  refine (Read_at H3.out HR3.out HF.out HO.out.run HO.out.pos HO.out.n).mono ?_
  rintro e w1 ⟨rfl, h4⟩
  have hb1 := h4.below
  have e5 := h4.drop.cell
  have e4 := h4.drop.drop.cell
  have eb := h4.drop.drop.drop.cell
  have a0 := cell_of e5.1 0; have a1 := cell_of e5.1 1; have a2 := cell_of e5.1 2; have a3 := cell_of e5.1 3
  have f0 := thaw_of e5.1
  have g0 := thaw_of e4.1
  have d0 := cell_of e4.1 0; have d1 := cell_of e4.1 1; have d2 := cell_of e4.1 2; have d3 := cell_of e4.1 3
  simp only [List.getElem?_toArray, List.getElem?_cons_zero, List.getElem?_cons_succ] at a0 a1 a2 a3 d0 d1 d2 d3
  have H4 := Lib.hid h4
  have HB1 := Lib.hid hb1
  have HW := Lib.hid e5.2
  have E4 := Lib.hid e4.1
  clear h4 hb1 e5 e4 eb H3 HR3
  generalize w.heap.size = s at *
  (repeat' (first | (go_big_may; fail) | go_values | go_skip | go_guarded | go_step | go_upon | go_back | dsimp only))
  refine (code_calls (ef := ef) (c := (readC S run pos n)) (HF.out.below ?hb) (okC_read S run pos n).fails).mono ?_
  case hb => exact by (repeat' (first | with_reducible exact HB1.out | (with_reducible refine Below.setCell ?_ (by exact HW.out) _)))
  rintro e w2 ⟨rfl, rfl⟩
  (repeat' (first | (go_big_may; fail) | go_values | go_skip | go_guarded | go_step | go_upon | go_back | dsimp only))
  (try simp only [Exit.inBlock, Exit.then])
  refine bodyPost_ret (results_cell_row rfl _ _ (s + 1) tAns #[.int .i64 0, .int .i64 (readC S run pos n), .string ⟨((readT S run pos n)).toArray⟩, .slice none 0 0] (0, 0) _ rfl ?_ Tryd.underlying43 rfl (by kernel_rfl)) rfl ?_
  · have := E4.out
    simp [World.setCell, Array.getElem?_modify, this]
  · refine ⟨_, rfl, ?_⟩
    exact (H4.out.third.lose3 ((StoreT.stable _ _).both HRR.out) (by repeat' (first | with_reducible exact Upd.refl _ _ | (with_reducible refine Upd.setCell ?_ (.inl (by simp)) _)))).noRow ((StoreT.stable _ _).both HRR.out)

set_option maxRecDepth 100000 in
set_option maxHeartbeats 3200000 in
theorem plays5 {W w : World} {b : Nat} {S : St} {R : Thing} (h : At W w (Both (StoreT b S) R)) (hR : Stable R) {ef : Nat → Nat × Nat} (hF : Fails W ef failsAll) (hG : GoodS S) {o : OpD} (ho : OpOk W o) (hk : o.k = 5) :
    Calls Tryd.prog 21 #[.pointer (some ⟨b, 0, none⟩), opV o] w fun e w' => ∃ v, e = .returned (ansV (⟨(sizeN S o.run), (sizeC S o.run), [], []⟩ : AnsD) v) ∧ At W w' (Both (RowT v (⟨(sizeN S o.run), (sizeC S o.run), [], []⟩ : AnsD).list) (Both (StoreT b S) R)) := by
  have hst := (StoreT.stable b S).both hR
  have h3 := (h.three hst o).fourth
  have HR3 := Lib.hid (three_stable hR (w.heap.size + 2) (w.heap.size + 1) w.heap.size zeroAns zeroAns (opCells o) tAns tAns tOp)
  have H3 := Lib.hid h3
  have HF := Lib.hid hF
  have HRR := Lib.hid hR
  have HG := Lib.hid hG
  have HO := Lib.hid ho
  clear h hst h3 hF hR hG ho
  obtain ⟨k, run, pos, n, v, parts⟩ := o
  dsimp only at hk ⊢
  subst hk
  go_enter Tryd.func21, Tryd.ntmps21
  (repeat' (first | (go_big_may; fail) | go_values | go_skip | go_guarded | go_step | go_upon | go_back | dsimp only))
  refine (Size_at H3.out HR3.out HF.out HO.out.run).mono ?_
  rintro e w1 ⟨rfl, h4⟩
  have hb1 := h4.below
  have e5 := h4.drop.cell
  have e4 := h4.drop.drop.cell
  have eb := h4.drop.drop.drop.cell
  have a0 := cell_of e5.1 0; have a1 := cell_of e5.1 1; have a2 := cell_of e5.1 2; have a3 := cell_of e5.1 3
  have f0 := thaw_of e5.1
  have g0 := thaw_of e4.1
  have d0 := cell_of e4.1 0; have d1 := cell_of e4.1 1; have d2 := cell_of e4.1 2; have d3 := cell_of e4.1 3
  simp only [List.getElem?_toArray, List.getElem?_cons_zero, List.getElem?_cons_succ] at a0 a1 a2 a3 d0 d1 d2 d3
  have H4 := Lib.hid h4
  have HB1 := Lib.hid hb1
  have HW := Lib.hid e5.2
  have E4 := Lib.hid e4.1
  clear h4 hb1 e5 e4 eb H3 HR3
  generalize w.heap.size = s at *
  (repeat' (first | (go_big_may; fail) | go_values | go_skip | go_guarded | go_step | go_upon | go_back | dsimp only))
  refine (code_calls (ef := ef) (c := (sizeC S run)) (HF.out.below ?hb) (okC_size S run).fails).mono ?_
  case hb => exact by (repeat' (first | with_reducible exact HB1.out | (with_reducible refine Below.setCell ?_ (by exact HW.out) _)))
  rintro e w2 ⟨rfl, rfl⟩
  (repeat' (first | (go_big_may; fail) | go_values | go_skip | go_guarded | go_step | go_upon | go_back | dsimp only))
  (try simp only [Exit.inBlock, Exit.then])
  refine bodyPost_ret (results_cell_row rfl _ _ (s + 1) tAns #[.int .i64 (sizeN S run), .int .i64 (sizeC S run), .string ⟨([]).toArray⟩, .slice none 0 0] (0, 0) _ rfl ?_ Tryd.underlying43 rfl (by kernel_rfl)) rfl ?_
  · have := E4.out
    simp [World.setCell, Array.getElem?_modify, this]
  · refine ⟨_, rfl, ?_⟩
    exact (H4.out.third.lose3 ((StoreT.stable _ _).both HRR.out) (by repeat' (first | with_reducible exact Upd.refl _ _ | (with_reducible refine Upd.setCell ?_ (.inl (by simp)) _)))).noRow ((StoreT.stable _ _).both HRR.out)

set_option maxRecDepth 100000 in
set_option maxHeartbeats 3200000 in
theorem plays6 {W w : World} {b : Nat} {S : St} {R : Thing} (h : At W w (Both (StoreT b S) R)) (hR : Stable R) {ef : Nat → Nat × Nat} (hF : Fails W ef failsAll) (hG : GoodS S) {o : OpD} (ho : OpOk W o) (hk : o.k = 6) :
    Calls Tryd.prog 21 #[.pointer (some ⟨b, 0, none⟩), opV o] w fun e w' => ∃ v, e = .returned (ansV (⟨0, (removeP S o.run).2, [], []⟩ : AnsD) v) ∧ At W w' (Both (RowT v (⟨0, (removeP S o.run).2, [], []⟩ : AnsD).list) (Both (StoreT b (removeP S o.run).1) R)) := by
  have hst := (StoreT.stable b S).both hR
  have h3 := (h.three hst o).fourth
  have HR3 := Lib.hid (three_stable hR (w.heap.size + 2) (w.heap.size + 1) w.heap.size zeroAns zeroAns (opCells o) tAns tAns tOp)
  have H3 := Lib.hid h3
  have HF := Lib.hid hF
  have HRR := Lib.hid hR
  have HG := Lib.hid hG
  have HO := Lib.hid ho
  clear h hst h3 hF hR hG ho
  obtain ⟨k, run, pos, n, v, parts⟩ := o
  dsimp only at hk ⊢
  subst hk
  go_enter Tryd.func21, Tryd.ntmps21
  (repeat' (first | (go_big_may; fail) | go_values | go_skip | go_guarded | go_step | go_upon | go_back | dsimp only))
  refine (Remove_at H3.out HR3.out HF.out HO.out.run HG.out.le).mono ?_
  rintro e w1 ⟨rfl, h4⟩
  have hb1 := h4.below
  have e5 := h4.drop.cell
  have e4 := h4.drop.drop.cell
  have eb := h4.drop.drop.drop.cell
  have a0 := cell_of e5.1 0; have a1 := cell_of e5.1 1; have a2 := cell_of e5.1 2; have a3 := cell_of e5.1 3
  have f0 := thaw_of e5.1
  have g0 := thaw_of e4.1
  have d0 := cell_of e4.1 0; have d1 := cell_of e4.1 1; have d2 := cell_of e4.1 2; have d3 := cell_of e4.1 3
  simp only [List.getElem?_toArray, List.getElem?_cons_zero, List.getElem?_cons_succ] at a0 a1 a2 a3 d0 d1 d2 d3
  have H4 := Lib.hid h4
  have HB1 := Lib.hid hb1
  have HW := Lib.hid e5.2
  have E4 := Lib.hid e4.1
  clear h4 hb1 e5 e4 eb H3 HR3
  generalize w.heap.size = s at *
  (repeat' (first | (go_big_may; fail) | go_values | go_skip | go_guarded | go_step | go_upon | go_back | dsimp only))
  refine (code_calls (ef := ef) (c := (removeP S run).2) (HF.out.below ?hb) (okC_remove S run).fails).mono ?_
  case hb => exact by (repeat' (first | with_reducible exact HB1.out | (with_reducible refine Below.setCell ?_ (by exact HW.out) _)))
  rintro e w2 ⟨rfl, rfl⟩
  (repeat' (first | (go_big_may; fail) | go_values | go_skip | go_guarded | go_step | go_upon | go_back | dsimp only))
  (try simp only [Exit.inBlock, Exit.then])
  refine bodyPost_ret (results_cell_row rfl _ _ (s + 1) tAns #[.int .i64 0, .int .i64 (removeP S run).2, .string ⟨([]).toArray⟩, .slice none 0 0] (0, 0) _ rfl ?_ Tryd.underlying43 rfl (by kernel_rfl)) rfl ?_
  · have := E4.out
    simp [World.setCell, Array.getElem?_modify, this]
  · refine ⟨_, rfl, ?_⟩
    exact (H4.out.third.lose3 ((StoreT.stable _ _).both HRR.out) (by repeat' (first | with_reducible exact Upd.refl _ _ | (with_reducible refine Upd.setCell ?_ (.inl (by simp)) _)))).noRow ((StoreT.stable _ _).both HRR.out)

set_option maxRecDepth 100000 in
set_option maxHeartbeats 3200000 in
theorem plays7 {W w : World} {b : Nat} {S : St} {R : Thing} (h : At W w (Both (StoreT b S) R)) (hR : Stable R) {ef : Nat → Nat × Nat} (hF : Fails W ef failsAll) (hG : GoodS S) {o : OpD} (ho : OpOk W o) (hk : o.k = 7) :
    Calls Tryd.prog 21 #[.pointer (some ⟨b, 0, none⟩), opV o] w fun e w' => ∃ v, e = .returned (ansV (⟨0, 0, [], S.keys⟩ : AnsD) v) ∧ At W w' (Both (RowT v (⟨0, 0, [], S.keys⟩ : AnsD).list) (Both (StoreT b S) R)) := by
  have hst := (StoreT.stable b S).both hR
  have h3 := (h.three hst o).fourth
  have HR3 := Lib.hid (three_stable hR (w.heap.size + 2) (w.heap.size + 1) w.heap.size zeroAns zeroAns (opCells o) tAns tAns tOp)
  have H3 := Lib.hid h3
  have HF := Lib.hid hF
  have HRR := Lib.hid hR
  have HG := Lib.hid hG
  have HO := Lib.hid ho
  clear h hst h3 hF hR hG ho
  obtain ⟨k, run, pos, n, v, parts⟩ := o
  dsimp only at hk ⊢
  subst hk
  go_enter Tryd.func21, Tryd.ntmps21
  (repeat' (first | (go_big_may; fail) | go_values | go_skip | go_guarded | go_step | go_upon | go_back | dsimp only))
  refine (Live_at H3.out HR3.out).mono ?_
  rintro e w1 ⟨vl, rfl, h4⟩
  obtain ⟨aol, capl, hvl, _, _⟩ := own_shape h4.row
  subst hvl
  have h4 : At W w1 (Both (StoreT b S) (Both (CellT (w.heap.size + 2) zeroAns tAns) (Both (CellT (w.heap.size + 1) zeroAns tAns) (Both (CellT w.heap.size (opCells ⟨7, run, pos, n, v, parts⟩) tOp) (Both (RowT (.slice aol S.keys.length capl) S.keys) R))))) := by
    obtain ⟨h5, fp, h6, h7⟩ := h4.swap
    exact ⟨h5, fp, Both.mono (fun w fp h => Both.mono (fun w fp h => Both.mono (fun w fp h => h.assoc) h.assoc) h.assoc) h6, h7⟩
  have hb1 := h4.below
  have e5 := h4.drop.cell
  have e4 := h4.drop.drop.cell
  have eb := h4.drop.drop.drop.cell
  have a0 := cell_of e5.1 0; have a1 := cell_of e5.1 1; have a2 := cell_of e5.1 2; have a3 := cell_of e5.1 3
  have f0 := thaw_of e5.1
  have g0 := thaw_of e4.1
  have d0 := cell_of e4.1 0; have d1 := cell_of e4.1 1; have d2 := cell_of e4.1 2; have d3 := cell_of e4.1 3
  simp only [List.getElem?_toArray, List.getElem?_cons_zero, List.getElem?_cons_succ] at a0 a1 a2 a3 d0 d1 d2 d3
  have H4 := Lib.hid h4
  have HB1 := Lib.hid hb1
  have HW := Lib.hid e5.2
  have E4 := Lib.hid e4.1
  clear h4 hb1 e5 e4 eb H3 HR3
  generalize w.heap.size = s at *
  (repeat' (first | (go_big_may; fail) | go_values | go_skip | go_guarded | go_step | go_upon | go_back | dsimp only))
  refine (code_zero (ef := ef) (HF.out.below ?hb)).mono ?_
  case hb => exact by (repeat' (first | with_reducible exact HB1.out | (with_reducible refine Below.setCell ?_ (by exact HW.out) _)))
  rintro e w2 ⟨rfl, rfl⟩
  (repeat' (first | (go_big_may; fail) | go_values | go_skip | go_guarded | go_step | go_upon | go_back | dsimp only))
  (try simp only [Exit.inBlock, Exit.then])
  refine bodyPost_ret (results_cell_row rfl _ _ (s + 1) tAns #[.int .i64 0, .int .i64 0, .string ⟨([]).toArray⟩, .slice aol S.keys.length capl] (0, 0) _ rfl ?_ Tryd.underlying43 rfl (by kernel_rfl)) rfl ?_
  · have := E4.out
    simp [World.setCell, Array.getElem?_modify, this]
  · refine ⟨_, rfl, ?_⟩
    exact (H4.out.third.lose3 ((StoreT.stable _ _).both ((RowT.stable _ _).both HRR.out)) (by repeat' (first | with_reducible exact Upd.refl _ _ | (with_reducible refine Upd.setCell ?_ (.inl (by simp)) _)))).swap

set_option maxRecDepth 100000 in
set_option maxHeartbeats 3200000 in
theorem plays8 {W w : World} {b : Nat} {S : St} {R : Thing} (h : At W w (Both (StoreT b S) R)) (hR : Stable R) {ef : Nat → Nat × Nat} (hF : Fails W ef failsAll) (hG : GoodS S) {o : OpD} (ho : OpOk W o) (hk : o.k = 8) :
    Calls Tryd.prog 21 #[.pointer (some ⟨b, 0, none⟩), opV o] w fun e w' => ∃ v, e = .returned (ansV (⟨S.used, 0, [], []⟩ : AnsD) v) ∧ At W w' (Both (RowT v (⟨S.used, 0, [], []⟩ : AnsD).list) (Both (StoreT b S) R)) := by
  have hst := (StoreT.stable b S).both hR
  have h3 := (h.three hst o).fourth
  have HR3 := Lib.hid (three_stable hR (w.heap.size + 2) (w.heap.size + 1) w.heap.size zeroAns zeroAns (opCells o) tAns tAns tOp)
  have H3 := Lib.hid h3
  have HF := Lib.hid hF
  have HRR := Lib.hid hR
  have HG := Lib.hid hG
  have HO := Lib.hid ho
  clear h hst h3 hF hR hG ho
  obtain ⟨k, run, pos, n, v, parts⟩ := o
  dsimp only at hk ⊢
  subst hk
  go_enter Tryd.func21, Tryd.ntmps21
  (repeat' (first | (go_big_may; fail) | go_values | go_skip | go_guarded | go_step | go_upon | go_back | dsimp only))
  refine (Used_at H3.out).mono ?_
  rintro e w1 ⟨rfl, hw1⟩
  have h4 := H3.out
  rw [hw1] at h4
  clear hw1
  have hb1 := h4.below
  have e5 := h4.drop.cell
  have e4 := h4.drop.drop.cell
  have eb := h4.drop.drop.drop.cell
  have a0 := cell_of e5.1 0; have a1 := cell_of e5.1 1; have a2 := cell_of e5.1 2; have a3 := cell_of e5.1 3
  have f0 := thaw_of e5.1
  have g0 := thaw_of e4.1
  have d0 := cell_of e4.1 0; have d1 := cell_of e4.1 1; have d2 := cell_of e4.1 2; have d3 := cell_of e4.1 3
  simp only [List.getElem?_toArray, List.getElem?_cons_zero, List.getElem?_cons_succ] at a0 a1 a2 a3 d0 d1 d2 d3
  have H4 := Lib.hid h4
  have HB1 := Lib.hid hb1
  have HW := Lib.hid e5.2
  have E4 := Lib.hid e4.1
  clear h4 hb1 e5 e4 eb H3 HR3
  generalize w.heap.size = s at *
  (repeat' (first | (go_big_may; fail) | go_values | go_skip | go_guarded | go_step | go_upon | go_back | dsimp only))
  refine (code_zero (ef := ef) (HF.out.below ?hb)).mono ?_
  case hb => exact by (repeat' (first | with_reducible exact HB1.out | (with_reducible refine Below.setCell ?_ (by exact HW.out) _)))
  rintro e w2 ⟨rfl, rfl⟩
  (repeat' (first | (go_big_may; fail) | go_values | go_skip | go_guarded | go_step | go_upon | go_back | dsimp only))
  (try simp only [Exit.inBlock, Exit.then])
  refine bodyPost_ret (results_cell_row rfl _ _ (s + 1) tAns #[.int .i64 S.used, .int .i64 0, .string ⟨([]).toArray⟩, .slice none 0 0] (0, 0) _ rfl ?_ Tryd.underlying43 rfl (by kernel_rfl)) rfl ?_
  · have := E4.out
    simp [World.setCell, Array.getElem?_modify, this]
  · refine ⟨_, rfl, ?_⟩
    exact (H4.out.third.lose3 ((StoreT.stable _ _).both HRR.out) (by repeat' (first | with_reducible exact Upd.refl _ _ | (with_reducible refine Upd.setCell ?_ (.inl (by simp)) _)))).noRow ((StoreT.stable _ _).both HRR.out)

set_option maxRecDepth 100000 in
set_option maxHeartbeats 3200000 in
theorem plays9 {W w : World} {b : Nat} {S : St} {R : Thing} (h : At W w (Both (StoreT b S) R)) (hR : Stable R) {ef : Nat → Nat × Nat} (hF : Fails W ef failsAll) (hG : GoodS S) {o : OpD} (ho : OpOk W o) (hk : o.k = 9) :
    Calls Tryd.prog 21 #[.pointer (some ⟨b, 0, none⟩), opV o] w fun e w' => ∃ v, e = .returned (ansV (⟨S.peak, 0, [], []⟩ : AnsD) v) ∧ At W w' (Both (RowT v (⟨S.peak, 0, [], []⟩ : AnsD).list) (Both (StoreT b S) R)) := by
  have hst := (StoreT.stable b S).both hR
  have h3 := (h.three hst o).fourth
  have HR3 := Lib.hid (three_stable hR (w.heap.size + 2) (w.heap.size + 1) w.heap.size zeroAns zeroAns (opCells o) tAns tAns tOp)
  have H3 := Lib.hid h3
  have HF := Lib.hid hF
  have HRR := Lib.hid hR
  have HG := Lib.hid hG
  have HO := Lib.hid ho
  clear h hst h3 hF hR hG ho
  obtain ⟨k, run, pos, n, v, parts⟩ := o
  dsimp only at hk ⊢
  subst hk
  go_enter Tryd.func21, Tryd.ntmps21
  (repeat' (first | (go_big_may; fail) | go_values | go_skip | go_guarded | go_step | go_upon | go_back | dsimp only))
  refine (Peak_at H3.out).mono ?_
  rintro e w1 ⟨rfl, hw1⟩
  have h4 := H3.out
  rw [hw1] at h4
  clear hw1
  have hb1 := h4.below
  have e5 := h4.drop.cell
  have e4 := h4.drop.drop.cell
  have eb := h4.drop.drop.drop.cell
  have a0 := cell_of e5.1 0; have a1 := cell_of e5.1 1; have a2 := cell_of e5.1 2; have a3 := cell_of e5.1 3
  have f0 := thaw_of e5.1
  have g0 := thaw_of e4.1
  have d0 := cell_of e4.1 0; have d1 := cell_of e4.1 1; have d2 := cell_of e4.1 2; have d3 := cell_of e4.1 3
  simp only [List.getElem?_toArray, List.getElem?_cons_zero, List.getElem?_cons_succ] at a0 a1 a2 a3 d0 d1 d2 d3
  have H4 := Lib.hid h4
  have HB1 := Lib.hid hb1
  have HW := Lib.hid e5.2
  have E4 := Lib.hid e4.1
  clear h4 hb1 e5 e4 eb H3 HR3
  generalize w.heap.size = s at *
  (repeat' (first | (go_big_may; fail) | go_values | go_skip | go_guarded | go_step | go_upon | go_back | dsimp only))
  refine (code_zero (ef := ef) (HF.out.below ?hb)).mono ?_
  case hb => exact by (repeat' (first | with_reducible exact HB1.out | (with_reducible refine Below.setCell ?_ (by exact HW.out) _)))
  rintro e w2 ⟨rfl, rfl⟩
  (repeat' (first | (go_big_may; fail) | go_values | go_skip | go_guarded | go_step | go_upon | go_back | dsimp only))
  (try simp only [Exit.inBlock, Exit.then])
  refine bodyPost_ret (results_cell_row rfl _ _ (s + 1) tAns #[.int .i64 S.peak, .int .i64 0, .string ⟨([]).toArray⟩, .slice none 0 0] (0, 0) _ rfl ?_ Tryd.underlying43 rfl (by kernel_rfl)) rfl ?_
  · have := E4.out
    simp [World.setCell, Array.getElem?_modify, this]
  · refine ⟨_, rfl, ?_⟩
    exact (H4.out.third.lose3 ((StoreT.stable _ _).both HRR.out) (by repeat' (first | with_reducible exact Upd.refl _ _ | (with_reducible refine Upd.setCell ?_ (.inl (by simp)) _)))).noRow ((StoreT.stable _ _).both HRR.out)

set_option maxRecDepth 100000 in
set_option maxHeartbeats 3200000 in
theorem plays10 {W w : World} {b : Nat} {S : St} {R : Thing} (h : At W w (Both (StoreT b S) R)) (hR : Stable R) {ef : Nat → Nat × Nat} (hF : Fails W ef failsAll) (hG : GoodS S) {o : OpD} (ho : OpOk W o) (hk : o.k = 10) :
    Calls Tryd.prog 21 #[.pointer (some ⟨b, 0, none⟩), opV o] w fun e w' => ∃ v, e = .returned (ansV (⟨S.made, 0, [], []⟩ : AnsD) v) ∧ At W w' (Both (RowT v (⟨S.made, 0, [], []⟩ : AnsD).list) (Both (StoreT b S) R)) := by
  have hst := (StoreT.stable b S).both hR
  have h3 := (h.three hst o).fourth
  have HR3 := Lib.hid (three_stable hR (w.heap.size + 2) (w.heap.size + 1) w.heap.size zeroAns zeroAns (opCells o) tAns tAns tOp)
  have H3 := Lib.hid h3
  have HF := Lib.hid hF
  have HRR := Lib.hid hR
  have HG := Lib.hid hG
  have HO := Lib.hid ho
  clear h hst h3 hF hR hG ho
  obtain ⟨k, run, pos, n, v, parts⟩ := o
  dsimp only at hk ⊢
  subst hk
  go_enter Tryd.func21, Tryd.ntmps21
  (repeat' (first | (go_big_may; fail) | go_values | go_skip | go_guarded | go_step | go_upon | go_back | dsimp only))
  refine (Made_at H3.out).mono ?_
  rintro e w1 ⟨rfl, hw1⟩
  have h4 := H3.out
  rw [hw1] at h4
  clear hw1
  have hb1 := h4.below
  have e5 := h4.drop.cell
  have e4 := h4.drop.drop.cell
  have eb := h4.drop.drop.drop.cell
  have a0 := cell_of e5.1 0; have a1 := cell_of e5.1 1; have a2 := cell_of e5.1 2; have a3 := cell_of e5.1 3
  have f0 := thaw_of e5.1
  have g0 := thaw_of e4.1
  have d0 := cell_of e4.1 0; have d1 := cell_of e4.1 1; have d2 := cell_of e4.1 2; have d3 := cell_of e4.1 3
  simp only [List.getElem?_toArray, List.getElem?_cons_zero, List.getElem?_cons_succ] at a0 a1 a2 a3 d0 d1 d2 d3
  have H4 := Lib.hid h4
  have HB1 := Lib.hid hb1
  have HW := Lib.hid e5.2
  have E4 := Lib.hid e4.1
  clear h4 hb1 e5 e4 eb H3 HR3
  generalize w.heap.size = s at *
  (repeat' (first | (go_big_may; fail) | go_values | go_skip | go_guarded | go_step | go_upon | go_back | dsimp only))
  refine (code_zero (ef := ef) (HF.out.below ?hb)).mono ?_
  case hb => exact by (repeat' (first | with_reducible exact HB1.out | (with_reducible refine Below.setCell ?_ (by exact HW.out) _)))
  rintro e w2 ⟨rfl, rfl⟩
  (repeat' (first | (go_big_may; fail) | go_values | go_skip | go_guarded | go_step | go_upon | go_back | dsimp only))
  (try simp only [Exit.inBlock, Exit.then])
  refine bodyPost_ret (results_cell_row rfl _ _ (s + 1) tAns #[.int .i64 S.made, .int .i64 0, .string ⟨([]).toArray⟩, .slice none 0 0] (0, 0) _ rfl ?_ Tryd.underlying43 rfl (by kernel_rfl)) rfl ?_
  · have := E4.out
    simp [World.setCell, Array.getElem?_modify, this]
  · refine ⟨_, rfl, ?_⟩
    exact (H4.out.third.lose3 ((StoreT.stable _ _).both HRR.out) (by repeat' (first | with_reducible exact Upd.refl _ _ | (with_reducible refine Upd.setCell ?_ (.inl (by simp)) _)))).noRow ((StoreT.stable _ _).both HRR.out)

set_option maxRecDepth 100000 in
set_option maxHeartbeats 3200000 in
theorem plays11 {W w : World} {b : Nat} {S : St} {R : Thing} (h : At W w (Both (StoreT b S) R)) (hR : Stable R) {ef : Nat → Nat × Nat} (hF : Fails W ef failsAll) (hG : GoodS S) {o : OpD} (ho : OpOk W o) (hk : o.k = 11) :
    Calls Tryd.prog 21 #[.pointer (some ⟨b, 0, none⟩), opV o] w fun e w' => ∃ v, e = .returned (ansV (⟨0, 0, [], []⟩ : AnsD) v) ∧ At W w' (Both (RowT v (⟨0, 0, [], []⟩ : AnsD).list) (Both (StoreT b (breakS S o.n)) R)) := by
  have hst := (StoreT.stable b S).both hR
  have h3 := (h.three hst o).fourth
  have HR3 := Lib.hid (three_stable hR (w.heap.size + 2) (w.heap.size + 1) w.heap.size zeroAns zeroAns (opCells o) tAns tAns tOp)
  have H3 := Lib.hid h3
  have HF := Lib.hid hF
  have HRR := Lib.hid hR
  have HG := Lib.hid hG
  have HO := Lib.hid ho
  clear h hst h3 hF hR hG ho
  obtain ⟨k, run, pos, n, v, parts⟩ := o
  dsimp only at hk ⊢
  subst hk
  go_enter Tryd.func21, Tryd.ntmps21
  (repeat' (first | (go_big_may; fail) | go_values | go_skip | go_guarded | go_step | go_upon | go_back | dsimp only))
  refine (Break_at H3.out HR3.out HO.out.n).mono ?_
  rintro e w1 ⟨rfl, h4⟩
  have hb1 := h4.below
  have e5 := h4.drop.cell
  have e4 := h4.drop.drop.cell
  have eb := h4.drop.drop.drop.cell
  have a0 := cell_of e5.1 0; have a1 := cell_of e5.1 1; have a2 := cell_of e5.1 2; have a3 := cell_of e5.1 3
  have f0 := thaw_of e5.1
  have g0 := thaw_of e4.1
  have d0 := cell_of e4.1 0; have d1 := cell_of e4.1 1; have d2 := cell_of e4.1 2; have d3 := cell_of e4.1 3
  simp only [List.getElem?_toArray, List.getElem?_cons_zero, List.getElem?_cons_succ] at a0 a1 a2 a3 d0 d1 d2 d3
  have H4 := Lib.hid h4
  have HB1 := Lib.hid hb1
  have HW := Lib.hid e5.2
  have E4 := Lib.hid e4.1
  clear h4 hb1 e5 e4 eb H3 HR3
  generalize w.heap.size = s at *
  (repeat' (first | (go_big_may; fail) | go_values | go_skip | go_guarded | go_step | go_upon | go_back | dsimp only))
  refine (code_zero (ef := ef) (HF.out.below ?hb)).mono ?_
  case hb => exact by (repeat' (first | with_reducible exact HB1.out | (with_reducible refine Below.setCell ?_ (by exact HW.out) _)))
  rintro e w2 ⟨rfl, rfl⟩
  (repeat' (first | (go_big_may; fail) | go_values | go_skip | go_guarded | go_step | go_upon | go_back | dsimp only))
  (try simp only [Exit.inBlock, Exit.then])
  refine bodyPost_ret (results_cell_row rfl _ _ (s + 1) tAns #[.int .i64 0, .int .i64 0, .string ⟨([]).toArray⟩, .slice none 0 0] (0, 0) _ rfl ?_ Tryd.underlying43 rfl (by kernel_rfl)) rfl ?_
  · have := E4.out
    simp [World.setCell, Array.getElem?_modify, this]
  · refine ⟨_, rfl, ?_⟩
    exact (H4.out.third.lose3 ((StoreT.stable _ _).both HRR.out) (by repeat' (first | with_reducible exact Upd.refl _ _ | (with_reducible refine Upd.setCell ?_ (.inl (by simp)) _)))).noRow ((StoreT.stable _ _).both HRR.out)

set_option maxRecDepth 100000 in
set_option maxHeartbeats 3200000 in
theorem plays12 {W w : World} {b : Nat} {S : St} {R : Thing} (h : At W w (Both (StoreT b S) R)) (hR : Stable R) {ef : Nat → Nat × Nat} (hF : Fails W ef failsAll) (hG : GoodS S) {o : OpD} (ho : OpOk W o) (hk : o.k ≠ 1 ∧ o.k ≠ 2 ∧ o.k ≠ 3 ∧ o.k ≠ 4 ∧ o.k ≠ 5 ∧ o.k ≠ 6 ∧ o.k ≠ 7 ∧ o.k ≠ 8 ∧ o.k ≠ 9 ∧ o.k ≠ 10 ∧ o.k ≠ 11) :
    Calls Tryd.prog 21 #[.pointer (some ⟨b, 0, none⟩), opV o] w fun e w' => ∃ v, e = .returned (ansV (⟨0, 0, [], []⟩ : AnsD) v) ∧ At W w' (Both (RowT v (⟨0, 0, [], []⟩ : AnsD).list) (Both (StoreT b S) R)) := by
  have hst := (StoreT.stable b S).both hR
  have h3 := (h.three hst o).fourth
  have HR3 := Lib.hid (three_stable hR (w.heap.size + 2) (w.heap.size + 1) w.heap.size zeroAns zeroAns (opCells o) tAns tAns tOp)
  have H3 := Lib.hid h3
  have HF := Lib.hid hF
  have HRR := Lib.hid hR
  have HG := Lib.hid hG
  have HO := Lib.hid ho
  clear h hst h3 hF hR hG ho
  obtain ⟨k, run, pos, n, v, parts⟩ := o
  dsimp only at hk ⊢
  obtain ⟨n1, n2, n3, n4, n5, n6, n7, n8, n9, n10, n11⟩ := hk
  have m1 : (k == 1) = false := by simpa using n1
  have m2 : (k == 2) = false := by simpa using n2
  have m3 : (k == 3) = false := by simpa using n3
  have m4 : (k == 4) = false := by simpa using n4
  have m5 : (k == 5) = false := by simpa using n5
  have m6 : (k == 6) = false := by simpa using n6
  have m7 : (k == 7) = false := by simpa using n7
  have m8 : (k == 8) = false := by simpa using n8
  have m9 : (k == 9) = false := by simpa using n9
  have m10 : (k == 10) = false := by simpa using n10
  have m11 : (k == 11) = false := by simpa using n11
  clear n1 n2 n3 n4 n5 n6 n7 n8 n9 n10 n11
  go_enter Tryd.func21, Tryd.ntmps21
  have h4 := H3.out
  obtain ⟨w1, hw1⟩ : ∃ w1, w1 = (((w.alloc (.cells (opCells ⟨k, run, pos, n, v, parts⟩) tOp)).alloc (.cells zeroAns tAns)).alloc (.cells zeroAns tAns)) := ⟨_, rfl⟩
  rw [← hw1] at h4
  (repeat' (first | (go_big_may; fail) | go_values | go_skip | go_guarded | go_step | go_upon | go_back | dsimp only))
  rw [← hw1]
  clear hw1
  have hb1 := h4.below
  have e5 := h4.drop.cell
  have e4 := h4.drop.drop.cell
  have eb := h4.drop.drop.drop.cell
  have a0 := cell_of e5.1 0; have a1 := cell_of e5.1 1; have a2 := cell_of e5.1 2; have a3 := cell_of e5.1 3
  have f0 := thaw_of e5.1
  have g0 := thaw_of e4.1
  have d0 := cell_of e4.1 0; have d1 := cell_of e4.1 1; have d2 := cell_of e4.1 2; have d3 := cell_of e4.1 3
  simp only [List.getElem?_toArray, List.getElem?_cons_zero, List.getElem?_cons_succ] at a0 a1 a2 a3 d0 d1 d2 d3
  have H4 := Lib.hid h4
  have HB1 := Lib.hid hb1
  have HW := Lib.hid e5.2
  have E4 := Lib.hid e4.1
  clear h4 hb1 e5 e4 eb H3 HR3
  generalize w.heap.size = s at *
  refine (code_zero (ef := ef) (HF.out.below ?hb)).mono ?_
  case hb => exact by (repeat' (first | with_reducible exact HB1.out | (with_reducible refine Below.setCell ?_ (by exact HW.out) _)))
  rintro e w2 ⟨rfl, rfl⟩
  (repeat' (first | (go_big_may; fail) | go_values | go_skip | go_guarded | go_step | go_upon | go_back | dsimp only))
  (try simp only [Exit.inBlock, Exit.then])
  refine bodyPost_ret (results_cell_row rfl _ _ (s + 1) tAns #[.int .i64 0, .int .i64 0, .string ⟨([]).toArray⟩, .slice none 0 0] (0, 0) _ rfl ?_ Tryd.underlying43 rfl (by kernel_rfl)) rfl ?_
  · have := E4.out
    simp [World.setCell, Array.getElem?_modify, this]
  · refine ⟨_, rfl, ?_⟩
    exact (H4.out.third.lose3 ((StoreT.stable _ _).both HRR.out) (by repeat' (first | with_reducible exact Upd.refl _ _ | (with_reducible refine Upd.setCell ?_ (.inl (by simp)) _)))).noRow ((StoreT.stable _ _).both HRR.out)
end

section
open Go.RowKit

/-- 'append([]T(nil), u...)': a row of its own. -/
theorem append_nil_rd {P : Program} (t ty e : TypeId) (ht : P.underlying t = some (.slice e)) {z : Value} {size bytes : Nat} (hinfo : (P.info? e).map (fun i => (i.zero, i.size, i.bytes)) = some (some z, size, bytes)) (hzs : z.cells.size = size) (hsz : 0 < size)
    {w : World} {u : Value} {m : Nat} {cs : List Value} (hrd : RdRow w u m size cs) (h1 : ∀ u ∈ cs, u.oneCell' = true) (hbytes : m * bytes ≤ 140737488355328) :
    ∃ v' w', (Builtin.append_ #[t, t] ty #[.slice none 0 0, u]).run P w = .ok v' w' ∧ w'.ownsRow w.heap.size e size v' m cs ∧ Below w.heap.size w w' := by
  obtain ⟨i0, hi, hz0, hz1, hz2⟩ := info_parts hinfo
  obtain ⟨hl, ad, cap, rfl, hm, hcap, hc⟩ := hrd
  cases ad with
  | some ad =>
    obtain ⟨v', w', hr, h2, h3, _⟩ := run_append_own (P := P) w w.heap.size t ty e i0 z size bytes ht hi hz0 hz1 hz2 hzs hsz (.slice none 0 0) 0 [] (World.ownsRow_nil _ _ _ _) ad m cap cs hl (fun j u hu => by
      obtain ⟨b, off, hb, hcc⟩ := hc j u hu
      cases hb
      rw [show (⟨b, off, none⟩ : Addr).add j = ⟨b, off + j, none⟩ from by unfold Addr.add; split <;> simp_all]
      exact hcc) h1 (by omega) (by rw [Nat.zero_add]; exact hbytes) (Nat.le_refl _)
    rw [Nat.zero_add, List.nil_append] at h2
    exact ⟨v', w', hr, h2, ⟨h3.os, h3.tape, h3.output, h3.size, fun k hk => h3.block k hk (by simp [Value.ownBlock])⟩⟩
  | none =>
    have hcs : cs = [] := by
      cases cs with
      | nil => rfl
      | cons c r => obtain ⟨b, off, hb, _⟩ := hc 0 c rfl; cases hb
    subst hcs
    have hm0 : m = 0 := by
      have : m * size = 0 := by simpa using hl.symm
      rcases Nat.mul_eq_zero.1 this with h | h <;> omega
    subst hm0
    refine ⟨.slice none 0 0, w, ?_, World.ownsRow_nil _ _ _ _, Below.refl _ _⟩
    simp [Builtin.append_, run_underlying ht, sizeOf, typeInfo, hi, Builtin.lenOf, Builtin.firstCells]

theorem info_strR : (Tryd.prog.info? 9).map (fun i => (i.zero, i.size, i.bytes)) = some (some (.string ⟨#[]⟩), 1, 16) := by kernel_rfl
theorem enters_append : ∀ xs w, (callFunc 14 xs).run Tryd.prog w = .ok (.enter 14 xs) w :=
  enters_fn Tryd.func14 (by kernel_rfl) rfl

set_option maxRecDepth 100000 in
set_option maxHeartbeats 3200000 in
theorem plays2 {W w : World} {b : Nat} {S : St} {R : Thing} (h : At W w (Both (StoreT b S) R)) (hR : Stable R) {ef : Nat → Nat × Nat} (hF : Fails W ef failsAll) (hG : GoodS S) {o : OpD} (ho : OpOk W o) (hk : o.k = 2) :
    Calls Tryd.prog 21 #[.pointer (some ⟨b, 0, none⟩), opV o] w fun e w' => ∃ v, e = .returned (ansV (⟨0, (appendP S o.run (cat o.parts)).2, [], []⟩ : AnsD) v) ∧ At W w' (Both (RowT v (⟨0, (appendP S o.run (cat o.parts)).2, [], []⟩ : AnsD).list) (Both (StoreT b (appendP S o.run (cat o.parts)).1) R)) := by
  have hst := (StoreT.stable b S).both hR
  have h3 := (h.three hst o).fourth
  have hR3 := three_stable hR (w.heap.size + 2) (w.heap.size + 1) w.heap.size zeroAns zeroAns (opCells o) tAns tAns tOp
  have hrow0 : RdRow (((w.alloc (.cells (opCells o) tOp)).alloc (.cells zeroAns tAns)).alloc (.cells zeroAns tAns)) o.v o.parts.length 1 (strs o.parts) := ho.row.below h3.below
  obtain ⟨mb, blk, val, _, hbW⟩ := h3.store
  obtain ⟨v2, w2, hrun, hown2, hb2⟩ := append_nil_rd (P := Tryd.prog) 39 39 9 Tryd.underlying39 info_strR rfl (by decide) (hrow0.below (below_dW _ 1)) (by intro u hu; obtain ⟨r, _, rfl⟩ := List.mem_map.1 hu; rfl) (by have := ho.len; omega)
  have h4 := (h3.mono ((StoreT.stable b S).both hR3) (below_dW _ 1)).mono ((StoreT.stable b S).both hR3) hb2
  have hv2 : ∀ w', Upd [b] w2 w' → RdRow w' v2 o.parts.length 1 (strs o.parts) := fun w' hu => by
    have hne : ∀ k, v2.ownBlock = some k → k ∉ [b] := fun k hk hm => by
      have h5 := (hown2.lt k hk).1
      obtain ⟨mb, blk, val, hs, _⟩ := h3.store
      have h6 := hs.lt b (by simp [fpS])
      simp at hm h5
      simp at h6
      omega
    exact RdRow.of_own (ownsRow_block hown2 fun k hk => hu.block k (hown2.lt k hk).2 (hne k hk))
  have happ := Append_at h4 hR3 hF ho.run hG.le hv2 (by have := ho.len; omega)
  have e1 := (h3.drop.drop.drop.cell).1
  have e2 := (h4.drop.drop.drop.cell).1
  obtain ⟨k, run, pos, n, v, parts⟩ := o
  dsimp only at hk happ hrun e1 e2 ⊢
  subst hk
  have d1 := cell_of e1 1; have d4 := cell_of e1 4; have c1 := cell_of e2 1; have c4 := cell_of e2 4
  simp only [List.getElem?_toArray, List.getElem?_cons_zero, List.getElem?_cons_succ] at d1 d4 c1 c4
  have HAPP := Lib.hid happ
  have HRUN := Lib.hid hrun
  have H3 := Lib.hid h3
  have HF := Lib.hid hF
  have HRR := Lib.hid hR
  clear h hst h3 hF hG ho hR3 hrow0 hbW hown2 hb2 h4 hv2 happ e1 e2 hR hrun
  go_enter Tryd.func21, Tryd.ntmps21
  obtain ⟨w1, hw1⟩ : ∃ w1, w1 = (((w.alloc (.cells (opCells ⟨2, run, pos, n, v, parts⟩) tOp)).alloc (.cells zeroAns tAns)).alloc (.cells zeroAns tAns)) := ⟨_, rfl⟩
  rw [← hw1] at d1 d4
  (repeat' (first | (go_big_may; fail) | go_values | go_skip | go_guarded | go_step | go_upon | go_back | dsimp only))
  rw [← hw1]
  have hrun := HRUN.out
  rw [← hw1] at hrun
  clear hw1 HRUN H3
  generalize w.heap.size = s at *
  go_region_law (first | (refine step_append_run rfl _ _ 39 rfl _ _ rfl rfl hrun ?_) | (refine step_call_fn rfl 14 _ _ rfl enters_append [.pointer (some ⟨b, 0, none⟩), .int .i64 run, v2] rfl ?_; refine HAPP.out.mono ?_; rintro e w3 ⟨rfl, h5⟩; have H5 := Lib.hid h5; clear h5))
  all_goals
    have h4 := H5.out
    have hb1 := h4.below
    have e5 := h4.drop.cell
    have e4 := h4.drop.drop.cell
    have a0 := cell_of e5.1 0; have a1 := cell_of e5.1 1; have a2 := cell_of e5.1 2; have a3 := cell_of e5.1 3
    have f0 := thaw_of e5.1
    have g0 := thaw_of e4.1
    have q0 := cell_of e4.1 0; have q1 := cell_of e4.1 1; have q2 := cell_of e4.1 2; have q3 := cell_of e4.1 3
    simp only [List.getElem?_toArray, List.getElem?_cons_zero, List.getElem?_cons_succ] at a0 a1 a2 a3 q0 q1 q2 q3
    have HB1 := Lib.hid hb1
    have HW := Lib.hid e5.2
    have E4 := Lib.hid e4.1
    clear h4 hb1 e5 e4 hrun d1 d4 c1 c4 HAPP
    (repeat' (first | (go_big_may; fail) | go_values | go_skip | go_guarded | go_step | go_upon | go_back | dsimp only))
    refine (code_calls (ef := ef) (c := (appendP S run (cat parts)).2) (HF.out.below ?hb) (okC_append S run _).fails).mono ?_
    case hb => exact by (repeat' (first | with_reducible exact HB1.out | (with_reducible refine Below.setCell ?_ (by exact HW.out) _)))
    rintro e w4 ⟨rfl, rfl⟩
    (repeat' (first | (go_big_may; fail) | go_values | go_skip | go_guarded | go_step | go_upon | go_back | dsimp only))
    (try simp only [Exit.inBlock, Exit.then])
    refine bodyPost_ret (results_cell_row rfl _ _ (s + 1) tAns #[.int .i64 0, .int .i64 (appendP S run (cat parts)).2, .string ⟨([]).toArray⟩, .slice none 0 0] (0, 0) _ rfl ?_ Tryd.underlying43 rfl (by kernel_rfl)) rfl ?_
    · have := E4.out
      simp [World.setCell, Array.getElem?_modify, this]
    · refine ⟨_, rfl, ?_⟩
      exact (H5.out.third.lose3 ((StoreT.stable _ _).both HRR.out) (by repeat' (first | with_reducible exact Upd.refl _ _ | (with_reducible refine Upd.setCell ?_ (.inl (by simp)) _)))).noRow ((StoreT.stable _ _).both HRR.out)
end
end Go.Proofs.YtomlkhfmblkpcaaDoor
