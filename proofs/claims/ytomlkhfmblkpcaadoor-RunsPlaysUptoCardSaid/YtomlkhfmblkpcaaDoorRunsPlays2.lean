/- runs: the law's own 'plays' at Append, walked. -/
import Derived.Test.YtomlkhfmblkpcaaDoorRunsPlay
import Derived.Test.YtomlkhfmblkpcaaDoorAppendAt
import Derived.Test.YtomlkhfmblkpcaaDoorRunsWakes
namespace Go.Proofs.YtomlkhfmblkpcaaDoor
open Go.RowKit

/-- 'append([]T(nil), u...)': a row of its own. -/
theorem append_nil_rd {P : Program} (t ty e : TypeId) (ht : P.underlying t = some (.slice e)) {z : Value} {size bytes : Nat} (hinfo : (P.info? e).map (fun i => (i.zero, i.size, i.bytes)) = some (some z, size, bytes)) (hzs : z.cells.size = size) (hsz : 0 < size)
    {w : World} {u : Value} {m : Nat} {cs : List Value} (hrd : RdRow w u m size cs) (h1 : ∀ u ∈ cs, u.oneCell' = true) (hbytes : m * bytes ≤ 140737488355328) :
    ∃ v' w', (Builtin.append_ #[t, t] ty #[.slice none 0 0, u]).run P w = .ok v' w' ∧ w'.ownsRow w.heap.size e size v' m cs ∧ Below w.heap.size w w' := by
  obtain ⟨i0, hi, hz0, hz1, hz2⟩ := info_parts hinfo
  obtain ⟨hl, ad, cap, rfl, hm, hcap, hc⟩ := hrd
  cases ad with
  | some ad =>
    obtain ⟨v', w', hr, h2, h3, _⟩ := run_append_own (P := P) w w.heap.size t ty e i0 z size bytes ht hi hz0 hz1 hz2 hzs hsz (.slice none 0 0) 0 [] (World.ownsRow_nil _ _ _ _) ad m cap cs hl (fun j u hu => by
      obtain ⟨b, off, hb, hcc⟩ := hc j u hu
      cases hb
      rw [show (⟨b, off, none⟩ : Addr).add j = ⟨b, off + j, none⟩ from by unfold Addr.add; split <;> simp_all]
      exact hcc) h1 (by omega) (by rw [Nat.zero_add]; exact hbytes) (Nat.le_refl _)
    rw [Nat.zero_add, List.nil_append] at h2
    exact ⟨v', w', hr, h2, ⟨h3.os, h3.tape, h3.output, h3.size, fun k hk => h3.block k hk (by simp [Value.ownBlock])⟩⟩
  | none =>
    have hcs : cs = [] := by
      cases cs with
      | nil => rfl
      | cons c r => obtain ⟨b, off, hb, _⟩ := hc 0 c rfl; cases hb
    subst hcs
    have hm0 : m = 0 := by
      have : m * size = 0 := by simpa using hl.symm
      rcases Nat.mul_eq_zero.1 this with h | h <;> omega
    subst hm0
    refine ⟨.slice none 0 0, w, ?_, World.ownsRow_nil _ _ _ _, Below.refl _ _⟩
    simp [Builtin.append_, run_underlying ht, sizeOf, typeInfo, hi, Builtin.lenOf, Builtin.firstCells]

theorem info_strR : (Tryd.prog.info? 9).map (fun i => (i.zero, i.size, i.bytes)) = some (some (.string ⟨#[]⟩), 1, 16) := by kernel_rfl
theorem enters_append : ∀ xs w, (callFunc 14 xs).run Tryd.prog w = .ok (.enter 14 xs) w :=
  enters_fn Tryd.func14 (by kernel_rfl) rfl

set_option maxRecDepth 100000 in
set_option maxHeartbeats 3200000 in
theorem plays2 {W w : World} {b : Nat} {S : St} {R : Thing} (h : At W w (Both (StoreT b S) R)) (hR : Stable R) {ef : Nat → Nat × Nat} (hF : Fails W ef failsAll) (hG : GoodS S) {o : OpD} (ho : OpOk W o) (hk : o.k = 2) :
    Calls Tryd.prog 21 #[.pointer (some ⟨b, 0, none⟩), opV o] w fun e w' => ∃ v, e = .returned (ansV (⟨0, (appendP S o.run (cat o.parts)).2, [], []⟩ : AnsD) v) ∧ At W w' (Both (RowT v (⟨0, (appendP S o.run (cat o.parts)).2, [], []⟩ : AnsD).list) (Both (StoreT b (appendP S o.run (cat o.parts)).1) R)) := by
  have hst := (StoreT.stable b S).both hR
  have h3 := (h.three hst o).fourth
  have hR3 := three_stable hR (w.heap.size + 2) (w.heap.size + 1) w.heap.size zeroAns zeroAns (opCells o) tAns tAns tOp
  have hrow0 : RdRow (((w.alloc (.cells (opCells o) tOp)).alloc (.cells zeroAns tAns)).alloc (.cells zeroAns tAns)) o.v o.parts.length 1 (strs o.parts) := ho.row.below h3.below
  obtain ⟨mb, blk, val, _, hbW⟩ := h3.store
  obtain ⟨v2, w2, hrun, hown2, hb2⟩ := append_nil_rd (P := Tryd.prog) 39 39 9 Tryd.underlying39 info_strR rfl (by decide) (hrow0.below (below_dW _ 1)) (by intro u hu; obtain ⟨r, _, rfl⟩ := List.mem_map.1 hu; rfl) (by have := ho.len; omega)
  have h4 := (h3.mono ((StoreT.stable b S).both hR3) (below_dW _ 1)).mono ((StoreT.stable b S).both hR3) hb2
  have hv2 : ∀ w', Upd [b] w2 w' → RdRow w' v2 o.parts.length 1 (strs o.parts) := fun w' hu => by
    have hne : ∀ k, v2.ownBlock = some k → k ∉ [b] := fun k hk hm => by
      have h5 := (hown2.lt k hk).1
      obtain ⟨mb, blk, val, hs, _⟩ := h3.store
      have h6 := hs.lt b (by simp [fpS])
      simp at hm h5
      simp at h6
      omega
    exact RdRow.of_own (ownsRow_block hown2 fun k hk => hu.block k (hown2.lt k hk).2 (hne k hk))
  have happ := Append_at h4 hR3 hF ho.run hG.le hv2 (by have := ho.len; omega)
  have e1 := (h3.drop.drop.drop.cell).1
  have e2 := (h4.drop.drop.drop.cell).1
  obtain ⟨k, run, pos, n, v, parts⟩ := o
  dsimp only at hk happ hrun e1 e2 ⊢
  subst hk
  have d1 := cell_of e1 1; have d4 := cell_of e1 4; have c1 := cell_of e2 1; have c4 := cell_of e2 4
  simp only [List.getElem?_toArray, List.getElem?_cons_zero, List.getElem?_cons_succ] at d1 d4 c1 c4
  have HAPP := Lib.hid happ
  have HRUN := Lib.hid hrun
  have H3 := Lib.hid h3
  have HF := Lib.hid hF
  have HRR := Lib.hid hR
  clear h hst h3 hF hG ho hR3 hrow0 hbW hown2 hb2 h4 hv2 happ e1 e2 hR hrun
  go_enter Tryd.func21, Tryd.ntmps21
  obtain ⟨w1, hw1⟩ : ∃ w1, w1 = (((w.alloc (.cells (opCells ⟨2, run, pos, n, v, parts⟩) tOp)).alloc (.cells zeroAns tAns)).alloc (.cells zeroAns tAns)) := ⟨_, rfl⟩
  rw [← hw1] at d1 d4
  (repeat' (first | (go_big_may; fail) | go_values | go_skip | go_guarded | go_step | go_upon | go_back | dsimp only))
  rw [← hw1]
  have hrun := HRUN.out
  rw [← hw1] at hrun
  clear hw1 HRUN H3
  generalize w.heap.size = s at *
  go_region_law (first | (refine step_append_run rfl _ _ 39 rfl _ _ rfl rfl hrun ?_) | (refine step_call_fn rfl 14 _ _ rfl enters_append [.pointer (some ⟨b, 0, none⟩), .int .i64 run, v2] rfl ?_; refine HAPP.out.mono ?_; rintro e w3 ⟨rfl, h5⟩; have H5 := Lib.hid h5; clear h5))
  all_goals
    have h4 := H5.out
    have hb1 := h4.below
    have e5 := h4.drop.cell
    have e4 := h4.drop.drop.cell
    have a0 := cell_of e5.1 0; have a1 := cell_of e5.1 1; have a2 := cell_of e5.1 2; have a3 := cell_of e5.1 3
    have f0 := thaw_of e5.1
    have g0 := thaw_of e4.1
    have q0 := cell_of e4.1 0; have q1 := cell_of e4.1 1; have q2 := cell_of e4.1 2; have q3 := cell_of e4.1 3
    simp only [List.getElem?_toArray, List.getElem?_cons_zero, List.getElem?_cons_succ] at a0 a1 a2 a3 q0 q1 q2 q3
    have HB1 := Lib.hid hb1
    have HW := Lib.hid e5.2
    have E4 := Lib.hid e4.1
    clear h4 hb1 e5 e4 hrun d1 d4 c1 c4 HAPP
    (repeat' (first | (go_big_may; fail) | go_values | go_skip | go_guarded | go_step | go_upon | go_back | dsimp only))
    refine (code_calls (ef := ef) (c := (appendP S run (cat parts)).2) (HF.out.below ?hb) (okC_append S run _).fails).mono ?_
    case hb => exact by (repeat' (first | with_reducible exact HB1.out | (with_reducible refine Below.setCell ?_ (by exact HW.out) _)))
    rintro e w4 ⟨rfl, rfl⟩
    (repeat' (first | (go_big_may; fail) | go_values | go_skip | go_guarded | go_step | go_upon | go_back | dsimp only))
    (try simp only [Exit.inBlock, Exit.then])
    refine bodyPost_ret (results_cell_row rfl _ _ (s + 1) tAns #[.int .i64 0, .int .i64 (appendP S run (cat parts)).2, .string ⟨([]).toArray⟩, .slice none 0 0] (0, 0) _ rfl ?_ Tryd.underlying43 rfl (by kernel_rfl)) rfl ?_
    · have := E4.out
      simp [World.setCell, Array.getElem?_modify, this]
    · refine ⟨_, rfl, ?_⟩
      exact (H5.out.third.lose3 ((StoreT.stable _ _).both HRR.out) (by repeat' (first | with_reducible exact Upd.refl _ _ | (with_reducible refine Upd.setCell ?_ (.inl (by simp)) _)))).noRow ((StoreT.stable _ _).both HRR.out)
end Go.Proofs.YtomlkhfmblkpcaaDoor
