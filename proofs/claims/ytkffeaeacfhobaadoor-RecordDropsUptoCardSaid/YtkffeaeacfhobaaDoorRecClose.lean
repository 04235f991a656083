/- record.Writer: Close walked; Open walked. -/
import Derived.Test.YtkffeaeacfhobaaDoorRecPut
namespace Go.Proofs.YtkffeaeacfhobaaDoor
open Go.RowKit

/-- The buffer's rest is flushed. -/
def restP (S : St) (x : WrD) : St × WrD × Nat := if x.buf = [] then (S, x, 0) else flushP S x x.buf.length
def closeP (S : St) (x : WrD) : St × WrD × Nat × Nat :=
  if x.dead ≠ 0 then (S, x, 0, x.dead) else
  if (restP S x).2.2 ≠ 0 then ((restP S x).1, (restP S x).2.1, 0, (restP S x).2.2) else
  if (sealP (restP S x).1 (restP S x).2.1.run).2 ≠ 0 then ((sealP (restP S x).1 (restP S x).2.1.run).1, { (restP S x).2.1 with dead := (sealP (restP S x).1 (restP S x).2.1.run).2 }, 0, (sealP (restP S x).1 (restP S x).2.1.run).2)
  else ((sealP (restP S x).1 (restP S x).2.1.run).1, { (restP S x).2.1 with dead := 13 }, (restP S x).2.1.run, 0)
theorem restP_run (S : St) (x : WrD) : (restP S x).2.1.run = x.run := by
  unfold restP flushP
  split
  · rfl
  · split <;> rfl

set_option maxRecDepth 100000 in
set_option maxHeartbeats 6400000 in
theorem Close_at {I : St → Prop} (hI : Inv I) {W w : World} {R : Thing} {k b : Nat} {ef : Nat → Nat × Nat} {S : St} {x : WrD} (h : At W w (Both (WrT k b ef x) (Both (StoreT b S) R))) (hR : Stable R) (hF : Fails W ef fails11)
    (hS : I S) (hrun : inI64 x.run) (hlen : x.buf.length ≤ 1099511627776) :
    Calls Tryd.prog 9 #[.pointer (some ⟨k, 0, none⟩)] w fun e w' => e = .returned (.tuple #[.int .i64 (closeP S x).2.2.1, errV ef (closeP S x).2.2.2]) ∧ At W w' (Both (WrT k b ef (closeP S x).2.1) (Both (StoreT b (closeP S x).1) R)) := by
  have HF := Lib.hid hF
  have HR := Lib.hid hR
  have H := Lib.hid h
  have HSS := Lib.hid hS
  have HRUN := Lib.hid hrun
  have neqn : ∀ wz : World, (binOp .neq tErr .nilIface .nilIface).run Tryd.prog wz = .ok (.bool false) wz := fun wz => neq_nil wz
  obtain ⟨res, hres⟩ : ∃ res, res = closeP S x := ⟨_, rfl⟩
  rw [← hres]
  unfold closeP at hres
  by_cases hd : x.dead = 0
  · rw [if_neg (by simpa using hd)] at hres
    have hst := wrState_calls h.wr
    rw [hd, errV_zero] at hst
    have HSC := Lib.hid hst
    -- behind the rest: seal
    have hrest : ∀ (w3 : World) (S1 : St) (x1 : WrD), x1.run = x.run → At W w3 (Both (WrT k b ef x1) (Both (StoreT b S1) R)) → ∀ (w4 : World), Below w3.heap.size w3 w4 → Calls Tryd.prog 31 #[.pointer (some ⟨b, 0, none⟩), .int .i64 x1.run] w4 fun e w' => e = .returned (errV ef (sealP S1 x1.run).2) ∧ At W w' (Both (WrT k b ef x1) (Both (StoreT b (sealP S1 x1.run).1) R)) := fun w3 S1 x1 hr1 h3 w4 hb => by
      have h4 := h3.mono ((WrT.stable _ _ _ _).both ((StoreT.stable _ _).both HR.out)) hb
      refine (Seal_7 h4.swap ((WrT.stable _ _ _ _).both HR.out) (fails11_7 HF.out) (by rw [hr1]; exact HRUN.out)).mono ?_
      rintro e w' ⟨he, hw⟩
      exact ⟨he, hw.swap⟩
    have HREST := Lib.hid hrest
    have hrr := restP_run S x
    have HRR := Lib.hid hrr
    clear hrest hst hrr
    by_cases hb0 : x.buf = []
    · have hre : restP S x = (S, x, 0) := if_pos hb0
      rw [hre] at hres
      dsimp only at hres
      rw [if_neg (by simp)] at hres
      have c3 := h.wr.c3
      rw [hb0] at c3
      clear h hd hF hS hb0 hre
      go_enter Tryd.func9, Tryd.ntmps9
      (repeat' (first | (go_big_may; fail) | go_values | go_skip | go_guarded | go_step | go_upon | go_back | dsimp only))
      refine HSC.out.mono ?_
      rintro e w1 ⟨rfl, rfl⟩
      obtain ⟨c0, c1, _, _, _, _, hlt⟩ := H.out.wr
      have hseal := HREST.out _ _ _ rfl H.out w.drew ((Below.refl _ _).drew)
      have hcg := And.intro c0 c1
      go_upto_region 8 with (fail)
      by_cases hs : (sealP S x.run).2 = 0
      · rw [if_neg (by simpa using hs)] at hres
        rw [hs, errV_zero] at hseal
        have HSEAL := Lib.hid hseal
        have HRES := Lib.hid hres
        clear hseal hs hres
        go_region_held3 (fun wx => wx.cell? ⟨k, 0, none⟩ = some (.pointer (some ⟨b, 0, none⟩)) ∧ wx.cell? ⟨k, 1, none⟩ = some (.int .i64 x.run)) (first | assumption | go_keep) (((with_reducible refine Calls.mono HSEAL.out ?_); rintro e w5 ⟨rfl, h5⟩; have H5 := Lib.hid h5; have cg5 := And.intro h5.wr.c0 h5.wr.c1; have hl5 := h5.wr.lt; clear h5))
        all_goals
          have hend := H5.out.setDead ((StoreT.stable _ _).both HR.out) 13
          rw [errV_pos ef (by decide)] at hend
          have HEND := Lib.hid hend
          have cgl := (HF.out.below H5.out.below).cell (13, 1) (by decide)
          obtain ⟨_, d1, _, _, d4, dz, dl⟩ := H5.out.wr
          obtain ⟨vd, d4⟩ : ∃ vd, w5.cell? ⟨k, 4, none⟩ = some vd := ⟨_, d4⟩
          have hgk : ¬ 1 = k := fun e => by
            have h1 := H5.out.wr.c0
            rw [← e, cgl] at h1
            cases h1
          clear hend hcg cg5 c0 c1 HSEAL
          (repeat' (first | (go_big_may; fail) | go_values | go_skip | go_guarded | go_step | go_upon | go_back | dsimp only))
          go_ret2
          rw [HRES.out]
          dsimp only
          rw [errV_zero]
          exact ⟨rfl, HEND.out⟩
      · rw [if_pos (by simpa using hs)] at hres
        have HEP := Lib.hid (errV_pos ef hs)
        rw [errV_pos ef hs] at hseal
        generalize hcc : (sealP S x.run).2 = c at *
        have neqi := run_neq_iface_nil2 ⟨(ef c).1, (ef c).2, none⟩
        have HSEAL := Lib.hid hseal
        have HRES := Lib.hid hres
        clear hseal hs hres hcc
        go_region_held3 (fun wx => wx.cell? ⟨k, 0, none⟩ = some (.pointer (some ⟨b, 0, none⟩)) ∧ wx.cell? ⟨k, 1, none⟩ = some (.int .i64 x.run)) (first | assumption | go_keep) (((with_reducible refine Calls.mono HSEAL.out ?_); rintro e w5 ⟨rfl, h5⟩; have H5 := Lib.hid h5; have cg5 := And.intro h5.wr.c0 h5.wr.c1; have hl5 := h5.wr.lt; clear h5))
        all_goals
          have hend := H5.out.setDead ((StoreT.stable _ _).both HR.out) c
          rw [HEP.out] at hend
          have HEND := Lib.hid hend
          obtain ⟨_, d1, _, _, d4, dz, dl⟩ := H5.out.wr
          obtain ⟨vd, d4⟩ : ∃ vd, w5.cell? ⟨k, 4, none⟩ = some vd := ⟨_, d4⟩
          clear hend hcg cg5 c0 c1 HSEAL
          (repeat' (first | (go_big_may; fail) | go_values | go_skip | go_guarded | go_step | go_upon | go_back | dsimp only))
          go_ret2
          rw [HRES.out]
          dsimp only
          rw [HEP.out]
          exact ⟨rfl, HEND.out⟩
    · have hre : restP S x = flushP S x x.buf.length := if_neg hb0
      have hfl := flush_at h hR hF (hI.le _ hS _) (n := x.buf.length) (Nat.le_refl _) hlen hrun
      rw [← hre] at hfl
      have c3 := h.wr.c3
      have hne : x.buf.isEmpty = false := by simpa using hb0
      clear hb0
      generalize hRP : restP S x = RP at *
      obtain ⟨S1, x1, c1⟩ := RP
      dsimp only at hres hfl
      have hr1 : x1.run = x.run := HRR.out
      have HR1 := Lib.hid hr1
      by_cases hc1 : c1 = 0
      · subst hc1
        rw [if_neg (by simp)] at hres
        rw [errV_zero] at hfl
        have HFL := Lib.hid hfl
        clear h hd hF hS hre hRP hfl hr1
        go_enter Tryd.func9, Tryd.ntmps9
        (repeat' (first | (go_big_may; fail) | go_values | go_skip | go_guarded | go_step | go_upon | go_back | dsimp only))
        refine HSC.out.mono ?_
        rintro e w1 ⟨rfl, rfl⟩
        (repeat' (first | (go_big_may; fail) | go_values | go_skip | go_guarded | go_step | go_upon | go_back | dsimp only))
        refine HFL.out.mono ?_
        rintro e w3 ⟨rfl, h3⟩
        have H3 := Lib.hid h3
        clear h3 c3 hne HFL
        obtain ⟨c0, c1, _, _, _, _, hlt⟩ := H3.out.wr
        have hseal := HREST.out _ _ _ HR1.out H3.out w3.drew ((Below.refl _ _).drew)
        have hcg := And.intro c0 c1
        go_upto_region 8 with (fail)
        by_cases hs : (sealP S1 x1.run).2 = 0
        · rw [if_neg (by simpa using hs)] at hres
          rw [hs, errV_zero] at hseal
          have HSEAL := Lib.hid hseal
          have HRES := Lib.hid hres
          clear hseal hs hres
          go_region_held3 (fun wx => wx.cell? ⟨k, 0, none⟩ = some (.pointer (some ⟨b, 0, none⟩)) ∧ wx.cell? ⟨k, 1, none⟩ = some (.int .i64 x1.run)) (first | assumption | go_keep) (((with_reducible refine Calls.mono HSEAL.out ?_); rintro e w5 ⟨rfl, h5⟩; have H5 := Lib.hid h5; have cg5 := And.intro h5.wr.c0 h5.wr.c1; have hl5 := h5.wr.lt; clear h5))
          all_goals
            have hend := H5.out.setDead ((StoreT.stable _ _).both HR.out) 13
            rw [errV_pos ef (by decide)] at hend
            have HEND := Lib.hid hend
            have cgl := (HF.out.below H5.out.below).cell (13, 1) (by decide)
            obtain ⟨_, d1, _, _, d4, dz, dl⟩ := H5.out.wr
            obtain ⟨vd, d4⟩ : ∃ vd, w5.cell? ⟨k, 4, none⟩ = some vd := ⟨_, d4⟩
            have hgk : ¬ 1 = k := fun e => by
              have h1 := H5.out.wr.c0
              rw [← e, cgl] at h1
              cases h1
            clear hend hcg cg5 c0 c1 HSEAL
            (repeat' (first | (go_big_may; fail) | go_values | go_skip | go_guarded | go_step | go_upon | go_back | dsimp only))
            go_ret2
            rw [HRES.out]
            dsimp only
            rw [errV_zero]
            exact ⟨rfl, HEND.out⟩
        · rw [if_pos (by simpa using hs)] at hres
          have HEP := Lib.hid (errV_pos ef hs)
          rw [errV_pos ef hs] at hseal
          generalize hcc : (sealP S1 x1.run).2 = c at *
          have neqi := run_neq_iface_nil2 ⟨(ef c).1, (ef c).2, none⟩
          have HSEAL := Lib.hid hseal
          have HRES := Lib.hid hres
          clear hseal hs hres hcc
          go_region_held3 (fun wx => wx.cell? ⟨k, 0, none⟩ = some (.pointer (some ⟨b, 0, none⟩)) ∧ wx.cell? ⟨k, 1, none⟩ = some (.int .i64 x1.run)) (first | assumption | go_keep) (((with_reducible refine Calls.mono HSEAL.out ?_); rintro e w5 ⟨rfl, h5⟩; have H5 := Lib.hid h5; have cg5 := And.intro h5.wr.c0 h5.wr.c1; have hl5 := h5.wr.lt; clear h5))
          all_goals
            have hend := H5.out.setDead ((StoreT.stable _ _).both HR.out) c
            rw [HEP.out] at hend
            have HEND := Lib.hid hend
            obtain ⟨_, d1, _, _, d4, dz, dl⟩ := H5.out.wr
            obtain ⟨vd, d4⟩ : ∃ vd, w5.cell? ⟨k, 4, none⟩ = some vd := ⟨_, d4⟩
            clear hend hcg cg5 c0 c1 HSEAL
            (repeat' (first | (go_big_may; fail) | go_values | go_skip | go_guarded | go_step | go_upon | go_back | dsimp only))
            go_ret2
            rw [HRES.out]
            dsimp only
            rw [HEP.out]
            exact ⟨rfl, HEND.out⟩
      · rw [if_pos (by simpa using hc1)] at hres
        have HEP := Lib.hid (errV_pos ef hc1)
        rw [errV_pos ef hc1] at hfl
        have neqi := run_neq_iface_nil2 ⟨(ef c1).1, (ef c1).2, none⟩
        have HFL := Lib.hid hfl
        have HRES := Lib.hid hres
        clear h hd hF hS hre hRP hfl hr1 hc1 hres
        go_enter Tryd.func9, Tryd.ntmps9
        (repeat' (first | (go_big_may; fail) | go_values | go_skip | go_guarded | go_step | go_upon | go_back | dsimp only))
        refine HSC.out.mono ?_
        rintro e w1 ⟨rfl, rfl⟩
        (repeat' (first | (go_big_may; fail) | go_values | go_skip | go_guarded | go_step | go_upon | go_back | dsimp only))
        refine HFL.out.mono ?_
        rintro e w3 ⟨rfl, h3⟩
        have H3 := Lib.hid h3
        clear h3 c3 hne HFL
        (repeat' (first | (go_big_may; fail) | go_values | go_skip | go_guarded | go_step | go_upon | go_back | dsimp only))
        go_ret2
        rw [HRES.out]
        dsimp only
        rw [HEP.out]
        exact ⟨rfl, H3.out⟩
  · rw [if_pos (by simpa using hd)] at hres
    have hst := wrState_calls h.wr
    rw [errV_pos ef hd] at hst
    have HSC := Lib.hid hst
    have HRES := Lib.hid hres
    have HEP := Lib.hid (errV_pos ef hd)
    have neqi := run_neq_iface_nil2 ⟨(ef x.dead).1, (ef x.dead).2, none⟩
    clear h hst hd hF hR hS hres
    go_enter Tryd.func9, Tryd.ntmps9
    (repeat' (first | (go_big_may; fail) | go_values | go_skip | go_guarded | go_step | go_upon | go_back | dsimp only))
    refine HSC.out.mono ?_
    rintro e w1 ⟨rfl, rfl⟩
    (repeat' (first | (go_big_may; fail) | go_values | go_skip | go_guarded | go_step | go_upon | go_back | dsimp only))
    go_ret2
    rw [HRES.out]
    dsimp only
    rw [HEP.out]
    exact ⟨rfl, H.out⟩
end Go.Proofs.YtkffeaeacfhobaaDoor
