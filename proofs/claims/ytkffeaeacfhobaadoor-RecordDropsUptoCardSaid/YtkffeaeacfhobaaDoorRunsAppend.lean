/- runs: Append walked, over what strings.Join answers (written by port/runsappend.py). -/
import Derived.Test.YtkffeaeacfhobaaDoorRunsStr
namespace Go.Proofs.YtkffeaeacfhobaaDoor
open Go.RowKit

/-- The store with these bytes at the run's end. -/
def grownS (S : St) (p : Nat × RunD) (t : List UInt8) : St := { S.setRun p.1 ⟨p.2.text ++ t, p.2.sealed⟩ with used := S.used + t.length, peak := max S.peak (S.used + t.length) }
/-- What Append answers and leaves. -/
def appendP (S : St) (z : Int) (t : List UInt8) : St × Nat := withRun S z fun p => if S.cap - S.used < t.length then (stepS S, 7) else (grownS (stepS S) p t, 0)
theorem info_u8 : (Tryd.prog.info? 5).map (fun i => (i.zero, i.size, i.bytes)) = some (some (.int .u8 0), 1, 1) := by kernel_rfl

set_option maxRecDepth 100000 in
set_option maxHeartbeats 1600000 in
theorem Append_calls {w : World} {b mb : Nat} {blk : Nat → Nat} {val : Nat → Value} {S : St} (h : StoreI w b mb blk val S) {ef : Nat → Nat × Nat} {fl : List (Nat × Nat)} (hF : Fails w ef fl) (hx9 : (9, 11) ∈ fl) (hx3 : (3, 5) ∈ fl) (hx4 : (4, 8) ∈ fl)
    (hx7 : (7, 9) ∈ fl)
    (hFA : ∀ w', Upd [b] w w' → Fails w' ef fl) {z : Int} (hz : inI64 z) {vp : Value} {t : List UInt8}
    (hle : ∀ p, S.find z = some p → p.2.text.length ≤ S.used)
    (hJ : ∀ w', Upd [b] w w' → Calls Tryd.prog 66 #[vp, .string ⟨#[]⟩] w' fun e w'' => e = .returned (.string ⟨t.toArray⟩) ∧ Below w'.heap.size w' w'') :
    Calls Tryd.prog 53 #[.pointer (some ⟨b, 0, none⟩), .int .i64 z, vp] w fun e w' => e = .returned (errV ef (appendP S z t).2) ∧ StPost w b mb blk val S (appendP S z t).1 w' := by
  have HJ := Lib.hid hJ
  have hsz := h.sizes
  have HX7 := Lib.hid hx7
  have hst := step_calls h hF hx9
  have hfu : ∀ w', Upd [b] w w' → Upd (fpS b mb blk val S) w w' := fun w' hu => hu.mono (by simp [fpS])
  have hgr : Grow w (fpS b mb blk val S) (fpS b mb blk val (stepS S)) := Grow.refl _ _
  have HST := Lib.hid hst
  have HFU := Lib.hid hfu
  have HGR := Lib.hid hgr
  have HFA := Lib.hid hFA
  have HX := Lib.hid (And.intro hx3 hx4)
  have HZ := Lib.hid hz
  have hmem : ∀ q ∈ S.runs, blk q.1 ∈ fpS b mb blk val S := fun q hq => mem_fpS.2 (.inr (.inr ⟨q, hq, .inl rfl⟩))
  have HM := Lib.hid hmem
  clear h hF hJ hx7 hx9 hst hfu hgr hFA hx3 hx4 hz hmem
  by_cases h1 : S.left = 1
  · have e1 : appendP S z t = (stepS S, 9) := withRun_broken h1
    have e2 : stepC S = 9 := by unfold stepC; rw [if_pos h1]
    have ev := errV_pos ef (c := 9) (by decide)
    rw [e1]
    rw [e2] at HST
    dsimp only at HST ⊢
    rw [ev] at HST ⊢
    have hq := fun w : World => run_neq_iface_nil (P := Tryd.prog) w tES (.pointer (some ⟨(ef 9).1, (ef 9).2, none⟩)) Tryd.underlying25
    clear h1 e1 e2 ev
    go_enter Tryd.func53, Tryd.ntmps53
    (repeat' (first | (go_big_may; fail) | go_values | go_skip | go_guarded | go_step | go_upon | go_back | dsimp only))
    refine HST.out.mono ?_
    rintro e w1 ⟨rfl, hs1, hu1⟩
    have HP := Lib.hid (show StPost w b mb blk val S (stepS S) w1 from ⟨blk, val, hs1, HFU.out _ hu1, HGR.out⟩)
    clear hs1 hu1 HST HFU HGR
    (repeat' (first | (go_big_may; fail) | go_values | go_skip | go_guarded | go_step | go_upon | go_back | dsimp only))
    go_ret
    exact ⟨rfl, HP.out⟩
  · have e2 : stepC S = 0 := by unfold stepC; rw [if_neg h1]
    rw [e2, errV_zero] at HST
    have hqn := neq_nil
    have ho : openC (stepS S) z = openC S z := rfl
    have hov : openV (stepS S) blk z = openV S blk z := rfl
    by_cases h3 : openC S z = 0
    · obtain ⟨p, hf, hs⟩ := open_some h3
      have e1 : appendP S z t = (if S.cap - S.used < t.length then (stepS S, 7) else (grownS (stepS S) p t, 0)) := withRun_ok h1 hf hs
      have HSE := Lib.hid hs
      have hlen := hle p hf
      have HMEM := Lib.hid (find_mem hf).1
      have HOV := Lib.hid (openV_ok hf hs blk)
      have HO := Lib.hid h3
      rw [e1]
      clear h1 e1 e2 h3 hf hs ho hov hle
      by_cases hfull : S.cap - S.used < t.length
      · rw [if_pos hfull]
        have ev := errV_pos ef (c := 7) (by decide)
        dsimp only
        rw [ev]
        have hgt : (S.cap : Int) - (S.used : Int) < (t.length : Int) := by omega
        clear hfull ev
        go_enter Tryd.func53, Tryd.ntmps53
        (repeat' (first | (go_big_may; fail) | go_values | go_skip | go_guarded | go_step | go_upon | go_back | dsimp only))
        refine HST.out.mono ?_
        rintro e w1 ⟨rfl, hs1, hu1⟩
        have hop := open_calls hs1 (HFA.out _ hu1) HX.out.1 HX.out.2 HZ.out
        rw [show openC (stepS S) z = 0 from HO.out, show openV (stepS S) blk z = .pointer (some ⟨blk p.1, 0, none⟩) from HOV.out, errV_zero] at hop
        have HOP := Lib.hid hop
        have HS1 := Lib.hid hs1
        have HU1 := Lib.hid hu1
        clear hop hs1 hu1 HST
        (repeat' (first | (go_big_may; fail) | go_values | go_skip | go_guarded | go_step | go_upon | go_back | dsimp only))
        refine HOP.out.mono ?_
        rintro e w2 ⟨rfl, hb2⟩
        have hs2 := HS1.out.below hb2
        have hu0 : Upd [b] w w2 := HU1.out.trans (Upd.of_below hb2 [b]) (Grow.refl _ _)
        have HU2 := Lib.hid hu0
        have HS2 := Lib.hid hs2
        have HFW := Lib.hid (HFA.out _ hu0)
        have HJ2 := Lib.hid (HJ.out _ hu0)
        clear hs2 hu0 hb2 HOP HU1 HS1 HO HOV HFA HJ HX HZ
        (repeat' (first | (go_big_may; fail) | go_values | go_skip | go_guarded | go_step | go_upon | go_back | dsimp only))
        refine HJ2.out.mono ?_
        rintro e w3 ⟨rfl, hb3⟩
        have hs3 := HS2.out.below hb3
        have hu3 := HU2.out.trans (Upd.of_below hb3 [b]) (Grow.refl _ _)
        have hf3 := hs3.facts
        have c0 := hf3.c0
        have c1 := hf3.c1
        rw [show (stepS S).cap = S.cap from rfl] at c0
        rw [show (stepS S).used = S.used from rfl] at c1
        have cg7 : w3.cell? ⟨9, 0, none⟩ = some (.iface tES (.pointer (some ⟨(ef 7).1, (ef 7).2, none⟩))) := (HFW.out.below hb3).cell _ HX7.out
        have hp : ∀ n, StPost w b mb blk val S (stepS S) (w3.drewN n) := fun n => ⟨blk, val, hs3.below (below_dW _ _), HFU.out _ (hu3.drewN n), HGR.out⟩
        have HP := Lib.hid hp
        clear hs3 hu3 hf3 hp hb3 HFU HU2 HS2 HMEM HM HGR HX7 HFW HJ2 HSE
        (repeat' (first | (go_big_may; fail) | go_values | go_skip | go_guarded | go_step | go_upon | go_back | dsimp only))
        go_quiet (fail)
        (repeat' (first | (go_big_may; fail) | go_values | go_skip | go_guarded | go_step | go_upon | go_back | dsimp only))
        go_ret
        exact ⟨rfl, HP.out _⟩
      · rw [if_neg hfull]
        dsimp only
        rw [errV_zero]
        have hgt : ¬ ((S.cap : Int) - (S.used : Int) < (t.length : Int)) := by omega
        have hroom : S.used + t.length ≤ S.cap := by omega
        clear hfull
        go_enter Tryd.func53, Tryd.ntmps53
        (repeat' (first | (go_big_may; fail) | go_values | go_skip | go_guarded | go_step | go_upon | go_back | dsimp only))
        refine HST.out.mono ?_
        rintro e w1 ⟨rfl, hs1, hu1⟩
        have hop := open_calls hs1 (HFA.out _ hu1) HX.out.1 HX.out.2 HZ.out
        rw [show openC (stepS S) z = 0 from HO.out, show openV (stepS S) blk z = .pointer (some ⟨blk p.1, 0, none⟩) from HOV.out, errV_zero] at hop
        have HOP := Lib.hid hop
        have HS1 := Lib.hid hs1
        have HU1 := Lib.hid hu1
        clear hop hs1 hu1 HST
        (repeat' (first | (go_big_may; fail) | go_values | go_skip | go_guarded | go_step | go_upon | go_back | dsimp only))
        refine HOP.out.mono ?_
        rintro e w2 ⟨rfl, hb2⟩
        have hs2 := HS1.out.below hb2
        have hu0 : Upd [b] w w2 := HU1.out.trans (Upd.of_below hb2 [b]) (Grow.refl _ _)
        have HU2 := Lib.hid hu0
        have HS2 := Lib.hid hs2
        have HFW := Lib.hid (HFA.out _ hu0)
        have HJ2 := Lib.hid (HJ.out _ hu0)
        clear hs2 hu0 hb2 HOP HU1 HS1 HO HOV HFA HJ HX HZ
        (repeat' (first | (go_big_may; fail) | go_values | go_skip | go_guarded | go_step | go_upon | go_back | dsimp only))
        refine HJ2.out.mono ?_
        rintro e w3 ⟨rfl, hb3⟩
        have hs3 := HS2.out.below hb3
        have hu3 := HU2.out.trans (Upd.of_below hb3 [b]) (Grow.refl _ _)
        have hf3 := hs3.facts
        have c0 := hf3.c0
        have c1 := hf3.c1
        rw [show (stepS S).cap = S.cap from rfl] at c0
        rw [show (stepS S).used = S.used from rfl] at c1
        have hrun := hs3.run p HMEM.out
        have r0 : w3.cell? ⟨blk p.1, 0, none⟩ = some (val p.1) := by simp [World.cell?, hrun]
        obtain ⟨i0, hi, hz0, hz1, hz2⟩ := info_parts info_u8
        have hp : ∀ n, StoreI (w3.drewN n) b mb blk val (stepS S) ∧ Upd (fpS b mb blk val S) w (w3.drewN n) := fun n => ⟨hs3.below (below_dW _ _), HFU.out _ (hu3.drewN n)⟩
        have HP := Lib.hid hp
        clear hs3 hu3 hf3 hp hb3 HFU HU2 HS2 HM HGR HX7 HFW HJ2 HSE hrun
        (repeat' (first | (go_big_may; fail) | go_values | go_skip | go_guarded | go_step | go_upon | go_back | dsimp only))
        go_quiet (fail)
        (repeat' (first | (go_big_may; (at_builtin; refine wpList_append_str rfl _ _ 91 9 rfl 5 i0 Tryd.underlying91 Tryd.underlying9 hi hz0 hz1 hz2 _ _ _ rfl ((HP.out _).1.row p HMEM.out) ⟨t.toArray⟩ rfl (by show _ + t.length ≤ maxLen; unfold maxLen; omega) (by show _ + t.length ≤ _; omega) ?_; intro v' w5 hown5 hgrow5 hv5; obtain ⟨hs6, hu6, hg6, hf6, x6, hx6⟩ := StoreI.appended (HP.out _).1 HMEM.out hown5 hgrow5 hv5; obtain ⟨ao, n', cap', rfl⟩ := World.ownsRow.slice_form hown5; have hlt6 := World.block_lt_of_cell? _ _ hx6; have HU6 := Lib.hid hu6; have HG6 := Lib.hid hg6; have HS6 := Lib.hid hs6; have c16 := hs6.facts.c1; have c26 := hs6.facts.c2; have fz6 := hs6.facts.fz; rw [show ((stepS S).setRun p.1 ⟨p.2.text ++ t, p.2.sealed⟩).used = S.used from rfl] at c16; have hs7 := hs6.more (n := t.length) (show S.used + t.length ≤ S.cap from hroom); have c17 := hs7.facts.c1; have c27 := hs7.facts.c2; have fz7 := hs7.facts.fz; have HS7 := Lib.hid hs7; rw [show ((stepS S).setRun p.1 ⟨p.2.text ++ t, p.2.sealed⟩).used = S.used from rfl] at c17; rw [show ((stepS S).setRun p.1 ⟨p.2.text ++ t, p.2.sealed⟩).peak = S.peak from rfl] at c27; dsimp only at c17 c27; rw [Int.natCast_add] at c17; clear hown5 hgrow5 hv5 hs6 hu6 hg6 hs7)) | go_values | go_skip | go_guarded | go_step | go_upon | go_back | dsimp only))
        go_region
        (repeat' (first | (go_big_may; fail) | go_values | go_skip | go_guarded | go_step | go_upon | go_back | dsimp only))
        go_ret
        have hb : b ∈ fpS b mb blk val S := by simp [fpS]
        have hs8 := StoreI.peaked HS7.out (m := max S.peak (S.used + t.length)) (by show max S.peak (S.used + t.length) ≤ S.cap; omega) (z := if (S.peak : Int) < (S.used : Int) + (t.length : Int) then (S.used : Int) + (t.length : Int) else (S.peak : Int)) (by split <;> omega)
        exact ⟨rfl, blk, _, hs8.below (below_dW _ 1), ((((HP.out _).2.trans HU6.out (Grow.refl _ _)).setCell (.inl hb) _).setCell (.inl hb) _).drew, Grow.trans (Grow.refl w (fpS b mb blk val S)) HG6.out (HP.out _).2.size⟩
    · have e1 : appendP S z t = (stepS S, openC S z) := withRun_err h1 h3
      have ev := errV_pos ef h3
      rw [e1]
      dsimp only
      rw [ev]
      have hq := fun w : World => run_neq_iface_nil (P := Tryd.prog) w tES (.pointer (some ⟨(ef (openC S z)).1, (ef (openC S z)).2, none⟩)) Tryd.underlying25
      have HE := Lib.hid ev
      clear h1 e1 e2 h3 ho hov ev
      go_enter Tryd.func53, Tryd.ntmps53
      (repeat' (first | (go_big_may; fail) | go_values | go_skip | go_guarded | go_step | go_upon | go_back | dsimp only))
      refine HST.out.mono ?_
      rintro e w1 ⟨rfl, hs1, hu1⟩
      have hop := open_calls hs1 (HFA.out _ hu1) HX.out.1 HX.out.2 HZ.out
      rw [show openC (stepS S) z = openC S z from rfl, HE.out] at hop
      have HOP := Lib.hid hop
      have HS1 := Lib.hid hs1
      have HU1 := Lib.hid hu1
      clear hop hs1 hu1 HST
      (repeat' (first | (go_big_may; fail) | go_values | go_skip | go_guarded | go_step | go_upon | go_back | dsimp only))
      refine HOP.out.mono ?_
      rintro e w2 ⟨rfl, hb2⟩
      have HP := Lib.hid (show StPost w b mb blk val S (stepS S) w2 from ⟨blk, val, HS1.out.below hb2, (HFU.out _ HU1.out).trans (Upd.of_below hb2 (fpS b mb blk val S)) (Grow.refl _ _), HGR.out⟩)
      generalize openV (stepS S) blk z = v
      clear hb2 HOP HFU HU1 HS1 HM HFA HGR HX HZ HE HJ HX7 hsz
      (repeat' (first | (go_big_may; fail) | go_values | go_skip | go_guarded | go_step | go_upon | go_back | dsimp only))
      go_ret
      exact ⟨rfl, HP.out⟩
end Go.Proofs.YtkffeaeacfhobaaDoor
