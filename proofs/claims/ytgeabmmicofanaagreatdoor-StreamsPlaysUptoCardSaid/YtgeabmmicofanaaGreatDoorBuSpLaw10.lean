/- append(x, s...) for a string s at a row of the call's own: where the new row lies. Over any program. · runs: Append walked, over what strings.Join answers (written by port/runsappend.py). -/
import Derived.Test.YtgeabmmicofanaaGreatDoorBuSpLaw09
import Derived.Lib.AppendStr
set_option linter.unusedSimpArgs false
set_option linter.unusedVariables false
namespace Go.Proofs.YtgeabmmicofanaaGreatDoor
open Go.RowKit Go.BigFrame

theorem append_block_string {P : Program} (w : World) (t u ty e : TypeId) (i : TypeInfo) (ht : P.underlying t = some (.slice e)) (hu : P.underlying u = some .string) (hi : P.info? e = some i) (hz : i.zero = some (.int .u8 0))
    (hsize : i.size = 1) (hby : i.bytes = 1) {base : Nat} {v : Value} {n : Nat} {xs : List Value} (hown : w.ownsRow base e 1 v n xs) (s : ByteArray)
    (h63 : n + s.size ≤ maxLen) (hbytes : n + s.size ≤ 140737488355328) {v' : Value} {w' : World}
    (hr : (Builtin.append_ #[t, u] ty #[v, .string s]).run P w = .ok v' w') : ∀ k, v'.ownBlock = some k → v.ownBlock = some k ∨ w.heap.size ≤ k := by
  intro k hk
  rcases hown.2 with ⟨rfl, rfl⟩ | ⟨g, cap, cur, rfl, hbg, hg, hnc, hcm, hcs, htake⟩
  · have hx : xs = [] := List.eq_nil_of_length_eq_zero (by simpa using hown.1)
    subst hx
    obtain ⟨v2, w2, hr2, ho2, _⟩ := Lib.run_append_own_string (P := P) w w.heap.size t u ty e i ht hu hi hz hsize hby (.slice none 0 0) 0 [] (World.ownsRow_nil _ _ _ _) s h63 hbytes (Nat.le_refl _)
    rw [hr] at hr2
    cases hr2
    exact .inr (ho2.lt k hk).1
  · by_cases hroom : n + s.size ≤ cap
    · rw [Lib.run_append_room_string (P := P) w t u ty e i ht hu hi hsize g n cap cur hg s hroom (by omega)] at hr
      cases hr
      exact .inl hk
    · have holds : ∀ j u, xs[j]? = some u → w.cell? ((⟨g, 0, none⟩ : Addr).add j) = some u := hown.cells (g := g) rfl
      have hr2 := Lib.run_append_grow_string (P := P) w t u ty e i (.int .u8 0) ht hu hi hz ⟨g, 0, none⟩ n cap xs (by rw [hsize]; exact hown.1) holds s (by omega) (by simp only [maxLen] at h63; omega) (by rw [hby]; exact growslice_fits (by omega) (by omega))
      rw [hr] at hr2
      cases hr2
      simp only [Value.ownBlock, Option.some.injEq] at hk
      exact .inr (by rw [← hk]; exact Nat.le_refl _)

theorem wpList_append_str {P : Program} {ops : Array Oper} {rest : List Oper} {o : Oper} {a : Act} {w : World} {Q : Exit → Act → World → Prop} (hgd : o.guard = none) (sl x : Operand) (t u : TypeId)
    (ho : o.op = .call { callee := .builtin .append, args := #[sl, x], argTypes := #[t, u] })
    (e : TypeId) (i : TypeInfo) (ht : P.underlying t = some (.slice e)) (hu : P.underlying u = some .string) (hi : P.info? e = some i) (hz : i.zero = some (.int .u8 0))
    (hsize : i.size = 1) (hby : i.bytes = 1)
    (v : Value) (n : Nat) (xs : List Value) (hs : a.eval sl = v) (hown : w.ownsRow 0 e 1 v n xs) (s : ByteArray) (hx : a.eval x = .string s)
    (h63 : n + s.size ≤ maxLen) (hbytes : n + s.size ≤ 140737488355328)
    (h : ∀ v' w', w'.ownsRow 0 e 1 v' (n + s.size) (xs ++ Lib.strCells s) → w.grownBy w' v.ownBlock → (∀ k, v'.ownBlock = some k → v.ownBlock = some k ∨ w.heap.size ≤ k) → wpList P ops Q rest (a.put o.dst v') w') : wpList P ops Q (o :: rest) a w := by
  refine wpList_plain hgd fun K' hK' => ?_
  obtain ⟨v', w', hr, h1, h2, _⟩ := Lib.run_append_own_string (P := P) w 0 t u o.type e i ht hu hi hz hsize hby v n xs hown s h63 hbytes (Nat.zero_le _)
  unfold Oper.wp
  simp [execOp, ho, resolve, invoke, builtin, hs, hx, hr, Result.andThen]
  exact hK' _ _ (h v' w' h1 h2 (append_block_string w t u o.type e i ht hu hi hz hsize hby hown s h63 hbytes hr))

theorem World.ownsRow.slice_form {w : World} {base : Nat} {e : TypeId} {size : Nat} {v : Value} {n : Nat} {xs : List Value} (h : w.ownsRow base e size v n xs) : ∃ ao n' cap, v = .slice ao n' cap := by
  rcases h.2 with ⟨hv, _⟩ | ⟨g, cap, cur, hv, _⟩
  · exact ⟨_, _, _, hv⟩
  · exact ⟨_, _, _, hv⟩

/-- The bytes of a string. -/
theorem strCells_bvs (t : List UInt8) : Lib.strCells ⟨t.toArray⟩ = bvs t := by
  simp [Lib.strCells, Lib.byteCells]

/-- The store behind an append to a run, the new row stored. -/
theorem StoreI.appended {w w5 : World} {b mb : Nat} {blk : Nat → Nat} {val : Nat → Value} {S : St} (h : StoreI w b mb blk val S) {p : Nat × RunD} (hp : p ∈ S.runs) {t : List UInt8} {v' : Value}
    (hown : w5.ownsRow 0 5 1 v' (p.2.text.length + (⟨t.toArray⟩ : ByteArray).size) (bvs p.2.text ++ Lib.strCells ⟨t.toArray⟩)) (hg : w.grownBy w5 (val p.1).ownBlock)
    (hv : ∀ k, v'.ownBlock = some k → (val p.1).ownBlock = some k ∨ w.heap.size ≤ k) :
    StoreI (w5.setCell ⟨blk p.1, 0, none⟩ v') b mb blk (upTo val p.1 v') (S.setRun p.1 ⟨p.2.text ++ t, p.2.sealed⟩) ∧ Upd (fpS b mb blk val S) w (w5.setCell ⟨blk p.1, 0, none⟩ v') ∧
      Grow w (fpS b mb blk val S) (fpS b mb blk (upTo val p.1 v') (S.setRun p.1 ⟨p.2.text ++ t, p.2.sealed⟩)) ∧ w5.frozen? ⟨blk p.1, 0, none⟩ = false ∧ (∃ x, w5.cell? ⟨blk p.1, 0, none⟩ = some x) := by
  have hrun := h.run p hp
  have hlt := lt_of_heap hrun
  have hne := h.run_ne hp
  have h5 : w5.heap[blk p.1]? = some (.cells #[val p.1, .bool p.2.sealed] tRun (0, 0)) := by
    rw [hg.block _ hlt (fun e => hne.2.2 p hp e.symm)]; exact hrun
  have hvb : ∀ k, v'.ownBlock = some k → k ≠ blk p.1 := fun k hk e => by
    rcases hv k hk with h1 | h1
    · exact hne.2.2 p hp (by rw [h1, e])
    · omega
  have hs : StoreI (w5.setCell ⟨blk p.1, 0, none⟩ v') b mb blk (upTo val p.1 v') (S.setRun p.1 ⟨p.2.text ++ t, p.2.sealed⟩) := by
    refine h.setRun hp (heap_setCell h5 _) (ownsRow_block ?_ fun k hk => Below.heap_setCell _ _ _ _ (hvb k hk)) (fun j hj hj1 hj2 => ?_) hv
    · rw [strCells_bvs, ← bvs_append] at hown
      rw [List.length_append]
      exact hown
    · rw [Below.heap_setCell _ _ _ _ hj1]
      exact hg.block j (h.lt j hj) (fun e => hj2 e.symm)
  refine ⟨hs, ?_, grow_setRun ⟨p, hp, rfl⟩ hv, by simp [World.frozen?, h5], ⟨val p.1, by simp [World.cell?, h5]⟩⟩
  exact ((Upd.refl (fpS b mb blk val S) w).grown hg (fun k hk => .inl (mem_fpS.2 (.inr (.inr ⟨p, hp, .inr hk⟩))))).setCell (.inl (mem_fpS.2 (.inr (.inr ⟨p, hp, .inl rfl⟩)))) _
theorem StoreI.more {w : World} {b mb : Nat} {blk : Nat → Nat} {val : Nat → Value} {S : St} (h : StoreI w b mb blk val S) {n : Nat} (hn : S.used + n ≤ S.cap) :
    StoreI (w.setCell ⟨b, 1, none⟩ (.int .i64 ((S.used : Int) + (n : Int)))) b mb blk val { S with used := S.used + n } :=
  h.reset (S' := { S with used := S.used + n }) rfl (Nat.le_refl _) ⟨h.sizes.1, hn, h.sizes.2.2.1, h.sizes.2.2.2.1, h.sizes.2.2.2.2⟩ 1 _ rfl
theorem StoreI.peaked {w : World} {b mb : Nat} {blk : Nat → Nat} {val : Nat → Value} {S : St} (h : StoreI w b mb blk val S) {m : Nat} (hm : m ≤ S.cap) {z : Int} (hz : z = (m : Int)) :
    StoreI (w.setCell ⟨b, 2, none⟩ (.int .i64 z)) b mb blk val { S with peak := m } :=
  h.reset (S' := { S with peak := m }) rfl (Nat.le_refl _) ⟨h.sizes.1, h.sizes.2.1, hm, h.sizes.2.2.2.1, h.sizes.2.2.2.2⟩ 2 _ (by subst hz; rfl)
end Go.Proofs.YtgeabmmicofanaaGreatDoor
namespace Go.Proofs.YtgeabmmicofanaaGreatDoor
open Go.RowKit

/-- The store with these bytes at the run's end. -/
def grownS (S : St) (p : Nat × RunD) (t : List UInt8) : St := { S.setRun p.1 ⟨p.2.text ++ t, p.2.sealed⟩ with used := S.used + t.length, peak := max S.peak (S.used + t.length) }
/-- What Append answers and leaves. -/
def appendP (S : St) (z : Int) (t : List UInt8) : St × Nat := withRun S z fun p => if S.cap - S.used < t.length then (stepS S, 7) else (grownS (stepS S) p t, 0)
theorem info_u8R : (Tryz.prog.info? 5).map (fun i => (i.zero, i.size, i.bytes)) = some (some (.int .u8 0), 1, 1) := by kernel_rfl

set_option maxRecDepth 100000 in
set_option maxHeartbeats 1600000 in
theorem Append_calls {w : World} {b mb : Nat} {blk : Nat → Nat} {val : Nat → Value} {S : St} (h : StoreI w b mb blk val S) {ef : Nat → Nat × Nat} {fl : List (Nat × Nat)} (hF : Fails w ef fl) (hx9 : (9, 3) ∈ fl) (hx3 : (3, 4) ∈ fl) (hx4 : (4, 5) ∈ fl)
    (hx7 : (7, 1) ∈ fl)
    (hFA : ∀ w', Upd [b] w w' → Fails w' ef fl) {z : Int} (hz : inI64 z) {vp : Value} {t : List UInt8}
    (hle : ∀ p, S.find z = some p → p.2.text.length ≤ S.used)
    (hJ : ∀ w', Upd [b] w w' → Calls Tryz.prog 53 #[vp, .string ⟨#[]⟩] w' fun e w'' => e = .returned (.string ⟨t.toArray⟩) ∧ Below w'.heap.size w' w'') :
    Calls Tryz.prog 23 #[.pointer (some ⟨b, 0, none⟩), .int .i64 z, vp] w fun e w' => e = .returned (errV ef (appendP S z t).2) ∧ StPost w b mb blk val S (appendP S z t).1 w' := by
  have HJ := Lib.hid hJ
  have hsz := h.sizes
  have HX7 := Lib.hid hx7
  have hst := step_calls h hF hx9
  have hfu : ∀ w', Upd [b] w w' → Upd (fpS b mb blk val S) w w' := fun w' hu => hu.mono (by simp [fpS])
  have hgr : Grow w (fpS b mb blk val S) (fpS b mb blk val (stepS S)) := Grow.refl _ _
  have HST := Lib.hid hst
  have HFU := Lib.hid hfu
  have HGR := Lib.hid hgr
  have HFA := Lib.hid hFA
  have HX := Lib.hid (And.intro hx3 hx4)
  have HZ := Lib.hid hz
  have hmem : ∀ q ∈ S.runs, blk q.1 ∈ fpS b mb blk val S := fun q hq => mem_fpS.2 (.inr (.inr ⟨q, hq, .inl rfl⟩))
  have HM := Lib.hid hmem
  clear h hF hJ hx7 hx9 hst hfu hgr hFA hx3 hx4 hz hmem
  by_cases h1 : S.left = 1
  · have e1 : appendP S z t = (stepS S, 9) := withRun_broken h1
    have e2 : stepC S = 9 := by unfold stepC; rw [if_pos h1]
    have ev := errV_pos ef (c := 9) (by decide)
    rw [e1]
    rw [e2] at HST
    dsimp only at HST ⊢
    rw [ev] at HST ⊢
    have hq := fun w : World => run_neq_iface_nil (P := Tryz.prog) w tES (.pointer (some ⟨(ef 9).1, (ef 9).2, none⟩)) Tryz.underlying58
    clear h1 e1 e2 ev
    go_enter Tryz.func23, Tryz.ntmps23
    (repeat' (first | (go_big_may; fail) | go_values | go_skip | go_guarded | go_step | go_upon | go_back | dsimp only))
    refine HST.out.mono ?_
    rintro e w1 ⟨rfl, hs1, hu1⟩
    have HP := Lib.hid (show StPost w b mb blk val S (stepS S) w1 from ⟨blk, val, hs1, HFU.out _ hu1, HGR.out⟩)
    clear hs1 hu1 HST HFU HGR
    (repeat' (first | (go_big_may; fail) | go_values | go_skip | go_guarded | go_step | go_upon | go_back | dsimp only))
    go_ret
    exact ⟨rfl, HP.out⟩
  · have e2 : stepC S = 0 := by unfold stepC; rw [if_neg h1]
    rw [e2, errV_zero] at HST
    have hqn := neq_nil
    have ho : openC (stepS S) z = openC S z := rfl
    have hov : openV (stepS S) blk z = openV S blk z := rfl
    by_cases h3 : openC S z = 0
    · obtain ⟨p, hf, hs⟩ := open_some h3
      have e1 : appendP S z t = (if S.cap - S.used < t.length then (stepS S, 7) else (grownS (stepS S) p t, 0)) := withRun_ok h1 hf hs
      have HSE := Lib.hid hs
      have hlen := hle p hf
      have HMEM := Lib.hid (find_mem hf).1
      have HOV := Lib.hid (openV_ok hf hs blk)
      have HO := Lib.hid h3
      rw [e1]
      clear h1 e1 e2 h3 hf hs ho hov hle
      by_cases hfull : S.cap - S.used < t.length
      · rw [if_pos hfull]
        have ev := errV_pos ef (c := 7) (by decide)
        dsimp only
        rw [ev]
        have hgt : (S.cap : Int) - (S.used : Int) < (t.length : Int) := by omega
        clear hfull ev
        go_enter Tryz.func23, Tryz.ntmps23
        (repeat' (first | (go_big_may; fail) | go_values | go_skip | go_guarded | go_step | go_upon | go_back | dsimp only))
        refine HST.out.mono ?_
        rintro e w1 ⟨rfl, hs1, hu1⟩
        have hop := open_calls hs1 (HFA.out _ hu1) HX.out.1 HX.out.2 HZ.out
        rw [show openC (stepS S) z = 0 from HO.out, show openV (stepS S) blk z = .pointer (some ⟨blk p.1, 0, none⟩) from HOV.out, errV_zero] at hop
        have HOP := Lib.hid hop
        have HS1 := Lib.hid hs1
        have HU1 := Lib.hid hu1
        clear hop hs1 hu1 HST
        (repeat' (first | (go_big_may; fail) | go_values | go_skip | go_guarded | go_step | go_upon | go_back | dsimp only))
        refine HOP.out.mono ?_
        rintro e w2 ⟨rfl, hb2⟩
        have hs2 := HS1.out.below hb2
        have hu0 : Upd [b] w w2 := HU1.out.trans (Upd.of_below hb2 [b]) (Grow.refl _ _)
        have HU2 := Lib.hid hu0
        have HS2 := Lib.hid hs2
        have HFW := Lib.hid (HFA.out _ hu0)
        have HJ2 := Lib.hid (HJ.out _ hu0)
        clear hs2 hu0 hb2 HOP HU1 HS1 HO HOV HFA HJ HX HZ
        (repeat' (first | (go_big_may; fail) | go_values | go_skip | go_guarded | go_step | go_upon | go_back | dsimp only))
        refine HJ2.out.mono ?_
        rintro e w3 ⟨rfl, hb3⟩
        have hs3 := HS2.out.below hb3
        have hu3 := HU2.out.trans (Upd.of_below hb3 [b]) (Grow.refl _ _)
        have hf3 := hs3.facts
        have c0 := hf3.c0
        have c1 := hf3.c1
        rw [show (stepS S).cap = S.cap from rfl] at c0
        rw [show (stepS S).used = S.used from rfl] at c1
        have cg7 : w3.cell? ⟨1, 0, none⟩ = some (.iface tES (.pointer (some ⟨(ef 7).1, (ef 7).2, none⟩))) := (HFW.out.below hb3).cell _ HX7.out
        have hp : ∀ n, StPost w b mb blk val S (stepS S) (w3.drewN n) := fun n => ⟨blk, val, hs3.below (below_dW _ _), HFU.out _ (hu3.drewN n), HGR.out⟩
        have HP := Lib.hid hp
        clear hs3 hu3 hf3 hp hb3 HFU HU2 HS2 HMEM HM HGR HX7 HFW HJ2 HSE
        (repeat' (first | (go_big_may; fail) | go_values | go_skip | go_guarded | go_step | go_upon | go_back | dsimp only))
        go_quiet (fail)
        (repeat' (first | (go_big_may; fail) | go_values | go_skip | go_guarded | go_step | go_upon | go_back | dsimp only))
        go_ret
        exact ⟨rfl, HP.out _⟩
      · rw [if_neg hfull]
        dsimp only
        rw [errV_zero]
        have hgt : ¬ ((S.cap : Int) - (S.used : Int) < (t.length : Int)) := by omega
        have hroom : S.used + t.length ≤ S.cap := by omega
        clear hfull
        go_enter Tryz.func23, Tryz.ntmps23
        (repeat' (first | (go_big_may; fail) | go_values | go_skip | go_guarded | go_step | go_upon | go_back | dsimp only))
        refine HST.out.mono ?_
        rintro e w1 ⟨rfl, hs1, hu1⟩
        have hop := open_calls hs1 (HFA.out _ hu1) HX.out.1 HX.out.2 HZ.out
        rw [show openC (stepS S) z = 0 from HO.out, show openV (stepS S) blk z = .pointer (some ⟨blk p.1, 0, none⟩) from HOV.out, errV_zero] at hop
        have HOP := Lib.hid hop
        have HS1 := Lib.hid hs1
        have HU1 := Lib.hid hu1
        clear hop hs1 hu1 HST
        (repeat' (first | (go_big_may; fail) | go_values | go_skip | go_guarded | go_step | go_upon | go_back | dsimp only))
        refine HOP.out.mono ?_
        rintro e w2 ⟨rfl, hb2⟩
        have hs2 := HS1.out.below hb2
        have hu0 : Upd [b] w w2 := HU1.out.trans (Upd.of_below hb2 [b]) (Grow.refl _ _)
        have HU2 := Lib.hid hu0
        have HS2 := Lib.hid hs2
        have HFW := Lib.hid (HFA.out _ hu0)
        have HJ2 := Lib.hid (HJ.out _ hu0)
        clear hs2 hu0 hb2 HOP HU1 HS1 HO HOV HFA HJ HX HZ
        (repeat' (first | (go_big_may; fail) | go_values | go_skip | go_guarded | go_step | go_upon | go_back | dsimp only))
        refine HJ2.out.mono ?_
        rintro e w3 ⟨rfl, hb3⟩
        have hs3 := HS2.out.below hb3
        have hu3 := HU2.out.trans (Upd.of_below hb3 [b]) (Grow.refl _ _)
        have hf3 := hs3.facts
        have c0 := hf3.c0
        have c1 := hf3.c1
        rw [show (stepS S).cap = S.cap from rfl] at c0
        rw [show (stepS S).used = S.used from rfl] at c1
        have hrun := hs3.run p HMEM.out
        have r0 : w3.cell? ⟨blk p.1, 0, none⟩ = some (val p.1) := by simp [World.cell?, hrun]
        obtain ⟨i0, hi, hz0, hz1, hz2⟩ := info_parts info_u8R
        have hp : ∀ n, StoreI (w3.drewN n) b mb blk val (stepS S) ∧ Upd (fpS b mb blk val S) w (w3.drewN n) := fun n => ⟨hs3.below (below_dW _ _), HFU.out _ (hu3.drewN n)⟩
        have HP := Lib.hid hp
        clear hs3 hu3 hf3 hp hb3 HFU HU2 HS2 HM HGR HX7 HFW HJ2 HSE hrun
        (repeat' (first | (go_big_may; fail) | go_values | go_skip | go_guarded | go_step | go_upon | go_back | dsimp only))
        go_quiet (fail)
        (repeat' (first | (go_big_may; (at_builtin; refine wpList_append_str rfl _ _ 93 9 rfl 5 i0 Tryz.underlying93 Tryz.underlying9 hi hz0 hz1 hz2 _ _ _ rfl ((HP.out _).1.row p HMEM.out) ⟨t.toArray⟩ rfl (by show _ + t.length ≤ maxLen; unfold maxLen; omega) (by show _ + t.length ≤ _; omega) ?_; intro v' w5 hown5 hgrow5 hv5; obtain ⟨hs6, hu6, hg6, hf6, x6, hx6⟩ := StoreI.appended (HP.out _).1 HMEM.out hown5 hgrow5 hv5; obtain ⟨ao, n', cap', rfl⟩ := World.ownsRow.slice_form hown5; have hlt6 := World.block_lt_of_cell? _ _ hx6; have HU6 := Lib.hid hu6; have HG6 := Lib.hid hg6; have HS6 := Lib.hid hs6; have c16 := hs6.facts.c1; have c26 := hs6.facts.c2; have fz6 := hs6.facts.fz; rw [show ((stepS S).setRun p.1 ⟨p.2.text ++ t, p.2.sealed⟩).used = S.used from rfl] at c16; have hs7 := hs6.more (n := t.length) (show S.used + t.length ≤ S.cap from hroom); have c17 := hs7.facts.c1; have c27 := hs7.facts.c2; have fz7 := hs7.facts.fz; have HS7 := Lib.hid hs7; rw [show ((stepS S).setRun p.1 ⟨p.2.text ++ t, p.2.sealed⟩).used = S.used from rfl] at c17; rw [show ((stepS S).setRun p.1 ⟨p.2.text ++ t, p.2.sealed⟩).peak = S.peak from rfl] at c27; dsimp only at c17 c27; rw [Int.natCast_add] at c17; clear hown5 hgrow5 hv5 hs6 hu6 hg6 hs7)) | go_values | go_skip | go_guarded | go_step | go_upon | go_back | dsimp only))
        go_region
        (repeat' (first | (go_big_may; fail) | go_values | go_skip | go_guarded | go_step | go_upon | go_back | dsimp only))
        go_ret
        have hb : b ∈ fpS b mb blk val S := by simp [fpS]
        have hs8 := StoreI.peaked HS7.out (m := max S.peak (S.used + t.length)) (by show max S.peak (S.used + t.length) ≤ S.cap; omega) (z := if (S.peak : Int) < (S.used : Int) + (t.length : Int) then (S.used : Int) + (t.length : Int) else (S.peak : Int)) (by split <;> omega)
        exact ⟨rfl, blk, _, hs8.below (below_dW _ 1), ((((HP.out _).2.trans HU6.out (Grow.refl _ _)).setCell (.inl hb) _).setCell (.inl hb) _).drew, Grow.trans (Grow.refl w (fpS b mb blk val S)) HG6.out (HP.out _).2.size⟩
    · have e1 : appendP S z t = (stepS S, openC S z) := withRun_err h1 h3
      have ev := errV_pos ef h3
      rw [e1]
      dsimp only
      rw [ev]
      have hq := fun w : World => run_neq_iface_nil (P := Tryz.prog) w tES (.pointer (some ⟨(ef (openC S z)).1, (ef (openC S z)).2, none⟩)) Tryz.underlying58
      have HE := Lib.hid ev
      clear h1 e1 e2 h3 ho hov ev
      go_enter Tryz.func23, Tryz.ntmps23
      (repeat' (first | (go_big_may; fail) | go_values | go_skip | go_guarded | go_step | go_upon | go_back | dsimp only))
      refine HST.out.mono ?_
      rintro e w1 ⟨rfl, hs1, hu1⟩
      have hop := open_calls hs1 (HFA.out _ hu1) HX.out.1 HX.out.2 HZ.out
      rw [show openC (stepS S) z = openC S z from rfl, HE.out] at hop
      have HOP := Lib.hid hop
      have HS1 := Lib.hid hs1
      have HU1 := Lib.hid hu1
      clear hop hs1 hu1 HST
      (repeat' (first | (go_big_may; fail) | go_values | go_skip | go_guarded | go_step | go_upon | go_back | dsimp only))
      refine HOP.out.mono ?_
      rintro e w2 ⟨rfl, hb2⟩
      have HP := Lib.hid (show StPost w b mb blk val S (stepS S) w2 from ⟨blk, val, HS1.out.below hb2, (HFU.out _ HU1.out).trans (Upd.of_below hb2 (fpS b mb blk val S)) (Grow.refl _ _), HGR.out⟩)
      generalize openV (stepS S) blk z = v
      clear hb2 HOP HFU HU1 HS1 HM HFA HGR HX HZ HE HJ HX7 hsz
      (repeat' (first | (go_big_may; fail) | go_values | go_skip | go_guarded | go_step | go_upon | go_back | dsimp only))
      go_ret
      exact ⟨rfl, HP.out⟩
end Go.Proofs.YtgeabmmicofanaaGreatDoor
