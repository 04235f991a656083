/- record.Writer: Drop walked; Open refused. · The failures that a writer's calls answer: no program in sight. · How many runs were made; a store stays good: no program in sight. · record: calls of no writer and of no reader. · A run just made; a reader that From makes: no program in sight. -/
import Derived.Test.YtadokkffmekndaaGreatDoorBuMgPlLaw35
import Derived.Test.YtadokkffmekndaaGreatDoorBuMgPlLaw12
import Derived.Test.YtadokkffmekndaaGreatDoorBuMgPlLaw17
import Derived.Test.YtadokkffmekndaaGreatDoorBuMgPlLaw28
set_option linter.unusedSimpArgs false
set_option linter.unusedVariables false
namespace Go.Proofs.YtadokkffmekndaaGreatDoor
open Go.RowKit
def dropP (S : St) (x : WrD) : St × WrD := if x.dead = 13 then (S, x) else ((removeP S x.run).1, { x with dead := 13 })
theorem neq_nil_left (a : Addr) (wz : World) : (binOp .neq tErr .nilIface (.iface tES (.pointer (some a)))).run Tryz.prog wz = .ok (.bool true) wz := by
  have h : ∀ d : Nat, (Op.equalIn (d + 1) tErr .nilIface (.iface tES (.pointer (some a)))).run Tryz.prog wz = .ok false wz := fun d => by simp [Op.equalIn, run_underlying Tryz.underlying33]
  simp only [binOp]
  simp [Op.equal, Op.maxDepth, h 9999]
section
variable {W w : World} {R : Thing} {b : Nat} {ef : Nat → Nat × Nat} {S : St}
set_option maxRecDepth 100000 in
set_option maxHeartbeats 1600000 in
theorem Drop_at {k : Nat} {x : WrD} (h : At W w (Both (WrT k b ef x) (Both (StoreT b S) R))) (hR : Stable R) (hF : Fails W ef fails11) (hle : ∀ p, S.find x.run = some p → p.2.text.length ≤ S.used) (hrun : inI64 x.run) (hd : x.dead = 0 ∨ ∃ g, (x.dead, g) ∈ fails11) :
    Calls Tryz.prog 79 #[.pointer (some ⟨k, 0, none⟩)] w fun e w' => e = .returned (.tuple #[]) ∧ At W w' (Both (WrT k b ef (dropP S x).2) (Both (StoreT b (dropP S x).1) R)) := by
  have cg := (hF.below h.below).cell (13, 9) (by decide)
  have hne : (13 : Nat) ≠ 0 := by decide
  obtain ⟨c0, c1, c2, c3, c4, fz, hlt⟩ := h.wr
  have hmem13 : ((13 : Nat), 9) ∈ fails11 := by decide
  unfold dropP
  by_cases h13 : x.dead = 13
  · rw [if_pos h13]
    rw [h13, errV_pos ef (by decide)] at c4
    have hq := fun wz => neq_same (⟨(ef 13).1, (ef 13).2, none⟩ : Addr) wz
    have H := Lib.hid h
    have HR := Lib.hid hR
    generalize ef 13 = e13 at *
    clear h hR hF hd h13 hle
    go_enter Tryz.func79, Tryz.ntmps79
    (repeat' (first | go_values | go_skip | go_guarded | go_step | go_upon | go_back | dsimp only))
    (refine region_still_tail 9 (by kernel_rfl) (by kernel_rfl) ?_; simp only [List.take_succ_cons, List.take_zero, List.drop_succ_cons, List.drop_zero]; (iterate 9 (first | ((with_reducible refine still_plain ?_ rfl ?_ ?_); rotate_left; (next => (go_simp; (try with_reducible rfl))); simp only [Act.put, List.setIfInBounds_toArray, List.set_cons_zero, List.set_cons_succ]) | ((with_reducible refine still_skip ?_ ?_); (next => (go_simp; done)); simp only [Act.put, List.setIfInBounds_toArray, List.set_cons_zero, List.set_cons_succ]) | ((with_reducible refine still_val ?_ ?_ ?_ ?_); rotate_left; (next => (go_simp; done)); (next => (go_simp; (try with_reducible rfl))); simp only [Act.put, List.setIfInBounds_toArray, List.set_cons_zero, List.set_cons_succ]))); (with_reducible refine wpStill_nil ?_))
    (repeat' (first | go_values | go_skip | go_guarded | go_step | go_upon | go_back | dsimp only))
    go_end0
    exact ⟨rfl, H.out.mono ((WrT.stable _ _ _ _).both ((StoreT.stable _ _).both HR.out)) (Below.refl _ _).drew⟩
  · rw [if_neg h13]
    have hrm := fun (w' : World) (hb : Below w.heap.size w w') => Remove_7 (h.mono ((WrT.stable k b ef x).both ((StoreT.stable b S).both hR)) hb).swap ((WrT.stable k b ef x).both hR) (fails11_7 hF) hrun hle
    have HRM := Lib.hid hrm
    have HST := Lib.hid ((StoreT.stable b (removeP S x.run).1).both hR)
    have hcg : ∀ w', Below W.heap.size W w' → w'.cell? ⟨9, 0, none⟩ = some (.iface tES (.pointer (some ⟨(ef 13).1, (ef 13).2, none⟩))) := fun w' hb => (hF.below hb).cell (13, 9) (by decide)
    have HCG := Lib.hid hcg
    have he13 : errV ef 13 = .iface tES (.pointer (some ⟨(ef 13).1, (ef 13).2, none⟩)) := errV_pos ef (by decide)
    have HE13 := Lib.hid he13
    have c4o := c4
    clear c4
    obtain ⟨dv, c4, hq⟩ : ∃ dv : Option Nat, w.cell? ⟨k, 4, none⟩ = some (match dv with | none => .nilIface | some c => .iface tES (.pointer (some ⟨(ef c).1, (ef c).2, none⟩))) ∧ (binOp .neq tErr (match dv with | none => .nilIface | some c => .iface tES (.pointer (some ⟨(ef c).1, (ef c).2, none⟩))) (.iface tES (.pointer (some ⟨(ef 13).1, (ef 13).2, none⟩)))).run Tryz.prog w.drew = .ok (.bool true) w.drew := by
      rcases hd with h0 | ⟨g, hg⟩
      · refine ⟨none, ?_, neq_nil_left _ _⟩
        rw [c4o, h0, errV_zero]
      · refine ⟨some x.dead, ?_, ?_⟩
        · rw [c4o, errV_pos ef (by
            intro e
            rw [e] at hg
            simp [fails11] at hg)]
        · have h1 := neq_errs ((hF.below h.below).below (Below.refl _ _).drew) hg hmem13
          dsimp only at h1
          rw [decide_eq_true (show x.dead ≠ 13 from h13)] at h1
          exact h1
    clear h hR hF hd h13 hle hrm hcg he13 c4o
    cases dv
    all_goals
      dsimp only at c4 hq
      go_enter Tryz.func79, Tryz.ntmps79
      (repeat' (first | go_values | go_skip | go_guarded | go_step | go_upon | go_back | dsimp only))
      (refine region_still_tail 9 (by kernel_rfl) (by kernel_rfl) ?_; simp only [List.take_succ_cons, List.take_zero, List.drop_succ_cons, List.drop_zero]; (iterate 9 (first | ((with_reducible refine still_plain ?_ rfl ?_ ?_); rotate_left; (next => (go_simp; (try with_reducible rfl))); simp only [Act.put, List.setIfInBounds_toArray, List.set_cons_zero, List.set_cons_succ]) | ((with_reducible refine still_skip ?_ ?_); (next => (go_simp; done)); simp only [Act.put, List.setIfInBounds_toArray, List.set_cons_zero, List.set_cons_succ]) | ((with_reducible refine still_val ?_ ?_ ?_ ?_); rotate_left; (next => (go_simp; done)); (next => (go_simp; (try with_reducible rfl))); simp only [Act.put, List.setIfInBounds_toArray, List.set_cons_zero, List.set_cons_succ]))); (with_reducible refine wpStill_nil ?_))
      (repeat' (first | go_values | go_skip | go_guarded | go_step | go_upon | go_back | dsimp only))
      (refine region_still_tail 8 (by kernel_rfl) (by kernel_rfl) ?_; simp only [List.take_succ_cons, List.take_zero, List.drop_succ_cons, List.drop_zero]; (iterate 8 (first | ((with_reducible refine still_plain ?_ rfl ?_ ?_); rotate_left; (next => (go_simp; (try with_reducible rfl))); simp only [Act.put, List.setIfInBounds_toArray, List.set_cons_zero, List.set_cons_succ]) | ((with_reducible refine still_skip ?_ ?_); (next => (go_simp; done)); simp only [Act.put, List.setIfInBounds_toArray, List.set_cons_zero, List.set_cons_succ]) | ((with_reducible refine still_val ?_ ?_ ?_ ?_); rotate_left; (next => (go_simp; done)); (next => (go_simp; (try with_reducible rfl))); simp only [Act.put, List.setIfInBounds_toArray, List.set_cons_zero, List.set_cons_succ]))); (with_reducible refine wpStill_nil ?_))
      (repeat' (first | go_values | go_skip | go_guarded | go_step | go_upon | go_back | dsimp only))
      refine (HRM.out _ (Below.refl _ _).drew.drew).mono ?_
      rintro e w1 ⟨rfl, h1⟩
      have h2 := h1.swap
      obtain ⟨_, _, _, _, d4, fz1, hlt1⟩ := h2.wr
      have cg1 := HCG.out w1 h2.below
      have fz4 := fz1 4
      have h3 := h2.setDead HST.out 13
      rw [HE13.out] at h3
      have H3 := Lib.hid h3
      clear h1 h2 h3
      (repeat' (first | go_values | go_skip | go_guarded | go_step | go_upon | go_back | dsimp only))
      go_end0
      exact ⟨rfl, H3.out⟩
set_option maxRecDepth 100000 in
set_option maxHeartbeats 1600000 in
theorem Open_fail (h : At W w (Both (StoreT b S) R)) (hR : Stable R) (hF : Fails W ef fails11) {n : Nat} (hn : 1 ≤ n ∧ n ≤ 4096) (hc : (createP S).2.2 ≠ 0) :
    Calls Tryz.prog 77 #[.pointer (some ⟨b, 0, none⟩), .int .i64 n] w fun e w' => e = .returned (.tuple #[.pointer none, errV ef (createP S).2.2]) ∧ At W w' (Both (StoreT b (createP S).1) R) := by
  have hcr := Create_7 h hR (fails11_7 hF)
  have hq := neq_errV ef hc
  have h1 : ¬ (n : Int) < 1 := by omega
  have h2 : ¬ 4096 < (n : Int) := by omega
  have HCR := Lib.hid hcr
  rw [errV_pos ef hc] at HCR hq ⊢
  generalize (ef (createP S).2.2) = ec at *
  generalize (createP S).2.1 = r at *
  clear h hR hF hc hcr hn
  go_enter Tryz.func77, Tryz.ntmps77
  (repeat' (first | go_values | go_skip | go_guarded | go_step | go_upon | go_back | dsimp only))
  refine HCR.out.mono ?_
  rintro e w1 ⟨rfl, h1⟩
  have H1 := Lib.hid h1
  clear h1
  (repeat' (first | go_values | go_skip | go_guarded | go_step | go_upon | go_back | dsimp only))
  go_ret2
  exact ⟨rfl, H1.out⟩
end
end Go.Proofs.YtadokkffmekndaaGreatDoor
namespace Go.Proofs.YtadokkffmekndaaGreatDoor
open Go.RowKit
def okC (c : Nat) : Prop := c = 0 ∨ ∃ g, (c, g) ∈ fails11
theorem okC_zero : okC 0 := .inl rfl
theorem okC_of {c : Nat} (h : c = 0 ∨ c = 3 ∨ c = 4 ∨ c = 7 ∨ c = 9 ∨ c = 10 ∨ c = 13 ∨ c = 8) : okC c := by
  rcases h with rfl | rfl | rfl | rfl | rfl | rfl | rfl | rfl
  · exact .inl rfl
  · exact .inr ⟨4, by decide⟩
  · exact .inr ⟨11, by decide⟩
  · exact .inr ⟨6, by decide⟩
  · exact .inr ⟨7, by decide⟩
  · exact .inr ⟨8, by decide⟩
  · exact .inr ⟨9, by decide⟩
  · exact .inr ⟨5, by decide⟩
theorem withCode {S : St} {z : Int} {f : Nat × RunD → St × Nat} {P : Nat → Prop} (h9 : P 9) (h3 : P 3) (h4 : P 4) (hf : ∀ p, P (f p).2) : P (withRun S z f).2 := by
  unfold withRun
  split
  · exact h9
  · split
    · exact h3
    · split
      · exact h4
      · exact hf _
theorem append_code (S : St) (z : Int) (t : List UInt8) : okC (appendP S z t).2 ∧ (appendP S z t).2 ≠ 13 :=
  withCode (P := fun c => okC c ∧ c ≠ 13) ⟨okC_of (by omega), by decide⟩ ⟨okC_of (by omega), by decide⟩ ⟨okC_of (by omega), by decide⟩ fun p => by
    split
    · exact ⟨okC_of (.inr (.inr (.inr (.inl rfl)))), by show ¬ (7 : Nat) = 13; decide⟩
    · exact ⟨okC_zero, by show ¬ (0 : Nat) = 13; decide⟩
theorem seal_code (S : St) (z : Int) : okC (sealP S z).2 ∧ (sealP S z).2 ≠ 13 :=
  withCode (P := fun c => okC c ∧ c ≠ 13) ⟨okC_of (by omega), by decide⟩ ⟨okC_of (by omega), by decide⟩ ⟨okC_of (by omega), by decide⟩ fun p => ⟨okC_zero, by show ¬ (0 : Nat) = 13; decide⟩
theorem flushP_keep (S : St) (x : WrD) (n : Nat) : (flushP S x n).2.1.run = x.run ∧ (flushP S x n).2.1.block = x.block ∧ ((flushP S x n).2.2 = 0 → (flushP S x n).2.1.dead = x.dead) ∧ ((flushP S x n).2.2 ≠ 0 → (flushP S x n).2.1.dead = (flushP S x n).2.2) ∧ okC (flushP S x n).2.2 ∧ (flushP S x n).2.2 ≠ 13 ∧ (flushP S x n).2.1.buf.length ≤ x.buf.length := by
  have h := append_code S x.run (x.buf.take n)
  unfold flushP
  by_cases hz : (appendP S x.run (x.buf.take n)).2 = 0
  · rw [if_pos hz]
    exact ⟨rfl, rfl, fun _ => rfl, fun e => absurd rfl e, okC_zero, by show ¬ (0 : Nat) = 13; decide, by simp⟩
  · rw [if_neg hz]
    exact ⟨rfl, rfl, fun e => absurd e hz, fun _ => rfl, h.1, h.2, Nat.le_refl _⟩
end Go.Proofs.YtadokkffmekndaaGreatDoor
namespace Go.Proofs.YtadokkffmekndaaGreatDoor
theorem withRun_made {S : St} {z : Int} {f : Nat × RunD → St × Nat} (hf : ∀ p, (f p).1.made = S.made) : (withRun S z f).1.made = S.made := by
  unfold withRun
  split
  · rfl
  · split
    · rfl
    · split
      · rfl
      · exact hf _
theorem made_append (S : St) (z : Int) (t : List UInt8) : (appendP S z t).1.made = S.made := withRun_made fun p => by split <;> rfl
theorem made_seal (S : St) (z : Int) : (sealP S z).1.made = S.made := withRun_made fun _ => rfl
theorem made_remove (S : St) (z : Int) : (removeP S z).1.made = S.made := by
  unfold removeP
  split <;> rfl
theorem made_create (S : St) : ((createP S).2.2 ≠ 0 ∧ (createP S).1.made = S.made) ∨ ((createP S).2.2 = 0 ∧ (createP S).2.1 = S.made + 1 ∧ (createP S).1.made = S.made + 1) := by
  unfold createP
  split
  · exact .inl ⟨by show ¬ (9 : Nat) = 0; decide, rfl⟩
  · split
    · exact .inl ⟨by show ¬ (8 : Nat) = 0; decide, rfl⟩
    · exact .inr ⟨rfl, rfl, rfl⟩
theorem made_flush (S : St) (x : WrD) (n : Nat) : (flushP S x n).1.made = S.made := by
  unfold flushP
  split <;> exact made_append _ _ _
theorem made_putL : ∀ (n : Nat) (S : St) (x : WrD), (putL n S x).1.made = S.made
  | 0, _, _ => rfl
  | n + 1, S, x => by
    unfold putL
    split
    · split
      · rw [made_putL n]; exact made_flush _ _ _
      · exact made_flush _ _ _
    · rfl
theorem made_put (S : St) (x : WrD) (ss : List (List UInt8)) : (putP S x ss).1.made = S.made := by
  unfold putP
  split
  · rfl
  · split
    · rfl
    · exact made_putL _ _ _
theorem made_rest (S : St) (x : WrD) : (restP S x).1.made = S.made := by
  unfold restP
  split
  · rfl
  · exact made_flush _ _ _
theorem made_close (S : St) (x : WrD) : (closeP S x).1.made = S.made := by
  unfold closeP
  split
  · rfl
  · split
    · exact made_rest _ _
    · split <;> rw [made_seal] <;> exact made_rest _ _
theorem goodI : Inv GoodS := ⟨fun _ h _ => h.le, fun _ z t h => h.append z t⟩
theorem restP_good {S : St} (h : GoodS S) (x : WrD) : GoodS (restP S x).1 := by
  unfold restP
  split
  · exact h
  · exact flushP_inv goodI h x _
theorem closeP_good {S : St} (h : GoodS S) (x : WrD) : GoodS (closeP S x).1 := by
  unfold closeP
  split
  · exact h
  · split
    · exact restP_good h x
    · split <;> exact (restP_good h x).seal _
theorem okC_made (S : St) : okC (createP S).2.2 := by
  unfold createP
  split
  · exact okC_of (.inr (.inr (.inr (.inr (.inl rfl)))))
  · split
    · exact okC_of (.inr (.inr (.inr (.inr (.inr (.inr (.inr rfl)))))))
    · exact okC_zero
end Go.Proofs.YtadokkffmekndaaGreatDoor
namespace Go.Proofs.YtadokkffmekndaaGreatDoor
open Go.RowKit
section
variable {W w : World} {ef : Nat → Nat × Nat}
set_option maxHeartbeats 800000 in
theorem Drop_nil :
    Calls Tryz.prog 79 #[.pointer none] w fun e w' => e = .returned (.tuple #[]) ∧ Below w.heap.size w w' := by
  go_enter Tryz.func79, Tryz.ntmps79
  (repeat' (first | go_values | go_skip | go_guarded | go_step | go_upon | go_back | dsimp only))
  (refine region_still_tail 9 (by kernel_rfl) (by kernel_rfl) ?_; simp only [List.take_succ_cons, List.take_zero, List.drop_succ_cons, List.drop_zero]; (iterate 9 (first | ((with_reducible refine still_plain ?_ rfl ?_ ?_); rotate_left; (next => (go_simp; (try with_reducible rfl))); simp only [Act.put, List.setIfInBounds_toArray, List.set_cons_zero, List.set_cons_succ]) | ((with_reducible refine still_skip ?_ ?_); (next => (first | (go_simp; done) | (go_simp; simp [undef]; done))); simp only [Act.put, List.setIfInBounds_toArray, List.set_cons_zero, List.set_cons_succ]) | ((with_reducible refine still_val ?_ ?_ ?_ ?_); rotate_left; (next => (go_simp; done)); (next => (go_simp; (try with_reducible rfl))); simp only [Act.put, List.setIfInBounds_toArray, List.set_cons_zero, List.set_cons_succ]))); (with_reducible refine wpStill_nil ?_))
  (repeat' (first | go_values | go_skip | go_guarded | go_step | go_upon | go_back | dsimp only))
  go_end0
  exact ⟨rfl, ⟨rfl, rfl, rfl, Nat.le_refl _, fun _ _ => rfl⟩⟩
end
end Go.Proofs.YtadokkffmekndaaGreatDoor
namespace Go.Proofs.YtadokkffmekndaaGreatDoor
end Go.Proofs.YtadokkffmekndaaGreatDoor
