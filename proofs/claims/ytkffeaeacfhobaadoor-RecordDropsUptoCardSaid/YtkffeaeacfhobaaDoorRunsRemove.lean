/- runs: Remove walked. -/
import Derived.Test.YtkffeaeacfhobaaDoorRunsBreak
namespace Go.Proofs.YtkffeaeacfhobaaDoor
open Go.RowKit

def lessS (S : St) (n : Nat) : St := { S with used := S.used - n }
theorem StoreI.less {w : World} {b mb : Nat} {blk : Nat → Nat} {val : Nat → Value} {S : St} (h : StoreI w b mb blk val S) {n : Nat} (hn : n ≤ S.used) :
    StoreI (w.setCell ⟨b, 1, none⟩ (.int .i64 ((S.used : Int) - (n : Int)))) b mb blk val (lessS S n) := by
  refine h.reset (S' := lessS S n) rfl (Nat.le_refl _) ⟨h.sizes.1, ?_, h.sizes.2.2.1, h.sizes.2.2.2.1, h.sizes.2.2.2.2⟩ 1 _ ?_
  · have := h.sizes.2.1
    show S.used - n ≤ S.cap
    omega
  · rw [← Int.ofNat_sub hn]; rfl

set_option maxRecDepth 100000 in
set_option maxHeartbeats 1600000 in
theorem Remove_calls {w : World} {b mb : Nat} {blk : Nat → Nat} {val : Nat → Value} {S : St} (h : StoreI w b mb blk val S) {ef : Nat → Nat × Nat} {fl : List (Nat × Nat)} (hF : Fails w ef fl) (hx3 : (3, 5) ∈ fl) {z : Int} (hz : inI64 z)
    (hle : ∀ p, S.find z = some p → p.2.text.length ≤ S.used) :
    Calls Tryd.prog 42 #[.pointer (some ⟨b, 0, none⟩), .int .i64 z] w fun e w' => e = .returned (errV ef (removeP S z).2) ∧ StPost w b mb blk val S (removeP S z).1 w' := by
  have hsz := Size_calls h hF hx3 hz
  cases hf : S.find z with
  | none =>
    have e1 : removeP S z = (S, 3) := by unfold removeP; rw [hf]
    have e2 : sizeN S z = 0 := by unfold sizeN; rw [hf]
    have e3 : sizeC S z = 3 := by unfold sizeC; rw [hf]
    have ev := errV_pos ef (c := 3) (by decide)
    rw [e1]
    rw [e2, e3] at hsz
    dsimp only at hsz ⊢
    rw [ev] at hsz ⊢
    have HSZ := Lib.hid hsz
    have H := Lib.hid h
    have hq := fun w : World => run_neq_iface_nil (P := Tryd.prog) w tES (.pointer (some ⟨(ef 3).1, (ef 3).2, none⟩)) Tryd.underlying25
    clear hf e1 e2 e3 ev hsz h hF hx3 hz hle
    go_enter Tryd.func42, Tryd.ntmps42
    (repeat' (first | (go_big_may; fail) | go_values | go_skip | go_guarded | go_step | go_upon | go_back | dsimp only))
    refine HSZ.out.mono ?_
    rintro e w1 ⟨rfl, hb1⟩
    have HP := Lib.hid (show StPost w b mb blk val S S w1 from ⟨blk, val, H.out.below hb1, Upd.of_below hb1 _, Grow.refl _ _⟩)
    clear hb1 HSZ H
    (repeat' (first | (go_big_may; fail) | go_values | go_skip | go_guarded | go_step | go_upon | go_back | dsimp only))
    go_ret
    exact ⟨rfl, HP.out⟩
  | some p =>
    have hle' := hle p hf
    have e1 : removeP S z = ((lessS S p.2.text.length).delRun p.1, 0) := by unfold removeP; rw [hf]; rfl
    have e2 : sizeN S z = p.2.text.length := by unfold sizeN; rw [hf]
    have e3 : sizeC S z = 0 := by unfold sizeC; rw [hf]
    have hpz : (p.1 : Int) = z := (find_mem hf).2
    rw [e1]
    rw [e2, e3] at hsz
    dsimp only at hsz ⊢
    rw [errV_zero] at hsz ⊢
    have hqn := neq_nil
    have HSZ := Lib.hid hsz
    have H := Lib.hid h
    have hsizes := h.sizes
    have HPZ := Lib.hid hpz
    have hkey := keyZ hz
    clear hf e1 e2 e3 hsz h hF hx3 hz hle hpz
    generalize hn : p.2.text.length = n at *
    generalize hkk : p.1 = k at *
    go_enter Tryd.func42, Tryd.ntmps42
    (repeat' (first | (go_big_may; fail) | go_values | go_skip | go_guarded | go_step | go_upon | go_back | dsimp only))
    refine HSZ.out.mono ?_
    rintro e w1 ⟨rfl, hb1⟩
    have hs1 := H.out.below hb1
    have hf1 := hs1.facts
    have c1 := hf1.c1
    have c5 := hf1.c5
    have fz := hf1.fz
    have hs2 := hs1.less hle'
    have hf2 := hs2.facts
    have c52 := hf2.c5
    have hu2 : Upd (fpS b mb blk val S) w (w1.setCell ⟨b, 1, none⟩ (.int .i64 ((S.used : Int) - (n : Int)))) := (Upd.of_below hb1 (fpS b mb blk val S)).setCell (.inl (by simp [fpS])) _
    obtain ⟨D, hown, hlook⟩ := hs2.map
    have HS2 := Lib.hid hs2
    have HU2 := Lib.hid hu2
    have HL := Lib.hid hlook
    clear hb1 HSZ H hs1 hf1 hs2 hf2 hu2 hlook
    (repeat' (first | (go_big_may; (at_delete; refine wpList_delete_own _ rfl _ _ tMapR tInt rfl _ keyedInt Tryd.underlying81 ptrR mb _ D rfl hown _ _ rfl hkey ?_; intro w3 hown3 hturn3)) | go_values | go_skip | go_guarded | go_step | go_upon | go_back | dsimp only))
    go_ret
    have hu3 := HU2.out.grown hturn3.grown (fun j hj => .inl (by cases hj; simp [fpS]))
    refine ⟨rfl, blk, val, StoreI.delRun HS2.out HL.out (by rw [HPZ.out]; exact hown3) (fun j hj hne => ?_), hu3, fun j hj => ?_⟩
    · obtain ⟨es, cl, es', cl', hm0, rfl⟩ := hturn3
      exact Go.ChangeMaps.heap_setBlock_other hm0 _ hne
    · rcases mem_fpS.1 hj with rfl | rfl | ⟨q, hq, h⟩
      · exact .inl (by simp [fpS])
      · exact .inl (by simp [fpS])
      · exact .inl (mem_fpS.2 (.inr (.inr ⟨q, (mem_delRun.1 hq).1, h⟩)))
end Go.Proofs.YtkffeaeacfhobaaDoor
