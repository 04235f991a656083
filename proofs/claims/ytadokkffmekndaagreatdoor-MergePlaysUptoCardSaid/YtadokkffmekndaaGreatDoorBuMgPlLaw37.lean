/- merge.round's deferred closure walked. -/
import Derived.Test.YtadokkffmekndaaGreatDoorBuMgPlLaw30
import Derived.Test.YtadokkffmekndaaGreatDoorBuMgPlLaw36
import Derived.RangeFuncLeaves
set_option linter.unusedSimpArgs false
set_option linter.unusedVariables false
namespace Go.Proofs.YtadokkffmekndaaGreatDoor
open Go.RowKit
theorem leavesM_fn {P : Program} {fn : Func} {tmps : Array Value} {E : Ending → World → Prop} {fv : Fn} {cap dargs : Array Value} {ds : List Deferred} {w : World} {f : FuncId} {args : Array Value} (hi : (invoke (.fn fv cap) dargs).run P w = .ok (.enter f args) w)
    (h : CallsDIn Fence.wide 0 P f args .returning w fun e u' w' => u' = .returning ∧ (∃ v, e = .returned v) ∧ LeavesInM Fence.wide 0 P fn tmps E ds .returning w') :
    LeavesInM Fence.wide 0 P fn tmps E ({ target := .fn fv cap, args := dargs } :: ds) .returning w :=
  ⟨by simp, .inr ⟨fun h => absurd h (by simp [Fence.wide]), fv, cap, f, args, rfl, hi, fun _ _ => trivial, h.mono fun e u' w' q => by
    obtain ⟨rfl, ⟨v, rfl⟩, q⟩ := q
    exact q⟩⟩
set_option maxRecDepth 100000 in
set_option maxHeartbeats 1600000 in
theorem mround1_nilD {w : World} {ke kw : Nat} (c : w.cell? ⟨ke, 0, none⟩ = some .nilIface) (hl : ke < w.heap.size) :
    CallsDIn Fence.wide 0 Tryz.prog 96 #[.pointer (some ⟨ke, 0, none⟩), .pointer (some ⟨kw, 0, none⟩)] .returning w fun e u' w' => u' = .returning ∧ e = .returned (.tuple #[]) ∧ w = w' := by
  have neqn : ∀ wz : World, (binOp .neq tErr .nilIface .nilIface).run Tryz.prog wz = .ok (.bool false) wz := fun wz => neq_nil wz
  refine callsDIn_of_wp (n := 0) (F := Fence.wide) Tryz.func96 rfl trivial (wpIn_wide.2 ?_) rfl
  simp only [Tryz.ntmps96, List.size_toArray, List.length_cons, List.length_nil, Nat.reduceAdd, Nat.reduceSub, Array.replicate_succ, Array.replicate_zero, List.push_toArray, List.append_toArray, List.nil_append, List.cons_append]
  (repeat' (first | go_values | go_skip | go_guarded | go_step | go_upon | go_back | dsimp only))
  go_end0
  exact ⟨rfl, rfl⟩
set_option maxRecDepth 100000 in
set_option maxHeartbeats 1600000 in
theorem mround1_liveD {w : World} {ke kw k : Nat} {a : Addr} (c : w.cell? ⟨ke, 0, none⟩ = some (.iface tES (.pointer (some a)))) (cw : w.cell? ⟨kw, 0, none⟩ = some (.pointer (some ⟨k, 0, none⟩))) (hl : ke < w.heap.size) (hl2 : kw < w.heap.size) {Q : World → Prop}
    (hd : Calls Tryz.prog 79 #[.pointer (some ⟨k, 0, none⟩)] w fun e w' => e = .returned (.tuple #[]) ∧ Q w') :
    CallsDIn Fence.wide 0 Tryz.prog 96 #[.pointer (some ⟨ke, 0, none⟩), .pointer (some ⟨kw, 0, none⟩)] .returning w fun e u' w' => u' = .returning ∧ e = .returned (.tuple #[]) ∧ Q w' := by
  have neqi := run_neq_iface_nil2 a
  have HD := Lib.hid hd
  clear hd
  refine callsDIn_of_wp (n := 0) (F := Fence.wide) Tryz.func96 rfl trivial (wpIn_wide.2 ?_) rfl
  simp only [Tryz.ntmps96, List.size_toArray, List.length_cons, List.length_nil, Nat.reduceAdd, Nat.reduceSub, Array.replicate_succ, Array.replicate_zero, List.push_toArray, List.append_toArray, List.nil_append, List.cons_append]
  (repeat' (first | go_values | go_skip | go_guarded | go_step | go_upon | go_back | dsimp only))
  refine HD.out.mono ?_
  rintro e w1 ⟨rfl, h1⟩
  have H1 := Lib.hid h1
  clear h1
  (repeat' (first | go_values | go_skip | go_guarded | go_step | go_upon | go_back | dsimp only))
  go_end0
  exact ⟨rfl, H1.out⟩
end Go.Proofs.YtadokkffmekndaaGreatDoor
