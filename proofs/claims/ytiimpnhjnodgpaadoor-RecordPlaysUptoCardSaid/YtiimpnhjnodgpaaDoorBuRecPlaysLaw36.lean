/- The laws of layer 6: twin, list, wakes walked. -/
import Derived.Test.YtiimpnhjnodgpaaDoorBuRecPlaysLaw19
import Derived.Test.YtiimpnhjnodgpaaDoorBuRecPlaysLaw20
import Derived.Deep.QuietTactic
import Derived.BigQuiet
set_option linter.unusedSimpArgs false
set_option linter.unusedVariables false
namespace Go.Proofs.YtiimpnhjnodgpaaDoor
open Go.RowKit

set_option maxHeartbeats 400000 in
theorem twin_calls (ss : List (List UInt8)) (v : Value) (w : World) (hv : RdRow w v ss.length 1 (strs ss)) (hlen : ss.length ≤ 8796093022208) :
    Calls Tryd.prog 59 #[v] w fun e w' => ∃ v', e = .returned v' ∧ w'.ownsRow w.heap.size 9 1 v' ss.length (strs ss) ∧ Below w.heap.size w w' := by
  obtain ⟨a, cap, rfl, hc1, hc2⟩ := hv.shape
  have HV := Lib.hid hv
  clear hv
  have h0 := World.ownsRow_nil w w.heap.size 9 1
  go_enter Tryd.func59, Tryd.ntmps59
  (repeat' (first | (go_big_may; (at_builtin; go_must (refine wpList_append_rd rfl _ _ 22 9 rfl Tryd.underlying22 info_str rfl (by decide) rfl h0 rfl HV.out (strs_oneCell _) (Nat.le_refl _) (by unfold maxLen; omega) (by omega) ?_); intro v1 w1 hown1 hgrow1 _)) | go_values | go_skip | go_guarded | go_step | go_upon | go_back | dsimp only))
  go_ret
  exact ⟨_, rfl, by simpa using hown1, grownOwn (Below.refl _ _) (Nat.le_refl _) h0 hgrow1⟩

end Go.Proofs.YtiimpnhjnodgpaaDoor
