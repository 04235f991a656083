/- slices.Clone of ints: the shelf's contract at this seat's numbers (written in part by port/shelfren.py). -/
import Derived.Test.YtadokkffmekndaaGreatDoorBuMgSaLaw31
import Derived.Shelf.Slices.Clone
import Derived.Test.YtadokkffmekndaaGreatDoorProg
set_option linter.unusedSimpArgs false
set_option linter.unusedVariables false
namespace Go.Proofs.YtadokkffmekndaaGreatDoor
open Go.Shelf Go.RowKit

def ren15b : Go.Shelf.Ren := ⟨fun | 15 => 40 | n => n, fun | 3 => 3 | 4 => 4 | 22 => 23 | n => n, fun n => n⟩
theorem lays15b : Go.Proofs.Lays2.n15 Tryz.prog ren15b := {
  mixed := by kernel_rfl
  f15 := Tryz.func40.trans (congrArg some (by kernel_rfl))
  t3 := Tryz.underlying3
  a3 := Tryz.isAgg3
  z3 := Tryz.sizeOf3
  v3 := Tryz.zeroValue3
  t4 := Tryz.underlying4
  a4 := Tryz.isAgg4
  z4 := Tryz.sizeOf4
  v4 := Tryz.zeroValue4
  t22 := Tryz.underlying23
  a22 := Tryz.isAgg23
  z22 := Tryz.sizeOf23
  v22 := Tryz.zeroValue23
  i3 := by kernel_rfl }

theorem Clone_ints {w : World} {v : Value} {l : List Int} (h : RdRow w v l.length 1 (intsV l)) (hn : l.length ≤ 8796093022208) :
    Calls Tryz.prog 40 #[v] w fun e w' => ∃ v', e = .returned v' ∧ w'.ownsRow w.heap.size tInt 1 v' l.length (intsV l) ∧ Below w.heap.size w w' := by
  obtain ⟨h1, a, cap, rfl, h3, h4, h5⟩ := h
  cases a with
  | none =>
    have hL : l = [] := by
      cases l with
      | nil => rfl
      | cons x l => obtain ⟨b, off, h6, _⟩ := h5 0 (.int .i64 x) (by simp [intsV]); cases h6
    subst hL
    refine (Any.slices_Clone_int_nil lays15b 0 cap w).mono ?_
    rintro e w' ⟨rfl, rfl⟩
    exact ⟨_, rfl, World.ownsRow_nil _ _ _ _, Below.refl _ _⟩
  | some ad =>
    cases hL : l with
    | nil =>
      refine (Any.slices_Clone_int_zero lays15b ad cap w).mono ?_
      rintro e w' ⟨v', rfl, ho, _, hb⟩
      exact ⟨v', rfl, ho, hb⟩
    | cons x l' =>
      rw [← hL]
      obtain ⟨b, off, h6, _⟩ := h5 0 (.int .i64 x) (by simp [intsV, hL])
      cases h6
      refine (Any.slices_Clone_int lays15b b off l.length cap l w (Nat.le_refl _) (by omega) ?_).mono ?_
      · intro j hj
        obtain ⟨b', off', h7, h8⟩ := h5 j (.int .i64 l[j]) (by simp [intsV, hj])
        cases h7
        rw [h8]
        simp [List.getD, hj]
      · rintro e w' ⟨v', rfl, ho, _, hb⟩
        refine ⟨v', rfl, ?_, hb⟩
        rw [List.take_of_length_le (Nat.le_refl _)] at ho
        exact ho
end Go.Proofs.YtadokkffmekndaaGreatDoor
