/- runs: 'plays' and 'says' at any call of a script. -/
import Derived.Test.YtomlkhfmblkpcaaDoorRunsPlaysA
import Derived.Test.YtomlkhfmblkpcaaDoorRunsSays
import Derived.Test.YtomlkhfmblkpcaaDoorRunsOps
import Derived.Test.YtomlkhfmblkpcaaDoorRunsSame
import Derived.Test.YtomlkhfmblkpcaaDoorRunsGood
namespace Go.Proofs.YtomlkhfmblkpcaaDoor
open Go.RowKit

section
variable {W w : World} {b : Nat} {S : St} {R : Thing}
theorem playP_cases (P : St × AnsD → Prop) (o : OpD) (h1 : o.k = 1 → P ((createP S).1, ⟨(createP S).2.1, (createP S).2.2, [], []⟩)) (h2 : o.k = 2 → P ((appendP S o.run (cat o.parts)).1, ⟨0, (appendP S o.run (cat o.parts)).2, [], []⟩))
    (h3 : o.k = 3 → P ((sealP S o.run).1, ⟨0, (sealP S o.run).2, [], []⟩)) (h4 : o.k = 4 → P (S, ⟨0, readC S o.run o.pos o.n, readT S o.run o.pos o.n, []⟩)) (h5 : o.k = 5 → P (S, ⟨sizeN S o.run, sizeC S o.run, [], []⟩))
    (h6 : o.k = 6 → P ((removeP S o.run).1, ⟨0, (removeP S o.run).2, [], []⟩)) (h7 : o.k = 7 → P (S, ⟨0, 0, [], S.keys⟩)) (h8 : o.k = 8 → P (S, ⟨S.used, 0, [], []⟩)) (h9 : o.k = 9 → P (S, ⟨S.peak, 0, [], []⟩)) (h10 : o.k = 10 → P (S, ⟨S.made, 0, [], []⟩))
    (h11 : o.k = 11 → P (breakS S o.n, ⟨0, 0, [], []⟩)) (h12 : (o.k ≠ 1 ∧ o.k ≠ 2 ∧ o.k ≠ 3 ∧ o.k ≠ 4 ∧ o.k ≠ 5 ∧ o.k ≠ 6 ∧ o.k ≠ 7 ∧ o.k ≠ 8 ∧ o.k ≠ 9 ∧ o.k ≠ 10 ∧ o.k ≠ 11) → P (S, ⟨0, 0, [], []⟩)) : P (playP S o) := by
  unfold playP
  by_cases e1 : o.k = 1
  · rw [if_pos e1]; exact h1 e1
  by_cases e2 : o.k = 2
  · rw [if_neg e1, if_pos e2]; exact h2 e2
  by_cases e3 : o.k = 3
  · rw [if_neg e1, if_neg e2, if_pos e3]; exact h3 e3
  by_cases e4 : o.k = 4
  · rw [if_neg e1, if_neg e2, if_neg e3, if_pos e4]; exact h4 e4
  by_cases e5 : o.k = 5
  · rw [if_neg e1, if_neg e2, if_neg e3, if_neg e4, if_pos e5]; exact h5 e5
  by_cases e6 : o.k = 6
  · rw [if_neg e1, if_neg e2, if_neg e3, if_neg e4, if_neg e5, if_pos e6]; exact h6 e6
  by_cases e7 : o.k = 7
  · rw [if_neg e1, if_neg e2, if_neg e3, if_neg e4, if_neg e5, if_neg e6, if_pos e7]; exact h7 e7
  by_cases e8 : o.k = 8
  · rw [if_neg e1, if_neg e2, if_neg e3, if_neg e4, if_neg e5, if_neg e6, if_neg e7, if_pos e8]; exact h8 e8
  by_cases e9 : o.k = 9
  · rw [if_neg e1, if_neg e2, if_neg e3, if_neg e4, if_neg e5, if_neg e6, if_neg e7, if_neg e8, if_pos e9]; exact h9 e9
  by_cases e10 : o.k = 10
  · rw [if_neg e1, if_neg e2, if_neg e3, if_neg e4, if_neg e5, if_neg e6, if_neg e7, if_neg e8, if_neg e9, if_pos e10]; exact h10 e10
  by_cases e11 : o.k = 11
  · rw [if_neg e1, if_neg e2, if_neg e3, if_neg e4, if_neg e5, if_neg e6, if_neg e7, if_neg e8, if_neg e9, if_neg e10, if_pos e11]; exact h11 e11
  rw [if_neg e1, if_neg e2, if_neg e3, if_neg e4, if_neg e5, if_neg e6, if_neg e7, if_neg e8, if_neg e9, if_neg e10, if_neg e11]
  exact h12 ⟨e1, e2, e3, e4, e5, e6, e7, e8, e9, e10, e11⟩
theorem plays_calls (h : At W w (Both (StoreT b S) R)) (hR : Stable R) {ef : Nat → Nat × Nat} (hF : Fails W ef failsAll) (hG : GoodS S) {o : OpD} (ho : OpOk W o) :
    Calls Tryd.prog 21 #[.pointer (some ⟨b, 0, none⟩), opV o] w fun e w' => ∃ v, e = .returned (ansV (playP S o).2 v) ∧ At W w' (Both (RowT v (playP S o).2.list) (Both (StoreT b (playP S o).1) R)) :=
  playP_cases (fun x => Calls Tryd.prog 21 #[.pointer (some ⟨b, 0, none⟩), opV o] w fun e w' => ∃ v, e = .returned (ansV x.2 v) ∧ At W w' (Both (RowT v x.2.list) (Both (StoreT b x.1) R))) o
    (plays1 h hR hF hG ho) (plays2 h hR hF hG ho) (plays3 h hR hF hG ho) (plays4 h hR hF hG ho) (plays5 h hR hF hG ho) (plays6 h hR hF hG ho) (plays7 h hR hF hG ho) (plays8 h hR hF hG ho) (plays9 h hR hF hG ho) (plays10 h hR hF hG ho) (plays11 h hR hF hG ho) (plays12 h hR hF hG ho)
theorem says_calls (h : At W w (Both (RefT b S) R)) (hR : Stable R) (hG : GoodS S) {o : OpD} (ho : OpOk W o) :
    Calls Tryd.prog 23 #[.pointer (some ⟨b, 0, none⟩), opV o] w fun e w' => ∃ v, e = .returned (ansV (playP S o).2 v) ∧ At W w' (Both (RowT v (playP S o).2.list) (Both (RefT b (playP S o).1) R)) :=
  playP_cases (fun x => Calls Tryd.prog 23 #[.pointer (some ⟨b, 0, none⟩), opV o] w fun e w' => ∃ v, e = .returned (ansV x.2 v) ∧ At W w' (Both (RowT v x.2.list) (Both (RefT b x.1) R))) o
    (says1 h hR hG ho) (says2 h hR hG ho) (says3 h hR hG ho) (says4 h hR hG ho) (says5 h hR hG ho) (says6 h hR hG ho) (says7 h hR hG ho) (says8 h hR hG ho) (says9 h hR hG ho) (says10 h hR hG ho) (says11 h hR hG ho) (says12 h hR hG ho)
end
theorem enters_says : ∀ xs w, (callFunc 23 xs).run Tryd.prog w = .ok (.enter 23 xs) w :=
  enters_fn Tryd.func23 (by kernel_rfl) rfl
theorem enters_plays : ∀ xs w, (callFunc 21 xs).run Tryd.prog w = .ok (.enter 21 xs) w :=
  enters_fn Tryd.func21 (by kernel_rfl) rfl
theorem enters_same : ∀ xs w, (callFunc 22 xs).run Tryd.prog w = .ok (.enter 22 xs) w :=
  enters_fn Tryd.func22 (by kernel_rfl) rfl
end Go.Proofs.YtomlkhfmblkpcaaDoor
