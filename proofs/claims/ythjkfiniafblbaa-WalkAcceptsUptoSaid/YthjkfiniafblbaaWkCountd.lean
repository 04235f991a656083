/- walk.counted and Count walked. -/
import Derived.Test.YthjkfiniafblbaaWkCount
namespace Go.Proofs.Ythjkfiniafblbaa
open Go.RowKit

theorem shapeV_ok {A : List Sta} (h : shapeB A = true) : shapeV A = 0 := by unfold shapeV; rw [if_pos h]
theorem shapeV_bad {A : List Sta} (h : shapeB A = false) : shapeV A = 190 := by unfold shapeV; rw [if_neg (by rw [h]; simp)]

set_option maxRecDepth 100000 in
set_option maxHeartbeats 1600000 in
theorem counted_bad {w : World} {A : List Sta} {va : Value} (hA : RdAut w va A) (hl : A.length + edgesN A ≤ 1048576) (hs : shapeB A = false) :
    Calls Try.prog 39 #[va] w fun e w' => e = .returned (.tuple #[.slice none 0 0, .int .i64 190]) ∧ Below w.heap.size w w' := by
  have HS := Lib.hid (Shape_calls hA hl)
  rw [shapeV_bad hs] at HS
  clear hs hA
  go_enter Try.func39, Try.ntmps39
  (repeat' (first | (go_big_may; fail) | go_values | go_skip | go_guarded | go_step | go_upon | go_back | dsimp only))
  refine HS.out.mono ?_
  rintro e1 w1 ⟨rfl, hb1⟩
  have HB1 := Lib.hid hb1
  clear hb1
  (repeat' (first | (go_big_may; fail) | go_values | go_skip | go_guarded | go_step | go_upon | go_back | dsimp only))
  go_ret2
  exact ⟨rfl, HB1.out⟩

theorem RdRow.at0 {w : World} {g n : Nat} {cs : List Int} (h : RdRow w (.slice (some ⟨g, 0, none⟩) n n) n 1 (intsI cs)) {c : Int} (hc : cs[0]? = some c) : w.cell? ⟨g, 0, none⟩ = some (.int .i64 c) := by
  obtain ⟨_, ad, cap, hv, _, _, h2⟩ := h
  obtain ⟨b, off, hb, h3⟩ := h2 0 _ (intsI_get hc)
  cases hv
  cases hb
  exact h3
set_option maxRecDepth 100000 in
set_option maxHeartbeats 1600000 in
theorem counted_many {w : World} {A : List Sta} {va : Value} (hA : RdAut w va A) (hl : A.length + edgesN A ≤ 1048576) (hs : shapeB A = true) {t : Trie} (ht : Unf A 0 t) (hc : 1099511627776 < cntT t) :
    Calls Try.prog 39 #[va] w fun e w' => e = .returned (.tuple #[.slice none 0 0, .int .i64 191]) ∧ Below w.heap.size w w' := by
  have HS := Lib.hid (Shape_calls hA hl)
  have hsh := shaped_of hs
  rw [shapeV_ok hs] at HS
  have HC := Lib.hid (fun w' (hb : Below w.heap.size w w') => counts_calls (hA.below hb) hl hsh)
  have HT := Lib.hid ht
  have hpos := hsh.pos
  clear hs hA hsh ht
  go_enter Try.func39, Try.ntmps39
  (repeat' (first | (go_big_may; fail) | go_values | go_skip | go_guarded | go_step | go_upon | go_back | dsimp only))
  refine HS.out.mono ?_
  rintro e1 w1 ⟨rfl, hb1⟩
  have HB1 := Lib.hid hb1
  have HC1 := Lib.hid (HC.out w1 hb1)
  clear hb1
  (repeat' (first | (go_big_may; fail) | go_values | go_skip | go_guarded | go_step | go_upon | go_back | dsimp only))
  refine HC1.out.mono ?_
  rintro e2 w2 ⟨cs, g, rfl, hcs, h2⟩
  have hct : cntI t = 1099511627777 := by unfold cntI capN; omega
  have c0 := (RdRow.of_own h2.rowG).at0 (hcs.2 0 t HT.out)
  rw [hct] at c0
  have HB2 := Lib.hid (HB1.out.trans (h2.below.mono HB1.out.size))
  clear h2 hcs hct
  (repeat' (first | (go_big_may; fail) | go_values | go_skip | go_guarded | go_step | go_upon | go_back | dsimp only))
  go_ret2
  exact ⟨rfl, HB2.out⟩
set_option maxRecDepth 100000 in
set_option maxHeartbeats 1600000 in
theorem counted_ok {w : World} {A : List Sta} {va : Value} (hA : RdAut w va A) (hl : A.length + edgesN A ≤ 1048576) (hs : shapeB A = true) {t : Trie} (ht : Unf A 0 t) (hc : cntT t ≤ 1099511627776) :
    Calls Try.prog 39 #[va] w fun e w' => ∃ cs g, e = .returned (.tuple #[.slice (some ⟨g, 0, none⟩) A.length A.length, .int .i64 0]) ∧ CntL A cs ∧ RdRow w' (.slice (some ⟨g, 0, none⟩) A.length A.length) A.length 1 (intsI cs) ∧ Below w.heap.size w w' := by
  have HS := Lib.hid (Shape_calls hA hl)
  have hsh := shaped_of hs
  rw [shapeV_ok hs] at HS
  have HC := Lib.hid (fun w' (hb : Below w.heap.size w w') => counts_calls (hA.below hb) hl hsh)
  have HT := Lib.hid ht
  have hpos := hsh.pos
  clear hs hA hsh ht
  go_enter Try.func39, Try.ntmps39
  (repeat' (first | (go_big_may; fail) | go_values | go_skip | go_guarded | go_step | go_upon | go_back | dsimp only))
  refine HS.out.mono ?_
  rintro e1 w1 ⟨rfl, hb1⟩
  have HB1 := Lib.hid hb1
  have HC1 := Lib.hid (HC.out w1 hb1)
  clear hb1
  (repeat' (first | (go_big_may; fail) | go_values | go_skip | go_guarded | go_step | go_upon | go_back | dsimp only))
  refine HC1.out.mono ?_
  rintro e2 w2 ⟨cs, g, rfl, hcs, h2⟩
  have hct : cntI t = (cntT t : Int) := by unfold cntI; rw [capN_small hc]
  have c0 := (RdRow.of_own h2.rowG).at0 (hcs.2 0 t HT.out)
  rw [hct] at c0
  have hlt : ¬ (1099511627776 : Int) < (cntT t : Int) := by omega
  have HCS := Lib.hid hcs
  have HR2 := Lib.hid (RdRow.of_own h2.rowG)
  have HB2 := Lib.hid (HB1.out.trans (h2.below.mono HB1.out.size))
  clear h2 hcs hct
  (repeat' (first | (go_big_may; fail) | go_values | go_skip | go_guarded | go_step | go_upon | go_back | dsimp only))
  go_ret2
  exact ⟨cs, g, rfl, HCS.out, HR2.out, HB2.out⟩

/-- Count's answer, for an automaton in its shape with the tree t. -/
def countV (t : Trie) : Int := if cntT t ≤ 1099511627776 then cntT t else 0
def countE (t : Trie) : Int := if cntT t ≤ 1099511627776 then 0 else 191
set_option maxRecDepth 100000 in
set_option maxHeartbeats 1600000 in
theorem Count_bad {w : World} {A : List Sta} {va : Value} (hA : RdAut w va A) (hl : A.length + edgesN A ≤ 1048576) (hs : shapeB A = false) :
    Calls Try.prog 21 #[va] w fun e w' => e = .returned (.tuple #[.int .i64 0, .int .i64 190]) ∧ Below w.heap.size w w' := by
  have HC := Lib.hid (counted_bad hA hl hs)
  clear hA hl hs
  go_enter Try.func21, Try.ntmps21
  (repeat' (first | (go_big_may; fail) | go_values | go_skip | go_guarded | go_step | go_upon | go_back | dsimp only))
  refine HC.out.mono ?_
  rintro e1 w1 ⟨rfl, hb1⟩
  have HB1 := Lib.hid hb1
  clear hb1
  (repeat' (first | (go_big_may; fail) | go_values | go_skip | go_guarded | go_step | go_upon | go_back | dsimp only))
  go_ret2
  exact ⟨rfl, HB1.out⟩
set_option maxRecDepth 100000 in
set_option maxHeartbeats 1600000 in
theorem Count_calls {w : World} {A : List Sta} {va : Value} (hA : RdAut w va A) (hl : A.length + edgesN A ≤ 1048576) (hs : shapeB A = true) {t : Trie} (ht : Unf A 0 t) :
    Calls Try.prog 21 #[va] w fun e w' => e = .returned (.tuple #[.int .i64 (countV t), .int .i64 (countE t)]) ∧ Below w.heap.size w w' := by
  by_cases hc : cntT t ≤ 1099511627776
  · have HC := Lib.hid (counted_ok hA hl hs ht hc)
    have hpos := (shaped_of hs).pos
    have e1 : countV t = cntT t := if_pos hc
    have e2 : countE t = 0 := if_pos hc
    rw [e1, e2]
    have HT := Lib.hid ht
    clear hA hs ht e1 e2
    go_enter Try.func21, Try.ntmps21
    (repeat' (first | (go_big_may; fail) | go_values | go_skip | go_guarded | go_step | go_upon | go_back | dsimp only))
    refine HC.out.mono ?_
    rintro e1 w1 ⟨cs, g, rfl, hcs, h1, hb1⟩
    have hct : cntI t = (cntT t : Int) := by unfold cntI; rw [capN_small hc]
    have c0 := h1.at0 (hcs.2 0 t HT.out)
    rw [hct] at c0
    have HB1 := Lib.hid hb1
    clear hb1 h1 hcs hct
    (repeat' (first | (go_big_may; fail) | go_values | go_skip | go_guarded | go_step | go_upon | go_back | dsimp only))
    go_ret2
    exact ⟨rfl, HB1.out⟩
  · have HC := Lib.hid (counted_many hA hl hs ht (by omega))
    have e1 : countV t = 0 := if_neg hc
    have e2 : countE t = 191 := if_neg hc
    rw [e1, e2]
    clear hA hs ht e1 e2
    go_enter Try.func21, Try.ntmps21
    (repeat' (first | (go_big_may; fail) | go_values | go_skip | go_guarded | go_step | go_upon | go_back | dsimp only))
    refine HC.out.mono ?_
    rintro e1 w1 ⟨rfl, hb1⟩
    have HB1 := Lib.hid hb1
    clear hb1
    (repeat' (first | (go_big_may; fail) | go_values | go_skip | go_guarded | go_step | go_upon | go_back | dsimp only))
    go_ret2
    exact ⟨rfl, HB1.out⟩
end Go.Proofs.Ythjkfiniafblbaa
