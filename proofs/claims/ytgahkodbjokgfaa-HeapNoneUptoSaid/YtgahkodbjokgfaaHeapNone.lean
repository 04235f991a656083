/- HeapNone walked: every call of a nil heap. -/
import Derived.Test.YtgahkodbjokgfaaHeapPlays
namespace Go.Proofs.Ytgahkodbjokgfaa
open Go.RowKit
set_option linter.unusedVariables false

/-- One call of a nil heap: no item, and all that was there below B as it was. -/
def NilPost (B : Nat) (w : World) (e : Ending) (w' : World) : Prop := e = .returned (.bool true) ∧ Below B w w'

theorem refh_new (w : World) : RefH (w.alloc (.cells #[.slice none 0 0] tRH)) w.heap.size [] (.slice none 0 0) := ⟨heap_alloc_new _ _, by simpa [cellsI] using World.ownsRow_nil _ _ _ _⟩

section
variable {w : World} {rb : Nat}
theorem nil_upd {rv : Value} {B : Nat} {w' : World} (hr : RefH w rb [] rv) (h0 : rv = .slice none 0 0) (hB : B ≤ rb) (hu : Upd (rb :: rowOf rv) w w') : Below B w w' := by
  subst h0
  have := lt_of_heap hr.1
  exact hu.below (by omega) fun k hk => by simp [rowOf, Value.ownBlock] at hk; omega

set_option maxRecDepth 100000 in
set_option maxHeartbeats 1600000 in
theorem nil_pop {B : Nat} (hr : RefH w rb [] (.slice none 0 0)) (hB : B ≤ rb) (vi : Value) {ai : Option Addr} {li ci : Nat} (hvi : vi = .slice ai li ci) :
    Calls Try.prog 30 #[.pointer none, .pointer (some ⟨rb, 0, none⟩), opV 2 vi] w (NilPost B w) := by
  subst hvi
  have hba : Below w.heap.size w (w.alloc (.cells #[.int .i64 2, .slice ai li ci] tOp)) := (Below.refl _ _).alloc (Nat.le_refl _) _
  have HR := Lib.hid (hr.below hba)
  have hlt := lt_of_heap hr.1
  have HB := Lib.hid (hba.mono (show B ≤ w.heap.size by omega))
  clear hr hba
  go_enter Try.func30, Try.ntmps30
  (repeat' (first | (go_big_may; fail) | go_values | go_skip | go_guarded | go_step | go_upon | go_back | dsimp only))
  refine (Pop_nil _).mono ?_
  rintro e w1 ⟨rfl, hb1⟩
  have hba1 : Below w1.heap.size w1 (w1.alloc (.cells #[.int .i64 (default : It).key, .int .i64 (default : It).tag] 25)) := (Below.refl _ _).alloc (Nat.le_refl _) _
  have hx1 := heap_alloc_new w1 (.cells #[.int .i64 (default : It).key, .int .i64 (default : It).tag] 25)
  have hsz : w.heap.size + 1 ≤ w1.heap.size := by have := hb1.size; simp at this; omega
  have HR1 := Lib.hid ((HR.out.below hb1).below hba1)
  have HB1 := Lib.hid ((HB.out.trans (hb1.mono (by simp; omega))).trans (hba1.mono (show B ≤ w1.heap.size by omega)))
  have hpn : w1.heap.size ∉ rb :: rowOf (.slice none 0 0) := by simp [rowOf, Value.ownBlock]; omega
  clear hb1 hba1 HR HB
  (repeat' (first | (go_big_may; fail) | go_values | go_skip | go_guarded | go_step | go_upon | go_back | dsimp only))
  generalize w1.alloc (.cells #[.int .i64 (default : It).key, .int .i64 (default : It).tag] 25) = W1 at *
  generalize w1.heap.size = p at *
  have HX1 := Lib.hid hx1
  clear hx1
  refine (rPop_calls HR1.out (by simp)).mono ?_
  rw [if_pos rfl]
  rintro e w3 ⟨rfl, rv3, hh3, hu3, hg3⟩
  have hx3 := (hu3.block _ (lt_of_heap HX1.out) hpn).trans HX1.out
  obtain ⟨x0, x1, _, _, hxs⟩ := slot_facts hx3
  have hb3 := nil_upd HR1.out rfl hB hu3
  have HB3 := Lib.hid (HB1.out.trans hb3)
  have hB3 : B ≤ w3.heap.size := by have := hu3.size; have := lt_of_heap HX1.out; omega
  clear hh3 hu3 hg3 hx3 HX1 hb3 HB1 HR1
  (repeat' (first | (go_big_may; fail) | go_values | go_skip | go_guarded | go_step | go_upon | go_back | dsimp only))
  refine (like_same default _).mono ?_
  rintro e w5 ⟨rfl, hb5⟩
  have HB5 := Lib.hid ((HB3.out.alloc hB3 (.cells #[.int .i64 (default : It).key, .int .i64 (default : It).tag] tRI)).trans (hb5.mono (by simp; omega)))
  clear HB3 hb5
  (repeat' (first | (go_big_may; fail) | go_values | go_skip | go_guarded | go_step | go_upon | go_back | dsimp only))
  go_ret
  exact ⟨rfl, HB5.out⟩
set_option maxRecDepth 100000 in
set_option maxHeartbeats 1600000 in
theorem nil_peek {B : Nat} (hr : RefH w rb [] (.slice none 0 0)) (hB : B ≤ rb) (vi : Value) {ai : Option Addr} {li ci : Nat} (hvi : vi = .slice ai li ci) :
    Calls Try.prog 30 #[.pointer none, .pointer (some ⟨rb, 0, none⟩), opV 3 vi] w (NilPost B w) := by
  subst hvi
  have hba : Below w.heap.size w (w.alloc (.cells #[.int .i64 3, .slice ai li ci] tOp)) := (Below.refl _ _).alloc (Nat.le_refl _) _
  have HR := Lib.hid (hr.below hba)
  have hlt := lt_of_heap hr.1
  have HB := Lib.hid (hba.mono (show B ≤ w.heap.size by omega))
  clear hr hba
  go_enter Try.func30, Try.ntmps30
  (repeat' (first | (go_big_may; fail) | go_values | go_skip | go_guarded | go_step | go_upon | go_back | dsimp only))
  refine (Peek_nil _).mono ?_
  rintro e w1 ⟨rfl, hb1⟩
  have hba1 : Below w1.heap.size w1 (w1.alloc (.cells #[.int .i64 (default : It).key, .int .i64 (default : It).tag] 25)) := (Below.refl _ _).alloc (Nat.le_refl _) _
  have hx1 := heap_alloc_new w1 (.cells #[.int .i64 (default : It).key, .int .i64 (default : It).tag] 25)
  have hsz : w.heap.size + 1 ≤ w1.heap.size := by have := hb1.size; simp at this; omega
  have HR1 := Lib.hid ((HR.out.below hb1).below hba1)
  have HB1 := Lib.hid ((HB.out.trans (hb1.mono (by simp; omega))).trans (hba1.mono (show B ≤ w1.heap.size by omega)))
  have hpn : w1.heap.size ∉ rb :: rowOf (.slice none 0 0) := by simp [rowOf, Value.ownBlock]; omega
  clear hb1 hba1 HR HB
  (repeat' (first | (go_big_may; fail) | go_values | go_skip | go_guarded | go_step | go_upon | go_back | dsimp only))
  generalize w1.alloc (.cells #[.int .i64 (default : It).key, .int .i64 (default : It).tag] 25) = W1 at *
  generalize w1.heap.size = p at *
  have HX1 := Lib.hid hx1
  clear hx1
  refine (rPeek_calls HR1.out).mono ?_
  rw [if_pos rfl]
  rintro e w3 ⟨rfl, hb3⟩
  have hx3 := (hb3.block _ (lt_of_heap HX1.out)).trans HX1.out
  obtain ⟨x0, x1, _, _, hxs⟩ := slot_facts hx3
  have hB1 : B ≤ W1.heap.size := by have := lt_of_heap HX1.out; omega
  have HB3 := Lib.hid (HB1.out.trans (hb3.mono hB1))
  have hB3 : B ≤ w3.heap.size := by have := hb3.size; omega
  clear hx3 HX1 hb3 HB1 HR1
  (repeat' (first | (go_big_may; fail) | go_values | go_skip | go_guarded | go_step | go_upon | go_back | dsimp only))
  refine (like_same default _).mono ?_
  rintro e w5 ⟨rfl, hb5⟩
  have HB5 := Lib.hid ((HB3.out.alloc hB3 (.cells #[.int .i64 (default : It).key, .int .i64 (default : It).tag] tRI)).trans (hb5.mono (by simp; omega)))
  clear HB3 hb5
  (repeat' (first | (go_big_may; fail) | go_values | go_skip | go_guarded | go_step | go_upon | go_back | dsimp only))
  go_ret
  exact ⟨rfl, HB5.out⟩
set_option maxRecDepth 100000 in
set_option maxHeartbeats 1600000 in
theorem nil_len {B : Nat} (hr : RefH w rb [] (.slice none 0 0)) (hB : B ≤ rb) (vi : Value) {ai : Option Addr} {li ci : Nat} (hvi : vi = .slice ai li ci) :
    Calls Try.prog 30 #[.pointer none, .pointer (some ⟨rb, 0, none⟩), opV 5 vi] w (NilPost B w) := by
  subst hvi
  have hba : Below w.heap.size w (w.alloc (.cells #[.int .i64 5, .slice ai li ci] tOp)) := (Below.refl _ _).alloc (Nat.le_refl _) _
  have hq : ∀ nq, Calls Try.prog 31 #[.pointer none] ((w.alloc (.cells #[.int .i64 5, .slice ai li ci] tOp)).drewN nq) fun e w' => e = .returned (.int .i64 0) ∧ w' = (w.alloc (.cells #[.int .i64 5, .slice ai li ci] tOp)).drewN nq := fun nq =>
    (Len_nil _).mono fun _ _ ⟨h1, h2⟩ => ⟨h1, h2.symm⟩
  have HQ := Lib.hid hq
  have c0 := (hr.below hba).c0
  have hlt := lt_of_heap hr.1
  have HB := Lib.hid (hba.mono (show B ≤ w.heap.size by omega))
  clear hr hba hq
  go_enter Try.func30, Try.ntmps30
  (repeat' (first | (go_big_may; fail) | go_values | go_skip | go_guarded | go_step | go_upon | go_back | dsimp only))
  go_quiet ((go_at_call 31; exact Calls.quiet_of_same (HQ.out _)))
  (repeat' (first | (go_big_may; fail) | go_values | go_skip | go_guarded | go_step | go_upon | go_back | dsimp only))
  go_ret
  exact ⟨rfl, HB.out.trans ((below_dW _ _).mono (by simp; omega))⟩

set_option maxRecDepth 100000 in
set_option maxHeartbeats 1600000 in
theorem nil_drain {B : Nat} (hr : RefH w rb [] (.slice none 0 0)) (hB : B ≤ rb) (vi : Value) {ai : Option Addr} {li ci : Nat} (hvi : vi = .slice ai li ci) :
    Calls Try.prog 30 #[.pointer none, .pointer (some ⟨rb, 0, none⟩), opV 6 vi] w (NilPost B w) := by
  subst hvi
  have hba : Below w.heap.size w (w.alloc (.cells #[.int .i64 6, .slice ai li ci] tOp)) := (Below.refl _ _).alloc (Nat.le_refl _) _
  have HR := Lib.hid (hr.below hba)
  have hlt := lt_of_heap hr.1
  have HB := Lib.hid (hba.mono (show B ≤ w.heap.size by omega))
  clear hr hba
  go_enter Try.func30, Try.ntmps30
  (repeat' (first | (go_big_may; fail) | go_values | go_skip | go_guarded | go_step | go_upon | go_back | dsimp only))
  refine (Drain_nil _).mono ?_
  rintro e w1 ⟨rfl, hb1⟩
  have hsz : w.heap.size + 1 ≤ w1.heap.size := by have := hb1.size; simp at this; omega
  have HR1 := Lib.hid (HR.out.below hb1)
  have HB1 := Lib.hid (HB.out.trans (hb1.mono (by simp; omega)))
  clear hb1 HR HB
  (repeat' (first | (go_big_may; fail) | go_values | go_skip | go_guarded | go_step | go_upon | go_back | dsimp only))
  refine (rDrain_calls HR1.out (by simp)).mono ?_
  rintro e w2 ⟨vr, rfl, hown, rv2, hh2, _, hu2, hg2⟩
  have hb2 := nil_upd HR1.out rfl hB hu2
  have hsz2 : w1.heap.size ≤ w2.heap.size := hu2.size
  have HB2 := Lib.hid (HB1.out.trans hb2)
  have HR2 := Lib.hid (RdRow.of_own hown)
  clear hown hh2 hu2 hg2 hb2 HB1 HR1
  (repeat' (first | (go_big_may; fail) | go_values | go_skip | go_guarded | go_step | go_upon | go_back | dsimp only))
  refine (alike_calls (xs := []) ⟨rfl, none, 0, rfl, Nat.le_refl _, by simp [maxLen], fun j u hu => by simp [cellsI] at hu⟩ HR2.out).mono ?_
  rintro e w3 ⟨rfl, hb3⟩
  have HB3 := Lib.hid (HB2.out.trans (hb3.mono (show B ≤ w2.heap.size by omega)))
  clear HB2 HR2 hb3
  (repeat' (first | (go_big_may; fail) | go_values | go_skip | go_guarded | go_step | go_upon | go_back | dsimp only))
  go_ret
  exact ⟨rfl, HB3.out⟩

set_option maxRecDepth 100000 in
set_option maxHeartbeats 1600000 in
theorem nil_other {B : Nat} (hB : B ≤ w.heap.size) (vi : Value) {ai : Option Addr} {li ci : Nat} (hvi : vi = .slice ai li ci) (k : Int) (h1 : k ≠ 1) (h2 : k ≠ 2) (h3 : k ≠ 3) (h4 : k ≠ 4) (h5 : k ≠ 5) (h6 : k ≠ 6) :
    Calls Try.prog 30 #[.pointer none, .pointer (some ⟨rb, 0, none⟩), opV k vi] w (NilPost B w) := by
  subst hvi
  have hba : Below w.heap.size w (w.alloc (.cells #[.int .i64 k, .slice ai li ci] tOp)) := (Below.refl _ _).alloc (Nat.le_refl _) _
  have HB := Lib.hid (hba.mono hB)
  have e1 : (k == 1) = false := by simpa using h1
  have e2 : (k == 2) = false := by simpa using h2
  have e3 : (k == 3) = false := by simpa using h3
  have e4 : (k == 4) = false := by simpa using h4
  have e5 : (k == 5) = false := by simpa using h5
  have e6 : (k == 6) = false := by simpa using h6
  clear hba h1 h2 h3 h4 h5 h6
  go_enter Try.func30, Try.ntmps30
  (repeat' (first | (go_big_may; fail) | go_values | go_skip | go_guarded | go_step | go_upon | go_back | dsimp only))
  go_ret
  exact ⟨rfl, HB.out⟩

set_option maxRecDepth 100000 in
set_option maxHeartbeats 1600000 in
theorem nil_rep0 {B : Nat} (hB : B ≤ w.heap.size) (vi : Value) {ai : Option Addr} {ci : Nat} (hvi : vi = .slice ai 0 ci) :
    Calls Try.prog 30 #[.pointer none, .pointer (some ⟨rb, 0, none⟩), opV 4 vi] w (NilPost B w) := by
  subst hvi
  have hba : Below w.heap.size w (w.alloc (.cells #[.int .i64 4, .slice ai 0 ci] tOp)) := (Below.refl _ _).alloc (Nat.le_refl _) _
  have HB := Lib.hid (hba.mono hB)
  clear hba
  go_enter Try.func30, Try.ntmps30
  (repeat' (first | (go_big_may; fail) | go_values | go_skip | go_guarded | go_step | go_upon | go_back | dsimp only))
  go_ret
  exact ⟨rfl, HB.out⟩

set_option maxRecDepth 100000 in
set_option maxHeartbeats 1600000 in
theorem nil_rep {B : Nat} (hr : RefH w rb [] (.slice none 0 0)) (hB : B ≤ rb) {xs : List It} {vi : Value} (hx : RdRow w vi xs.length 2 (cellsI xs)) (hne : xs ≠ []) (hxn : xs.length ≤ 100000000000) :
    Calls Try.prog 30 #[.pointer none, .pointer (some ⟨rb, 0, none⟩), opV 4 vi] w (NilPost B w) := by
  obtain ⟨ai, ci, hv, hc1, hc2⟩ := hx.shape
  subst hv
  have hlen : 0 < xs.length := List.length_pos_iff.2 hne
  have hba : Below w.heap.size w (w.alloc (.cells #[.int .i64 4, .slice ai xs.length ci] tOp)) := (Below.refl _ _).alloc (Nat.le_refl _) _
  have hbox := heap_alloc_new w (.cells #[.int .i64 4, .slice ai xs.length ci] tOp)
  have HR := Lib.hid (hr.below hba)
  have HX := Lib.hid (hx.below hba)
  have hlt := lt_of_heap hr.1
  have HB := Lib.hid (hba.mono (show B ≤ w.heap.size by omega))
  obtain ⟨bx, off, cp, hsl, y0, y1⟩ := hx.item (i := 0) hlen
  cases hsl
  have hbx : bx < w.heap.size := World.block_lt_of_cell? _ _ y0
  generalize hz : xs.getD 0 default = z at *
  have HZ := Lib.hid hz
  have HBOX := Lib.hid hbox
  have hl1 : (0 : Int) < xs.length := by omega
  simp only [Nat.zero_mul, Nat.add_zero] at y0 y1
  clear hr hba hx hbox hz hne
  go_enter Try.func30, Try.ntmps30
  (repeat' (first | (go_big_may; fail) | go_values | go_skip | go_guarded | go_step | go_upon | go_back | dsimp only))
  refine (Replace_nil _ z).mono ?_
  rintro e w1 ⟨rfl, hb1⟩
  have hbox1 := (hb1.block _ (lt_of_heap HBOX.out)).trans HBOX.out
  have hba1 : Below w1.heap.size w1 (w1.alloc (.cells #[.int .i64 (default : It).key, .int .i64 (default : It).tag] 25)) := (Below.refl _ _).alloc (Nat.le_refl _) _
  have hx1 := heap_alloc_new w1 (.cells #[.int .i64 (default : It).key, .int .i64 (default : It).tag] 25)
  have hsz : w.heap.size + 1 ≤ w1.heap.size := by have := hb1.size; simp at this; omega
  obtain ⟨o0, o1, _, _, hos⟩ := slot_facts hbox1
  have HR1 := Lib.hid ((HR.out.below hb1).below hba1)
  have HXS := Lib.hid ((HX.out.below hb1).below hba1)
  have HB1 := Lib.hid ((HB.out.trans (hb1.mono (by simp; omega))).trans (hba1.mono (show B ≤ w1.heap.size by omega)))
  have hpn : w1.heap.size ∉ rb :: rowOf (.slice none 0 0) := by simp [rowOf, Value.ownBlock]; omega
  have HX1 := Lib.hid hx1
  clear hb1 hba1 HR HB HX hbox1 HBOX hx1 y0 y1
  (repeat' (first | (go_big_may; fail) | go_values | go_skip | go_guarded | go_step | go_upon | go_back | dsimp only))
  refine (ref_calls HXS.out (by omega)).mono ?_
  rintro e w3 ⟨vr, rfl, hown3, hb3⟩
  have hx3 := (hb3.block _ (lt_of_heap HX1.out)).trans HX1.out
  have hsz3 : w1.heap.size + 1 ≤ w3.heap.size := by have := hb3.size; simp at this; omega
  have HR3 := Lib.hid (HR1.out.below hb3)
  have HB3 := Lib.hid (HB1.out.trans (hb3.mono (by simp; omega)))
  obtain ⟨br, offr, cpr, hsl, q0, q1⟩ := (RdRow.of_own hown3).item (i := 0) hlen
  subst hsl
  rw [HZ.out] at q0 q1
  simp only [Nat.zero_mul, Nat.add_zero] at q0 q1
  have HX3 := Lib.hid hx3
  generalize w1.heap.size = p at *
  clear hown3 hb3 hx3 HR1 HX1 HXS HB1
  (repeat' (first | (go_big_may; fail) | go_values | go_skip | go_guarded | go_step | go_upon | go_back | dsimp only))
  refine (rReplace_calls HR3.out z (by simp)).mono ?_
  rw [if_pos rfl]
  rintro e w4 ⟨rfl, rv4, hh4, hu4, hg4⟩
  have hx4 := (hu4.block _ (lt_of_heap HX3.out) hpn).trans HX3.out
  obtain ⟨x0, x1, _, _, hxs⟩ := slot_facts hx4
  have hb4 := nil_upd HR3.out rfl hB hu4
  have hsz4 : w3.heap.size ≤ w4.heap.size := hu4.size
  have HB4 := Lib.hid (HB3.out.trans hb4)
  clear hh4 hu4 hg4 hx4 hb4 HR3 HX3 HB3 q0 q1
  (repeat' (first | (go_big_may; fail) | go_values | go_skip | go_guarded | go_step | go_upon | go_back | dsimp only))
  refine (like_same default _).mono ?_
  rintro e w5 ⟨rfl, hb5⟩
  have HB5 := Lib.hid ((HB4.out.alloc (show B ≤ w4.heap.size by omega) (.cells #[.int .i64 (default : It).key, .int .i64 (default : It).tag] tRI)).trans (hb5.mono (by simp; omega)))
  clear HB4 hb5
  (repeat' (first | (go_big_may; fail) | go_values | go_skip | go_guarded | go_step | go_upon | go_back | dsimp only))
  go_ret
  exact ⟨rfl, HB5.out⟩

theorem nil_step {B : Nat} (hr : RefH w rb [] (.slice none 0 0)) (hB : B ≤ rb) (k : Int) (hk : k ≠ 1) {xs : List It} {vi : Value} (hx : RdRow w vi xs.length 2 (cellsI xs)) (hxn : xs.length ≤ 100000000000) :
    Calls Try.prog 30 #[.pointer none, .pointer (some ⟨rb, 0, none⟩), opV k vi] w (NilPost B w) := by
  obtain ⟨ai, ci, hv, _, _⟩ := hx.shape
  have hBw : B ≤ w.heap.size := by have := lt_of_heap hr.1; omega
  by_cases h2 : k = 2
  · subst h2; exact nil_pop hr hB vi hv
  by_cases h3 : k = 3
  · subst h3; exact nil_peek hr hB vi hv
  by_cases h4 : k = 4
  · subst h4
    by_cases h0 : xs = []
    · subst h0; exact nil_rep0 hBw vi hv
    · exact nil_rep hr hB hx h0 hxn
  by_cases h5 : k = 5
  · subst h5; exact nil_len hr hB vi hv
  by_cases h6 : k = 6
  · subst h6; exact nil_drain hr hB vi hv
  exact nil_other hBw vi hv k hk h2 h3 h4 h5 h6
end

set_option maxRecDepth 100000 in
set_option maxHeartbeats 3200000 in
theorem heapNone_walk (w : World) (ops : List OpD) (v1 : Value) (rd1 : OpsRow w v1 ops) (hn1 : ops.length ≤ 1048576) (hn2 : inFirst ops ops.length ≤ 1048576) :
    Calls Try.prog 10 #[v1] w fun e w' => e = .returned (.bool true) ∧ Below w.heap.size w w' := by
  obtain ⟨a1, c1, hv1, hc1, hd1⟩ := rd1.row.shape
  unfold maxLen at hd1
  subst hv1
  have RD1 := Lib.hid rd1
  clear rd1
  go_enter Try.func10, Try.ntmps10
  (repeat' (first | (go_big_may; fail) | go_values | go_skip | go_guarded | go_step | go_upon | go_back | dsimp only))
  refine (wakes_calls _).mono ?_
  rintro e w1 ⟨rfl, hb1⟩
  have HB1 := Lib.hid hb1
  clear hb1
  (repeat' (first | (go_big_may; fail) | go_values | go_skip | go_guarded | go_step | go_upon | go_back | dsimp only))
  go_loopw [10] (fun x wr => ∃ k : Nat, x = .int .i64 k ∧ k ≤ ops.length ∧ Below w.heap.size w wr) (fun x _ => ops.length - (intOf x).toNat)
  case atStart => exact ⟨0, rfl, Nat.zero_le _, HB1.out⟩
  case round =>
    obtain ⟨k, rfl, hk, hb⟩ := hrel
    clear HB1
    have hfl := inFirst_le ops k
    by_cases hlt : k < ops.length
    · obtain ⟨bx, off, cp, hsl, x0, x1, hx⟩ := (RD1.out.below hb).get hlt
      cases hsl
      have his := inFirst_succ hlt
      have hfl2 := inFirst_le ops (k + 1)
      generalize ops.getD k default = o at *
      obtain ⟨ok, ov, oxs⟩ := o
      dsimp only at x0 x1 hx his
      obtain ⟨ai, ci, hov, hi1, hi2⟩ := hx.shape
      subst hov
      have hbx : bx < wr.heap.size := World.block_lt_of_cell? _ _ x0
      have hba : Below wr.heap.size wr (wr.alloc (.cells #[.int .i64 ok, .slice ai oxs.length ci] tOp)) := (Below.refl _ _).alloc (Nat.le_refl _) _
      have hbox := heap_alloc_new wr (.cells #[.int .i64 ok, .slice ai oxs.length ci] tOp)
      have hox : oxs.length ≤ 1048576 := by omega
      have hws : w.heap.size ≤ wr.heap.size := hb.size
      have HX := Lib.hid (hx.below hba)
      have HB := Lib.hid (hb.trans (hba.mono hb.size))
      have HBOX := Lib.hid hbox
      have hk1 : (0 : Int) ≤ k := by omega
      have hk2 : (k : Int) < ops.length := by omega
      clear hx hb hba hbox his
      (repeat' (first | (go_big_may; fail) | go_values | go_skip | go_guarded | go_step | go_upon | go_back | dsimp only))
      refine (twin_calls HX.out (by omega)).mono ?_
      rintro e w5 ⟨vt, rfl, hown5, hb5⟩
      have hbox5 := (hb5.block _ (lt_of_heap HBOX.out)).trans HBOX.out
      obtain ⟨o0, o1, _, _, hos⟩ := slot_facts hbox5
      have hws5 : w.heap.size ≤ w5.heap.size := by omega
      have HB5 := Lib.hid (HB.out.trans (hb5.mono (by simp; omega)))
      have HX5 := Lib.hid ((HX.out.below hb5).below ((Below.refl _ _).alloc (Nat.le_refl _) (.cells #[.slice none 0 0] tRH)))
      clear hown5 hb5 hbox5 HX HB HBOX x0 x1
      (repeat' (first | (go_big_may; fail) | go_values | go_skip | go_guarded | go_step | go_upon | go_back | dsimp only))
      refine (Push_nil _ _).mono ?_
      rintro e w' ⟨rfl, rfl⟩
      by_cases hk0 : ok = 1
      · subst hk0
        have hne : ((1 : Int) != 1) = false := rfl
        clear HX5
        (repeat' (first | (go_big_may; fail) | go_values | go_skip | go_guarded | go_step | go_upon | go_back | dsimp only))
        go_roundw
        case rel => exact ⟨k + 1, by simp, hlt, HB5.out⟩
        case measure => simp [intOf] <;> omega
      · have hne : (ok != 1) = true := by simpa using hk0
        (repeat' (first | (go_big_may; fail) | go_values | go_skip | go_guarded | go_step | go_upon | go_back | dsimp only))
        refine (nil_step (B := w.heap.size) (refh_new w5) hws5 ok hk0 HX5.out (by omega)).mono ?_
        rintro e w6 ⟨rfl, hb6⟩
        have HB6 := Lib.hid ((HB5.out.alloc hws5 (.cells #[.slice none 0 0] tRH)).trans hb6)
        clear hb6 HB5 HX5
        (repeat' (first | (go_big_may; fail) | go_values | go_skip | go_guarded | go_step | go_upon | go_back | dsimp only))
        go_roundw
        case rel => exact ⟨k + 1, by simp, hlt, HB6.out⟩
        case measure => simp [intOf] <;> omega
    · have HB := Lib.hid hb
      clear hb RD1
      (repeat' (first | (go_big_may; fail) | go_values | go_skip | go_guarded | go_step | go_upon | go_back | dsimp only))
      refine (Len_nil _).mono ?_
      rintro e w' ⟨rfl, rfl⟩
      (repeat' (first | (go_big_may; fail) | go_values | go_skip | go_guarded | go_step | go_upon | go_back | dsimp only))
      refine (Drain_nil _).mono ?_
      rintro e w5 ⟨rfl, hb5⟩
      have HB5 := Lib.hid (HB.out.trans (hb5.mono HB.out.size))
      clear hb5 HB
      (repeat' (first | (go_big_may; fail) | go_values | go_skip | go_guarded | go_step | go_upon | go_back | dsimp only))
      go_ret
      exact ⟨rfl, HB5.out⟩
end Go.Proofs.Ytgahkodbjokgfaa
