/- heap: New, Items; the lesses. -/
import Derived.Test.YtgahkodbjokgfaaHeapDrain
namespace Go.Proofs.Ytgahkodbjokgfaa
open Go.RowKit

abbrev fLess : FuncId := 12
abbrev fNone : FuncId := 32
abbrev fFall : FuncId := 14
abbrev ltK (x y : It) : Bool := decide (x.key < y.key)
abbrev ltF (x y : It) : Bool := decide (y.key < x.key)
abbrev ltN (_ _ : It) : Bool := false

set_option maxHeartbeats 400000 in
theorem falling_calls (x y : It) (w : World) : Calls Try.prog fFall #[x.v, y.v] w fun e w' => e = .returned (.bool (ltF x y)) ∧ Below w.heap.size w w' := by
  go_enter Try.func14, Try.ntmps14
  (repeat' (first | (go_big_may; fail) | go_values | go_skip | go_guarded | go_step | go_upon | go_back | dsimp only))
  go_ret
  exact ⟨rfl, ((Below.refl _ _).alloc (Nat.le_refl _) _).alloc (by simp) _⟩
set_option maxHeartbeats 400000 in
theorem none_calls (x y : It) (w : World) : Calls Try.prog fNone #[x.v, y.v] w fun e w' => e = .returned (.bool (ltN x y)) ∧ Below w.heap.size w w' := by
  go_enter Try.func32, Try.ntmps32
  (repeat' (first | (go_big_may; fail) | go_values | go_skip | go_guarded | go_step | go_upon | go_back | dsimp only))
  go_ret
  exact ⟨rfl, ((Below.refl _ _).alloc (Nat.le_refl _) _).alloc (by simp) _⟩

theorem ordK : hp.Ord ltK := ⟨fun x y h => by simp [ltK] at *; omega, fun x y z h k => by simp [ltK] at *; omega⟩
theorem ordF : hp.Ord ltF := ⟨fun x y h => by simp [ltF] at *; omega, fun x y z h k => by simp [ltF] at *; omega⟩
theorem ordN : hp.Ord ltN := ⟨fun x y h => by simp [ltN] at *, fun x y z h k => rfl⟩
theorem enters_Less : ∀ args w, (callFunc fLess args).run Try.prog w = .ok (.enter fLess args) w := fun args w => enters_fn Try.func12 rfl rfl args w
theorem enters_fall : ∀ args w, (callFunc fFall args).run Try.prog w = .ok (.enter fFall args) w := fun args w => enters_fn Try.func14 rfl rfl args w
theorem enters_none : ∀ args w, (callFunc fNone args).run Try.prog w = .ok (.enter fNone args) w := fun args w => enters_fn Try.func32 rfl rfl args w
theorem lessK : LessI fLess ltK := ⟨enters_Less, Less_calls, ordK⟩
theorem lessF : LessI fFall ltF := ⟨enters_fall, falling_calls, ordF⟩
theorem lessN : LessI fNone ltN := ⟨enters_none, none_calls, ordN⟩

/-- A new heap. -/
def NewH (w : World) (fl : FuncId) (lt : It → It → Bool) (xs : List It) (e : Ending) (w' : World) : Prop :=
  ∃ b v, e = .returned (.pointer (some ⟨b, 0, none⟩)) ∧ HeapI w' b (.func (.func fl) #[] #[]) (pushL (hp.ahead lt) [] 0 xs) xs.length v ∧ Upd [] w w' ∧ Grow w [] (b :: rowOf v)

theorem newH_end {w w' : World} {fl : FuncId} {lt : It → It → Bool} {xs : List It} {v : Value}
    (hh : HeapI w' w.heap.size (.func (.func fl) #[] #[]) (pushL (hp.ahead lt) [] 0 xs) (0 + xs.length) v)
    (hu : Upd (w.heap.size :: rowOf (.slice none 0 0)) (w.alloc (.cells #[.func (.func fl) #[] #[], .slice none 0 0, .int .i64 0] tHeapI)) w')
    (hg : Grow (w.alloc (.cells #[.func (.func fl) #[] #[], .slice none 0 0, .int .i64 0] tHeapI)) (w.heap.size :: rowOf (.slice none 0 0)) (w.heap.size :: rowOf v)) :
    NewH w fl lt xs (.returned (.pointer (some ⟨w.heap.size, 0, none⟩))) w' := by
  have hg0 : Grow w [] (w.heap.size :: rowOf (.slice none 0 0)) := fun k hk => by
    rcases List.mem_cons.1 hk with rfl | hk
    · exact .inr (Nat.le_refl _)
    · simp [rowOf, Value.ownBlock] at hk
  exact ⟨_, v, rfl, by simpa using hh, ((Upd.refl [] w).alloc _).trans hu hg0, hg0.trans hg (by simp)⟩

theorem newH_start (w : World) (f : Value) : HeapI (w.alloc (.cells #[f, .slice none 0 0, .int .i64 0] tHeapI)) w.heap.size f [] 0 (.slice none 0 0) :=
  ⟨heap_alloc_new w _, World.ownsRow_nil _ _ _ _⟩

set_option maxHeartbeats 800000 in
theorem New_calls {fl : FuncId} {lt : It → It → Bool} (hL : LessI fl lt) {w : World} {xs : List It} {vx : Value} (hx : RdRow w vx xs.length 2 (cellsI xs)) (hn : xs.length ≤ 1099511627776) :
    Calls Try.prog 13 #[.func (.func fl) #[] #[], vx] w (NewH w fl lt xs) := by
  have hba : Below w.heap.size w (w.alloc (.cells #[.func (.func fl) #[] #[], .slice none 0 0, .int .i64 0] tHeapI)) := (Below.refl _ _).alloc (Nat.le_refl _) _
  have hdx : ∀ k off c, vx = .slice (some ⟨k, off, none⟩) xs.length c → xs ≠ [] → k ∉ w.heap.size :: rowOf (.slice none 0 0) := fun k off c e hne hm => by
    obtain ⟨b', o', c', e', h0, _⟩ := hx.item (i := 0) (List.length_pos_iff.2 hne)
    rw [e] at e'; cases e'
    have := World.block_lt_of_cell? w _ h0
    rcases List.mem_cons.1 hm with rfl | hm
    · simp at this
    · simp [rowOf, Value.ownBlock] at hm
  have HP := Lib.hid (Push_calls hL (newH_start w _) (hx.below hba) hdx (by simpa using hn) (by omega))
  have hrun : ∀ w : World, (binOp BinOp.eql 29 (.func (.func fl) #[] #[]) .nilFunc).run Try.prog w = .ok (.bool false) w := fun _ => by kernel_rfl
  clear hx hdx hba
  go_enter Try.func13, Try.ntmps13
  (repeat' (first | (go_big_may; fail) | go_values | go_skip | go_guarded | go_step | go_upon | go_back | dsimp only))
  refine HP.out.mono ?_
  rintro e w1 ⟨rfl, v1, hh, hu, hg⟩
  have H := Lib.hid (newH_end hh hu hg)
  clear HP hh hu hg
  (repeat' (first | (go_big_may; fail) | go_values | go_skip | go_guarded | go_step | go_upon | go_back | dsimp only))
  go_ret
  exact H.out

set_option maxHeartbeats 800000 in
theorem New_nil_calls {w : World} {xs : List It} {vx : Value} (hx : RdRow w vx xs.length 2 (cellsI xs)) (hn : xs.length ≤ 1099511627776) :
    Calls Try.prog 13 #[.nilFunc, vx] w (NewH w fNone ltN xs) := by
  have hba : Below w.heap.size w (w.alloc (.cells #[.func (.func fNone) #[] #[], .slice none 0 0, .int .i64 0] tHeapI)) := (Below.refl _ _).alloc (Nat.le_refl _) _
  have hdx : ∀ k off c, vx = .slice (some ⟨k, off, none⟩) xs.length c → xs ≠ [] → k ∉ w.heap.size :: rowOf (.slice none 0 0) := fun k off c e hne hm => by
    obtain ⟨b', o', c', e', h0, _⟩ := hx.item (i := 0) (List.length_pos_iff.2 hne)
    rw [e] at e'; cases e'
    have := World.block_lt_of_cell? w _ h0
    rcases List.mem_cons.1 hm with rfl | hm
    · simp at this
    · simp [rowOf, Value.ownBlock] at hm
  have HP := Lib.hid (Push_calls lessN (newH_start w _) (hx.below hba) hdx (by simpa using hn) (by omega))
  have hrun : ∀ w : World, (binOp BinOp.eql 29 .nilFunc .nilFunc).run Try.prog w = .ok (.bool true) w := fun _ => by kernel_rfl
  clear hx hdx hba
  go_enter Try.func13, Try.ntmps13
  (repeat' (first | (go_big_may; fail) | go_values | go_skip | go_guarded | go_step | go_upon | go_back | dsimp only))
  refine HP.out.mono ?_
  rintro e w1 ⟨rfl, v1, hh, hu, hg⟩
  have H := Lib.hid (newH_end hh hu hg)
  clear HP hh hu hg
  (repeat' (first | (go_big_may; fail) | go_values | go_skip | go_guarded | go_step | go_upon | go_back | dsimp only))
  go_ret
  exact H.out

set_option maxHeartbeats 400000 in
theorem Items_calls {w : World} {xs : List It} {vx : Value} (hx : RdRow w vx xs.length 2 (cellsI xs)) (hn : xs.length ≤ 1099511627776) :
    Calls Try.prog 20 #[vx] w (NewH w fLess ltK xs) := by
  go_enter Try.func20, Try.ntmps20
  (repeat' (first | (go_big_may; fail) | go_values | go_skip | go_guarded | go_step | go_upon | go_back | dsimp only))
  refine (New_calls lessK hx hn).mono ?_
  rintro e w1 ⟨b, v, rfl, hr⟩
  (repeat' (first | (go_big_may; fail) | go_values | go_skip | go_guarded | go_step | go_upon | go_back | dsimp only))
  go_ret
  exact ⟨b, v, rfl, hr⟩
end Go.Proofs.Ytgahkodbjokgfaa
