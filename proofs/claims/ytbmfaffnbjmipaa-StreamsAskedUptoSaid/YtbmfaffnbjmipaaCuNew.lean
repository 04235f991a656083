/- heap of texts: New, Words; the less; what the heap answers, told of the list in the order of coming in. -/
import Derived.Test.YtbmfaffnbjmipaaCuRep
import Derived.WalkLawsBesides
namespace Go.Proofs.Ytbmfaffnbjmipaa.cu
open Go.RowKit

abbrev fLess : FuncId := 35
def ltB (x y : Cur) : Bool := Op.bytesLess x.key y.key

theorem less_asymm : ∀ x y : List UInt8, Op.bytesLess x y = true → Op.bytesLess y x = false
  | [], [], h => by simp [Op.bytesLess] at h
  | _ :: _, [], h => by simp [Op.bytesLess] at h
  | [], _ :: _, _ => by simp [Op.bytesLess]
  | a :: x, b :: y, h => by
    simp only [Op.bytesLess, Bool.or_eq_true, decide_eq_true_eq, Bool.and_eq_true, beq_iff_eq, Bool.or_eq_false_iff, decide_eq_false_iff_not, Bool.and_eq_false_imp] at h ⊢
    rcases h with h | ⟨rfl, h⟩
    · rw [UInt8.lt_iff_toNat_lt] at h ⊢
      exact ⟨by omega, fun e => by subst e; omega⟩
    · exact ⟨by rw [UInt8.lt_iff_toNat_lt]; omega, fun _ => less_asymm x y h⟩
theorem less_neg : ∀ x y z : List UInt8, Op.bytesLess y x = false → Op.bytesLess z y = false → Op.bytesLess z x = false
  | [], _, z, _, _ => by simp [Op.bytesLess]
  | _ :: _, [], _, h, _ => by simp [Op.bytesLess] at h
  | _ :: _, _ :: _, [], _, k => by simp [Op.bytesLess] at k
  | a :: x, b :: y, c :: z, h, k => by
    simp only [Op.bytesLess, Bool.or_eq_false_iff, decide_eq_false_iff_not, Bool.and_eq_false_imp, beq_iff_eq] at h k ⊢
    obtain ⟨h1, h2⟩ := h
    obtain ⟨k1, k2⟩ := k
    rw [UInt8.lt_iff_toNat_lt] at h1 k1 ⊢
    refine ⟨by omega, fun e => ?_⟩
    subst e
    have e2 : b = c := UInt8.toNat_inj.1 (by omega)
    subst e2
    exact less_neg x y z (h2 rfl) (k2 rfl)
theorem ordB : hp.Ord ltB := ⟨fun _ _ h => less_asymm _ _ h, fun _ _ _ h k => less_neg _ _ _ h k⟩

theorem Live.head {w : World} {x : Cur} (h : Live w x) : ∃ g i, x.a = some ⟨g, i, none⟩ ∧ 0 < x.n ∧ x.n ≤ maxLen ∧ w.cell? ⟨g, i, none⟩ = some (.string ⟨x.key.toArray⟩) := by
  obtain ⟨g, i, h1, h2, h3, h4, h5, h6⟩ := h
  refine ⟨g, i, h1, h3, by omega, ?_⟩
  cases hl : x.left with
  | nil => rw [hl] at h2; simp at h2; omega
  | cons t l =>
    have := h6 0 t (by rw [hl]; rfl)
    simpa [Cur.key, hl] using this
set_option maxHeartbeats 800000 in
theorem Less_calls (x y : Cur) (w : World) (hx : Live w x) (hy : Live w y) : Calls Try.prog fLess #[x.v, y.v] w fun e w' => e = .returned (.bool (ltB x y)) ∧ Below w.heap.size w w' := by
  obtain ⟨g, i, xa, xn, xm, x0⟩ := hx.head
  obtain ⟨g', i', ya, yn, ym, y0⟩ := hy.head
  have hgs := World.block_lt_of_cell? w _ x0
  have hgs' := World.block_lt_of_cell? w _ y0
  unfold Cur.v
  rw [xa, ya]
  have hx1 : (0 : Int) < x.n := by omega
  have hy1 : (0 : Int) < y.n := by omega
  unfold ltB
  clear hx hy xa ya xm ym
  generalize x.key = kx at *
  generalize y.key = ky at *
  generalize x.n = nx at *
  generalize y.n = ny at *
  generalize x.c = cx at *
  generalize y.c = cy at *
  go_enter Try.func35, Try.ntmps35
  (repeat' (first | (go_big_may; fail) | go_values | go_skip | go_guarded | go_step | go_upon | go_back | dsimp only))
  go_quiet (fail)
  (repeat' (first | (go_big_may; fail) | go_values | go_skip | go_guarded | go_step | go_upon | go_back | dsimp only))
  go_ret
  exact ⟨rfl, (((Below.refl _ _).alloc (Nat.le_refl _) _).alloc (by simp) _).trans ((below_dW _ _).mono (by simp; omega))⟩
theorem enters_Less : ∀ args w, (callFunc fLess args).run Try.prog w = .ok (.enter fLess args) w := fun args w => enters_fn Try.func35 rfl rfl args w
theorem lessB : LessI fLess ltB := ⟨enters_Less, Less_calls, ordB⟩

/-- A new heap. -/
def NewH (w : World) (fl : FuncId) (lt : Cur → Cur → Bool) (xs : List Cur) (e : Ending) (w' : World) : Prop :=
  ∃ b v, e = .returned (.pointer (some ⟨b, 0, none⟩)) ∧ HeapI w' b (.func (.func fl) #[] #[]) (pushL (hp.ahead lt) [] 0 xs) xs.length v ∧ Upd [] w w' ∧ Grow w [] (b :: rowOf v)

theorem newH_end {w w' : World} {fl : FuncId} {lt : Cur → Cur → Bool} {xs : List Cur} {v : Value}
    (hh : HeapI w' w.heap.size (.func (.func fl) #[] #[]) (pushL (hp.ahead lt) [] 0 xs) (0 + xs.length) v)
    (hu : Upd (w.heap.size :: rowOf (.slice none 0 0)) (w.alloc (.cells #[.func (.func fl) #[] #[], .slice none 0 0, .int .i64 0] tHeapC)) w')
    (hg : Grow (w.alloc (.cells #[.func (.func fl) #[] #[], .slice none 0 0, .int .i64 0] tHeapC)) (w.heap.size :: rowOf (.slice none 0 0)) (w.heap.size :: rowOf v)) :
    NewH w fl lt xs (.returned (.pointer (some ⟨w.heap.size, 0, none⟩))) w' := by
  have hg0 : Grow w [] (w.heap.size :: rowOf (.slice none 0 0)) := fun k hk => by
    rcases List.mem_cons.1 hk with rfl | hk
    · exact .inr (Nat.le_refl _)
    · simp [rowOf, Value.ownBlock] at hk
  exact ⟨_, v, rfl, by simpa using hh, ((Upd.refl [] w).alloc _).trans hu hg0, hg0.trans hg (by simp)⟩

theorem newH_start (w : World) (f : Value) : HeapI (w.alloc (.cells #[f, .slice none 0 0, .int .i64 0] tHeapC)) w.heap.size f [] 0 (.slice none 0 0) :=
  ⟨heap_alloc_new w _, World.ownsRow_nil _ _ _ _, fun _ h => by simp at h⟩

set_option maxHeartbeats 800000 in
theorem New_calls {fl : FuncId} {lt : Cur → Cur → Bool} (hL : LessI fl lt) {w : World} :
    Calls Try.prog 34 #[.func (.func fl) #[] #[], .slice none 0 0] w (NewH w fl lt []) := by
  have HP := Lib.hid (Push_calls hL (newH_start w _) (xs := []) (vx := .slice none 0 0) (RdRow.of_own (World.ownsRow_nil (w.alloc (.cells #[.func (.func fl) #[] #[], .slice none 0 0, .int .i64 0] tHeapC)) 0 54 1)) (fun _ _ _ _ h => absurd rfl h) (by simp) (by simp) (by simp))
  have hrun : ∀ w : World, (binOp BinOp.eql 55 (.func (.func fl) #[] #[]) .nilFunc).run Try.prog w = .ok (.bool false) w := fun _ => by kernel_rfl
  go_enter Try.func34, Try.ntmps34
  (repeat' (first | (go_big_may; fail) | go_values | go_skip | go_guarded | go_step | go_upon | go_back | dsimp only))
  refine HP.out.mono ?_
  rintro e w1 ⟨rfl, v1, hh, hu, hg⟩
  have H := Lib.hid (newH_end hh hu hg)
  clear HP hh hu hg
  (repeat' (first | (go_big_may; fail) | go_values | go_skip | go_guarded | go_step | go_upon | go_back | dsimp only))
  go_ret
  exact H.out

/-- The place of the first of the least of L's first k. -/
def leastAt (lt : Cur → Cur → Bool) (L : List Cur) : Nat → Nat
  | 0 => 0
  | k + 1 => if lt (L.getD k default) (L.getD (leastAt lt L k) default) then k else leastAt lt L k
/-- What is left once the least is gone; all in their order. -/
def leftR (lt : Cur → Cur → Bool) (L : List Cur) : List Cur := L.eraseIdx (leastAt lt L L.length)
def firstR (lt : Cur → Cur → Bool) (L : List Cur) : Cur := L.getD (leastAt lt L L.length) default
theorem lt_irrefl {lt : Cur → Cur → Bool} (h : hp.Ord lt) (x : Cur) : lt x x = false := by
  cases hx : lt x x with
  | false => rfl
  | true => have := h.asymm _ _ hx; rw [hx] at this; exact this
theorem leastAt_lt (lt : Cur → Cur → Bool) (L : List Cur) : ∀ k, k ≠ 0 → leastAt lt L k < k
  | 0, h => absurd rfl h
  | k + 1, _ => by
    unfold leastAt
    by_cases h : lt (L.getD k default) (L.getD (leastAt lt L k) default) = true
    · rw [if_pos h]; omega
    · rw [if_neg h]
      by_cases hk : k = 0
      · subst hk; simp [leastAt]
      · have := leastAt_lt lt L k hk; omega
theorem leastAt_le (lt : Cur → Cur → Bool) (L : List Cur) (k : Nat) : leastAt lt L k ≤ k := by
  by_cases h : k = 0
  · subst h; exact Nat.le_refl _
  · exact Nat.le_of_lt (leastAt_lt lt L k h)
theorem leastAt_min {lt : Cur → Cur → Bool} (hlt : hp.Ord lt) (L : List Cur) : ∀ k, k ≠ 0 → (∀ j, j < k → lt (L.getD j default) (L.getD (leastAt lt L k) default) = false) ∧ (∀ j, j < leastAt lt L k → lt (L.getD (leastAt lt L k) default) (L.getD j default) = true)
  | 0, h => absurd rfl h
  | k + 1, _ => by
    by_cases hk : k = 0
    · subst hk
      have e : leastAt lt L 1 = 0 := by unfold leastAt; simp [leastAt]
      rw [e]
      have e0 : ∀ j, j < 0 + 1 → j = 0 := fun j hj => by omega
      exact ⟨fun j hj => (e0 j hj) ▸ lt_irrefl hlt _, fun j hj => absurd hj (Nat.not_lt_zero _)⟩
    · obtain ⟨h1, h2⟩ := leastAt_min hlt L k hk
      by_cases h : lt (L.getD k default) (L.getD (leastAt lt L k) default) = true
      · have e : leastAt lt L (k + 1) = k := by rw [leastAt]; exact if_pos h
        rw [e]
        have hj : ∀ j, j < k → lt (L.getD k default) (L.getD j default) = true := fun j hj => by
          cases hb : lt (L.getD k default) (L.getD j default) with
          | true => rfl
          | false =>
            have := hlt.neg (L.getD (leastAt lt L k) default) (L.getD j default) (L.getD k default) (h1 j hj) hb
            rw [h] at this; cases this
        refine ⟨fun j hj' => ?_, hj⟩
        by_cases e : j = k
        · subst e; exact lt_irrefl hlt _
        · exact hlt.asymm _ _ (hj j (by omega))
      · have e : leastAt lt L (k + 1) = leastAt lt L k := by rw [leastAt]; exact if_neg h
        rw [e]
        refine ⟨fun j hj => ?_, h2⟩
        by_cases e : j = k
        · subst e; simpa using h
        · exact h1 j (by omega)
theorem leastAt_is {lt : Cur → Cur → Bool} (hlt : hp.Ord lt) {L : List Cur} (h : L ≠ []) : hp.IsLeast lt L (leastAt lt L L.length) := by
  have hl : L.length ≠ 0 := by simpa using h
  exact ⟨leastAt_lt lt L _ hl, leastAt_min hlt L _ hl⟩

theorem holds_ne {lt : Cur → Cur → Bool} {h : List (Cur × Nat)} {n : Nat} {L : List Cur} (H : hp.Holds lt h n L) : h = [] ↔ L = [] := by
  rw [← List.length_eq_zero_iff, ← List.length_eq_zero_iff, H.length]
theorem holds_pop {lt : Cur → Cur → Bool} (hlt : hp.Ord lt) {h : List (Cur × Nat)} {n : Nat} {L : List Cur} (H : hp.Holds lt h n L) (hne : L ≠ []) :
    (h.getD 0 default).1 = firstR lt L ∧ hp.Holds lt (hp.popL (hp.ahead lt) h) n (leftR lt L) := by
  have hh : h ≠ [] := fun e => hne ((holds_ne H).1 e)
  obtain ⟨k, h1, h2, h3⟩ := H.pop hlt hh
  rw [h1.unique (leastAt_is hlt hne)] at h2 h3
  exact ⟨h2, h3⟩
theorem holds_peek {lt : Cur → Cur → Bool} (hlt : hp.Ord lt) {h : List (Cur × Nat)} {n : Nat} {L : List Cur} (H : hp.Holds lt h n L) : peekR h = if L = [] then (default, false) else (firstR lt L, true) := by
  unfold peekR
  by_cases hL : L = []
  · rw [if_pos ((holds_ne H).2 hL), if_pos hL]
  · rw [if_neg (fun e => hL ((holds_ne H).1 e)), if_neg hL, (holds_pop hlt H hL).1]
theorem holds_popR {lt : Cur → Cur → Bool} (hlt : hp.Ord lt) {h : List (Cur × Nat)} {n : Nat} {L : List Cur} (H : hp.Holds lt h n L) : hp.Holds lt (popR (hp.ahead lt) h) n (leftR lt L) := by
  unfold popR
  by_cases hL : L = []
  · rw [if_pos ((holds_ne H).2 hL)]
    subst hL
    exact hp.Holds.nil _ _
  · rw [if_neg (fun e => hL ((holds_ne H).1 e))]; exact (holds_pop hlt H hL).2
theorem leftR_length {lt : Cur → Cur → Bool} {L : List Cur} (h : L ≠ []) : (leftR lt L).length + 1 = L.length := by
  have hl : L.length ≠ 0 := by simpa using h
  have := leastAt_lt lt L _ hl
  unfold leftR; rw [List.length_eraseIdx, if_pos this]; omega
theorem holds_new {lt : Cur → Cur → Bool} (hlt : hp.Ord lt) (xs : List Cur) : hp.Holds lt (pushL (hp.ahead lt) [] 0 xs) xs.length xs := by
  have := pushL_holds hlt xs [] 0 [] (hp.Holds.nil lt 0)
  simpa using this

/-- A heap in block b that holds L. -/
def HeapH (w : World) (b : Nat) (fl : FuncId) (lt : Cur → Cur → Bool) (L : List Cur) (n : Nat) (v : Value) : Prop :=
  ∃ h, HeapI w b (.func (.func fl) #[] #[]) h n v ∧ hp.Holds lt h n L

theorem Pop_holds {fl : FuncId} {lt : Cur → Cur → Bool} (hL : LessI fl lt) {w : World} {b n : Nat} {L : List Cur} {v : Value} (h : HeapH w b fl lt L n v) (hn : L.length ≤ 1099511627776) :
    Calls Try.prog 40 #[.pointer (some ⟨b, 0, none⟩)] w fun e w' => e = .returned (itB (if L = [] then (default, false) else (firstR lt L, true))) ∧ ∃ v', HeapH w' b fl lt (leftR lt L) n v' ∧ Upd (b :: rowOf v) w w' ∧ Grow w (b :: rowOf v) (b :: rowOf v') := by
  obtain ⟨l, h1, h2⟩ := h
  refine (Pop_calls hL h1 (by rw [h2.length]; exact hn)).mono ?_
  rintro e w' ⟨rfl, v', h3, h4⟩
  exact ⟨by rw [holds_peek hL.ord h2], v', ⟨_, h3, holds_popR hL.ord h2⟩, h4⟩
theorem Push_holds {fl : FuncId} {lt : Cur → Cur → Bool} (hL : LessI fl lt) {w : World} {b n : Nat} {L : List Cur} {v : Value} (h : HeapH w b fl lt L n v)
    {xs : List Cur} {vx : Value} (hx : RdRow w vx xs.length 1 (cellsC xs)) (hdx : ∀ k off c, vx = .slice (some ⟨k, off, none⟩) xs.length c → xs ≠ [] → k ∉ b :: rowOf v) (hxl : ∀ x ∈ xs, Live w x ∧ ∀ a, x.a = some a → a.block ∉ b :: rowOf v) (hn : L.length + xs.length ≤ 1099511627776) (ht : n + xs.length ≤ 1099511627776) :
    Calls Try.prog 37 #[.pointer (some ⟨b, 0, none⟩), vx] w fun e w' => e = .returned (.tuple #[]) ∧ ∃ v', HeapH w' b fl lt (L ++ xs) (n + xs.length) v' ∧ Upd (b :: rowOf v) w w' ∧ Grow w (b :: rowOf v) (b :: rowOf v') := by
  obtain ⟨l, h1, h2⟩ := h
  refine (Push_calls hL h1 hx hdx hxl (by rw [h2.length]; exact hn) ht).mono ?_
  rintro e w' ⟨rfl, v', h3, h4⟩
  exact ⟨rfl, v', ⟨_, h3, pushL_holds hL.ord xs _ _ _ h2⟩, h4⟩

end Go.Proofs.Ytbmfaffnbjmipaa.cu
