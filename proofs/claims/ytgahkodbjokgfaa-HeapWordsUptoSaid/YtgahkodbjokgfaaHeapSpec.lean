/- heap: what a heap answers, told of the list in the order of coming in. -/
import Derived.Test.YtgahkodbjokgfaaHeapNew
namespace Go.Proofs.Ytgahkodbjokgfaa
open Go.RowKit

/-- The place of the first of the least of L's first k. -/
def leastAt (lt : It → It → Bool) (L : List It) : Nat → Nat
  | 0 => 0
  | k + 1 => if lt (L.getD k default) (L.getD (leastAt lt L k) default) then k else leastAt lt L k
/-- What is left once the least is gone; all in their order. -/
def leftR (lt : It → It → Bool) (L : List It) : List It := L.eraseIdx (leastAt lt L L.length)
def firstR (lt : It → It → Bool) (L : List It) : It := L.getD (leastAt lt L L.length) default
def drainR (lt : It → It → Bool) : Nat → List It → List It
  | 0, _ => []
  | n + 1, L => if L = [] then [] else firstR lt L :: drainR lt n (leftR lt L)

theorem lt_irrefl {lt : It → It → Bool} (h : hp.Ord lt) (x : It) : lt x x = false := by
  cases hx : lt x x with
  | false => rfl
  | true => have := h.asymm _ _ hx; rw [hx] at this; exact this
theorem leastAt_lt (lt : It → It → Bool) (L : List It) : ∀ k, k ≠ 0 → leastAt lt L k < k
  | 0, h => absurd rfl h
  | k + 1, _ => by
    unfold leastAt
    by_cases h : lt (L.getD k default) (L.getD (leastAt lt L k) default) = true
    · rw [if_pos h]; omega
    · rw [if_neg h]
      by_cases hk : k = 0
      · subst hk; simp [leastAt]
      · have := leastAt_lt lt L k hk; omega
theorem leastAt_le (lt : It → It → Bool) (L : List It) (k : Nat) : leastAt lt L k ≤ k := by
  by_cases h : k = 0
  · subst h; exact Nat.le_refl _
  · exact Nat.le_of_lt (leastAt_lt lt L k h)
theorem leastAt_min {lt : It → It → Bool} (hlt : hp.Ord lt) (L : List It) : ∀ k, k ≠ 0 → (∀ j, j < k → lt (L.getD j default) (L.getD (leastAt lt L k) default) = false) ∧ (∀ j, j < leastAt lt L k → lt (L.getD (leastAt lt L k) default) (L.getD j default) = true)
  | 0, h => absurd rfl h
  | k + 1, _ => by
    by_cases hk : k = 0
    · subst hk
      have e : leastAt lt L 1 = 0 := by unfold leastAt; simp [leastAt]
      rw [e]
      have e0 : ∀ j, j < 0 + 1 → j = 0 := fun j hj => by omega
      exact ⟨fun j hj => (e0 j hj) ▸ lt_irrefl hlt _, fun j hj => absurd hj (Nat.not_lt_zero _)⟩
    · obtain ⟨h1, h2⟩ := leastAt_min hlt L k hk
      by_cases h : lt (L.getD k default) (L.getD (leastAt lt L k) default) = true
      · have e : leastAt lt L (k + 1) = k := by rw [leastAt]; exact if_pos h
        rw [e]
        have hj : ∀ j, j < k → lt (L.getD k default) (L.getD j default) = true := fun j hj => by
          cases hb : lt (L.getD k default) (L.getD j default) with
          | true => rfl
          | false =>
            have := hlt.neg (L.getD (leastAt lt L k) default) (L.getD j default) (L.getD k default) (h1 j hj) hb
            rw [h] at this; cases this
        refine ⟨fun j hj' => ?_, hj⟩
        by_cases e : j = k
        · subst e; exact lt_irrefl hlt _
        · exact hlt.asymm _ _ (hj j (by omega))
      · have e : leastAt lt L (k + 1) = leastAt lt L k := by rw [leastAt]; exact if_neg h
        rw [e]
        refine ⟨fun j hj => ?_, h2⟩
        by_cases e : j = k
        · subst e; simpa using h
        · exact h1 j (by omega)
theorem leastAt_is {lt : It → It → Bool} (hlt : hp.Ord lt) {L : List It} (h : L ≠ []) : hp.IsLeast lt L (leastAt lt L L.length) := by
  have hl : L.length ≠ 0 := by simpa using h
  exact ⟨leastAt_lt lt L _ hl, leastAt_min hlt L _ hl⟩

theorem holds_ne {lt : It → It → Bool} {h : List (It × Nat)} {n : Nat} {L : List It} (H : hp.Holds lt h n L) : h = [] ↔ L = [] := by
  rw [← List.length_eq_zero_iff, ← List.length_eq_zero_iff, H.length]
theorem holds_pop {lt : It → It → Bool} (hlt : hp.Ord lt) {h : List (It × Nat)} {n : Nat} {L : List It} (H : hp.Holds lt h n L) (hne : L ≠ []) :
    (h.getD 0 default).1 = firstR lt L ∧ hp.Holds lt (hp.popL (hp.ahead lt) h) n (leftR lt L) := by
  have hh : h ≠ [] := fun e => hne ((holds_ne H).1 e)
  obtain ⟨k, h1, h2, h3⟩ := H.pop hlt hh
  rw [h1.unique (leastAt_is hlt hne)] at h2 h3
  exact ⟨h2, h3⟩
theorem holds_peek {lt : It → It → Bool} (hlt : hp.Ord lt) {h : List (It × Nat)} {n : Nat} {L : List It} (H : hp.Holds lt h n L) : peekR h = if L = [] then (default, false) else (firstR lt L, true) := by
  unfold peekR
  by_cases hL : L = []
  · rw [if_pos ((holds_ne H).2 hL), if_pos hL]
  · rw [if_neg (fun e => hL ((holds_ne H).1 e)), if_neg hL, (holds_pop hlt H hL).1]
theorem holds_popR {lt : It → It → Bool} (hlt : hp.Ord lt) {h : List (It × Nat)} {n : Nat} {L : List It} (H : hp.Holds lt h n L) : hp.Holds lt (popR (hp.ahead lt) h) n (leftR lt L) := by
  unfold popR
  by_cases hL : L = []
  · rw [if_pos ((holds_ne H).2 hL)]
    subst hL
    exact hp.Holds.nil _ _
  · rw [if_neg (fun e => hL ((holds_ne H).1 e))]; exact (holds_pop hlt H hL).2
theorem leftR_length {lt : It → It → Bool} {L : List It} (h : L ≠ []) : (leftR lt L).length + 1 = L.length := by
  have hl : L.length ≠ 0 := by simpa using h
  have := leastAt_lt lt L _ hl
  unfold leftR; rw [List.length_eraseIdx, if_pos this]; omega
theorem drain_eq {lt : It → It → Bool} (hlt : hp.Ord lt) : ∀ (m : Nat) (h : List (It × Nat)) (n : Nat) (L : List It), hp.Holds lt h n L → drainH (hp.ahead lt) m h = drainR lt m L
  | 0, _, _, _, _ => rfl
  | m + 1, h, n, L, H => by
    unfold drainH drainR
    by_cases hL : L = []
    · rw [if_pos ((holds_ne H).2 hL), if_pos hL]
    · obtain ⟨h1, h2⟩ := holds_pop hlt H hL
      rw [if_neg (fun e => hL ((holds_ne H).1 e)), if_neg hL, h1, drain_eq hlt m _ n _ h2]
theorem drainR_len (lt : It → It → Bool) : ∀ (n : Nat) (L : List It), L.length = n → (drainR lt n L).length = n
  | 0, _, _ => rfl
  | n + 1, L, h => by
    have hL : L ≠ [] := fun e => by subst e; simp at h
    have h1 := leftR_length (lt := lt) hL
    rw [drainR, if_neg hL, List.length_cons, drainR_len lt n _ (by omega)]
theorem drainR_length (lt : It → It → Bool) (L : List It) : (drainR lt L.length L).length = L.length := drainR_len lt _ L rfl

theorem holds_new {lt : It → It → Bool} (hlt : hp.Ord lt) (xs : List It) : hp.Holds lt (pushL (hp.ahead lt) [] 0 xs) xs.length xs := by
  have := pushL_holds hlt xs [] 0 [] (hp.Holds.nil lt 0)
  simpa using this

/-- A heap in block b that holds L. -/
def HeapH (w : World) (b : Nat) (fl : FuncId) (lt : It → It → Bool) (L : List It) (n : Nat) (v : Value) : Prop :=
  ∃ h, HeapI w b (.func (.func fl) #[] #[]) h n v ∧ hp.Holds lt h n L

def NewHH (w : World) (fl : FuncId) (lt : It → It → Bool) (xs : List It) (e : Ending) (w' : World) : Prop :=
  ∃ b v, e = .returned (.pointer (some ⟨b, 0, none⟩)) ∧ HeapH w' b fl lt xs xs.length v ∧ Upd [] w w' ∧ Grow w [] (b :: rowOf v)
theorem Items_holds {w : World} {xs : List It} {vx : Value} (hx : RdRow w vx xs.length 2 (cellsI xs)) (hn : xs.length ≤ 1099511627776) :
    Calls Try.prog 20 #[vx] w (NewHH w fLess ltK xs) :=
  (Items_calls hx hn).mono fun _ _ ⟨b, v, h1, h2, h3⟩ => ⟨b, v, h1, ⟨_, h2, holds_new ordK xs⟩, h3⟩
theorem New_holds {fl : FuncId} {lt : It → It → Bool} (hL : LessI fl lt) {w : World} {xs : List It} {vx : Value} (hx : RdRow w vx xs.length 2 (cellsI xs)) (hn : xs.length ≤ 1099511627776) :
    Calls Try.prog 13 #[.func (.func fl) #[] #[], vx] w (NewHH w fl lt xs) :=
  (New_calls hL hx hn).mono fun _ _ ⟨b, v, h1, h2, h3⟩ => ⟨b, v, h1, ⟨_, h2, holds_new hL.ord xs⟩, h3⟩
theorem New_nil_holds {w : World} {xs : List It} {vx : Value} (hx : RdRow w vx xs.length 2 (cellsI xs)) (hn : xs.length ≤ 1099511627776) :
    Calls Try.prog 13 #[.nilFunc, vx] w (NewHH w fNone ltN xs) :=
  (New_nil_calls hx hn).mono fun _ _ ⟨b, v, h1, h2, h3⟩ => ⟨b, v, h1, ⟨_, h2, holds_new ordN xs⟩, h3⟩
theorem Pop_holds {fl : FuncId} {lt : It → It → Bool} (hL : LessI fl lt) {w : World} {b n : Nat} {L : List It} {v : Value} (h : HeapH w b fl lt L n v) (hn : L.length ≤ 1099511627776) :
    Calls Try.prog 19 #[.pointer (some ⟨b, 0, none⟩)] w fun e w' => e = .returned (itB (if L = [] then (default, false) else (firstR lt L, true))) ∧ ∃ v', HeapH w' b fl lt (leftR lt L) n v' ∧ Upd (b :: rowOf v) w w' ∧ Grow w (b :: rowOf v) (b :: rowOf v') := by
  obtain ⟨l, h1, h2⟩ := h
  refine (Pop_calls hL h1 (by rw [h2.length]; exact hn)).mono ?_
  rintro e w' ⟨rfl, v', h3, h4⟩
  exact ⟨by rw [holds_peek hL.ord h2], v', ⟨_, h3, holds_popR hL.ord h2⟩, h4⟩
theorem Push_holds {fl : FuncId} {lt : It → It → Bool} (hL : LessI fl lt) {w : World} {b n : Nat} {L : List It} {v : Value} (h : HeapH w b fl lt L n v)
    {xs : List It} {vx : Value} (hx : RdRow w vx xs.length 2 (cellsI xs)) (hdx : ∀ k off c, vx = .slice (some ⟨k, off, none⟩) xs.length c → xs ≠ [] → k ∉ b :: rowOf v) (hn : L.length + xs.length ≤ 1099511627776) (ht : n + xs.length ≤ 1099511627776) :
    Calls Try.prog 18 #[.pointer (some ⟨b, 0, none⟩), vx] w fun e w' => e = .returned (.tuple #[]) ∧ ∃ v', HeapH w' b fl lt (L ++ xs) (n + xs.length) v' ∧ Upd (b :: rowOf v) w w' ∧ Grow w (b :: rowOf v) (b :: rowOf v') := by
  obtain ⟨l, h1, h2⟩ := h
  refine (Push_calls hL h1 hx hdx (by rw [h2.length]; exact hn) ht).mono ?_
  rintro e w' ⟨rfl, v', h3, h4⟩
  exact ⟨rfl, v', ⟨_, h3, pushL_holds hL.ord xs _ _ _ h2⟩, h4⟩
theorem Drain_holds {fl : FuncId} {lt : It → It → Bool} (hL : LessI fl lt) {w : World} {b n : Nat} {L : List It} {v : Value} (h : HeapH w b fl lt L n v) (hn : L.length ≤ 1099511627776) :
    Calls Try.prog 16 #[.pointer (some ⟨b, 0, none⟩)] w fun e w' => ∃ vr, e = .returned vr ∧ Items w (drainR lt L.length L) vr w' ∧ ∃ v', HeapH w' b fl lt [] n v' ∧ Upd (b :: rowOf v) w w' ∧ Grow w (b :: rowOf v) (b :: rowOf v') := by
  obtain ⟨l, h1, h2⟩ := h
  refine (Drain_calls hL h1 (by rw [h2.length]; exact hn)).mono ?_
  rintro e w' ⟨vr, rfl, h3, v', h4, h5⟩
  rw [drain_eq hL.ord _ _ _ _ h2, h2.length] at h3
  exact ⟨vr, rfl, h3, v', ⟨_, h4, hp.Holds.nil _ _⟩, h5⟩
end Go.Proofs.Ytgahkodbjokgfaa
