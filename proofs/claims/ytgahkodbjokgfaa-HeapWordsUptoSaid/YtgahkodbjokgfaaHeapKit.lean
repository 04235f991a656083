/- A heap of items in memory. -/
import Derived.Test.YtgahkodbjokgfaaRows
import Derived.Test.YtgahkodbjokgfaaMem
import Derived.Test.YtgahkodbjokgfaaHeapRef
import Derived.Lib.Hide
import Derived.Deep.RegionHeld3
import Derived.Deep.QuietTactic
import Derived.BigQuiet
import Derived.BigRegion
namespace Go.Proofs.Ytgahkodbjokgfaa
open Go.RowKit

structure It where
  key : Int
  tag : Int
  deriving DecidableEq, Inhabited

/-- An item as a value; an entry's cells. -/
abbrev It.v (x : It) : Value := .agg #[.int .i64 x.key, .int .i64 x.tag]
abbrev entI (e : It × Nat) : List Value := [.int .i64 e.1.key, .int .i64 e.1.tag, .int .i64 e.2]
abbrev tHeapI : TypeId := 68
abbrev tEntI : TypeId := 72

/-- A 'less' that is handed in: a Go function that answers lt. -/
structure LessI (fl : FuncId) (lt : It → It → Bool) : Prop where
  enters : ∀ args w, (callFunc fl args).run Try.prog w = .ok (.enter fl args) w
  calls : ∀ (x y : It) (w : World), Calls Try.prog fl #[x.v, y.v] w fun e w' => e = .returned (.bool (lt x y)) ∧ Below w.heap.size w w'
  ord : hp.Ord lt

def flatI (l : List (It × Nat)) : List Value := l.flatMap entI
theorem flatI_length (l : List (It × Nat)) : (flatI l).length = l.length * 3 := by
  induction l with
  | nil => rfl
  | cons e l ih => simp only [flatI, List.flatMap_cons, List.length_append, List.length_cons, List.length_nil] at ih ⊢; omega
theorem flatI_append (l r : List (It × Nat)) : flatI (l ++ r) = flatI l ++ flatI r := by simp [flatI]
theorem flatI_get (l : List (It × Nat)) (i : Nat) (hi : i < l.length) : (flatI l)[i * 3]? = some (.int .i64 (l.getD i default).1.key) ∧ (flatI l)[i * 3 + 1]? = some (.int .i64 (l.getD i default).1.tag) ∧ (flatI l)[i * 3 + 2]? = some (.int .i64 (l.getD i default).2) := by
  induction l generalizing i with
  | nil => simp at hi
  | cons e l ih =>
    cases i with
    | zero => exact ⟨rfl, rfl, rfl⟩
    | succ i =>
      have := ih i (by simpa using hi)
      have e1 : flatI (e :: l) = entI e ++ flatI l := by simp [flatI]
      rw [e1]
      have h0 : (i + 1) * 3 = 3 + i * 3 := by omega
      have h1 : (i + 1) * 3 + 1 = 3 + (i * 3 + 1) := by omega
      have h2 : (i + 1) * 3 + 2 = 3 + (i * 3 + 2) := by omega
      rw [h0, Nat.add_assoc 3, Nat.add_assoc 3]
      have h3 : ∀ k, (entI e ++ flatI l)[3 + k]? = (flatI l)[k]? := fun k => by
        rw [List.getElem?_append_right (by simp)]; simp
      simp only [h3, List.getD_cons_succ]
      exact this

/-- Two rows are one if their entries are. -/
theorem flatI_ext {xs : List Value} {l : List (It × Nat)} (hl : xs.length = l.length * 3)
    (h : ∀ i, i < l.length → xs[i * 3]? = some (.int .i64 (l.getD i default).1.key) ∧ xs[i * 3 + 1]? = some (.int .i64 (l.getD i default).1.tag) ∧ xs[i * 3 + 2]? = some (.int .i64 (l.getD i default).2)) : xs = flatI l := by
  apply List.ext_getElem?
  intro k
  by_cases hk : k < l.length * 3
  · have hq : k / 3 < l.length := by omega
    obtain ⟨h0, h1, h2⟩ := h (k / 3) hq
    obtain ⟨g0, g1, g2⟩ := flatI_get l (k / 3) hq
    have hr : k % 3 = 0 ∨ k % 3 = 1 ∨ k % 3 = 2 := by omega
    rcases hr with hr | hr | hr
    · have e : k = k / 3 * 3 := by omega
      rw [e, h0, g0]
    · have e : k = k / 3 * 3 + 1 := by omega
      rw [e, h1, g1]
    · have e : k = k / 3 * 3 + 2 := by omega
      rw [e, h2, g2]
  · rw [List.getElem?_eq_none (by omega), List.getElem?_eq_none (by rw [flatI_length]; omega)]

/-- The heap in block b: 'f' is its less, v its list's value. -/
def HeapI (w : World) (b : Nat) (f : Value) (l : List (It × Nat)) (turns : Nat) (v : Value) : Prop :=
  w.heap[b]? = some (.cells #[f, v, .int .i64 turns] tHeapI (0, 0)) ∧ w.ownsRow 0 tEntI 3 v l.length (flatI l)

theorem HeapI.of_block {w w' : World} {b : Nat} {f : Value} {l : List (It × Nat)} {turns : Nat} {v : Value} (h : HeapI w b f l turns v) (hk : ∀ k, k ∈ b :: rowOf v → w'.heap[k]? = w.heap[k]?) : HeapI w' b f l turns v :=
  ⟨by rw [hk b (by simp)]; exact h.1, ownsRow_block h.2 fun k e => hk k (List.mem_cons_of_mem _ (mem_rowOf.2 e))⟩
theorem HeapI.lt {w : World} {b : Nat} {f : Value} {l : List (It × Nat)} {turns : Nat} {v : Value} (h : HeapI w b f l turns v) : ∀ k, k ∈ b :: rowOf v → k < w.heap.size := by
  intro k hk
  rcases List.mem_cons.1 hk with rfl | hk
  · exact lt_of_heap h.1
  · exact (h.2.lt k (mem_rowOf.1 hk)).2
theorem HeapI.upd {fp : List Nat} {w w' : World} {b : Nat} {f : Value} {l : List (It × Nat)} {turns : Nat} {v : Value} (h : HeapI w b f l turns v) (hu : Upd fp w w') (hd : ∀ k ∈ b :: rowOf v, k ∉ fp) : HeapI w' b f l turns v :=
  h.of_block fun k hk => hu.block k (h.lt k hk) (hd k hk)
theorem HeapI.below {w w' : World} {b : Nat} {f : Value} {l : List (It × Nat)} {turns : Nat} {v : Value} (h : HeapI w b f l turns v) (hb : Below w.heap.size w w') : HeapI w' b f l turns v :=
  h.upd (Upd.of_below hb []) (by simp)
theorem HeapI.drew {w : World} {b : Nat} {f : Value} {l : List (It × Nat)} {turns : Nat} {v : Value} (h : HeapI w b f l turns v) : HeapI w.drew b f l turns v := h

theorem HeapI.ne {w : World} {b : Nat} {f : Value} {l : List (It × Nat)} {turns : Nat} {v : Value} (h : HeapI w b f l turns v) : b ∉ rowOf v := by
  intro hm
  rw [mem_rowOf] at hm
  rcases h.2.2 with ⟨rfl, _⟩ | ⟨g, cap, cur, rfl, _, hg, _⟩
  · simp [Value.ownBlock] at hm
  · simp only [Value.ownBlock, Option.some.injEq] at hm
    subst hm
    have := h.1.symm.trans hg
    simp only [Option.some.injEq, Obj.cells.injEq] at this
    exact absurd this.2.1 (by decide)

/-- What a walk reads of it. -/
structure HeapFacts (w : World) (b : Nat) (f v : Value) (n : Nat) (turns : Nat) : Prop where
  c0 : w.cell? ⟨b, 0, none⟩ = some f
  c1 : w.cell? ⟨b, 1, none⟩ = some v
  c2 : w.cell? ⟨b, 2, none⟩ = some (.int .i64 turns)
  f0 : w.frozen? ⟨b, 0, none⟩ = false
  f1 : w.frozen? ⟨b, 1, none⟩ = false
  f2 : w.frozen? ⟨b, 2, none⟩ = false
theorem HeapI.facts {w : World} {b : Nat} {f : Value} {l : List (It × Nat)} {turns : Nat} {v : Value} (h : HeapI w b f l turns v) : HeapFacts w b f v l.length turns := by
  have h1 := h.1
  exact ⟨by simp [World.cell?, h1], by simp [World.cell?, h1], by simp [World.cell?, h1], by simp [World.frozen?, h1], by simp [World.frozen?, h1], by simp [World.frozen?, h1]⟩
theorem HeapI.row {w : World} {b : Nat} {f : Value} {l : List (It × Nat)} {turns : Nat} {v : Value} (h : HeapI w b f l turns v) (hne : l ≠ []) :
    ∃ g cap cur, v = .slice (some ⟨g, 0, none⟩) l.length cap ∧ w.heap[g]? = some (.cells cur tEntI (0, 0)) ∧ l.length ≤ cap ∧ cap ≤ maxLen ∧ cur.size = cap * 3 ∧ cur.toList.take (l.length * 3) = flatI l := by
  rcases h.2.2 with ⟨_, h0⟩ | ⟨g, cap, cur, hv, _, h1, h2, h3, h4, h5⟩
  · exact absurd (List.length_eq_zero_iff.1 h0) hne
  · exact ⟨g, cap, cur, hv, h1, h2, h3, h4, h5⟩
theorem row_cells {w : World} {g : Nat} {cur : Array Value} {l : List (It × Nat)} {fz : Nat × Nat} (hg : w.heap[g]? = some (.cells cur tEntI fz)) (ht : cur.toList.take (l.length * 3) = flatI l) {i : Nat} (hi : i < l.length) :
    w.cell? ⟨g, i * 3, none⟩ = some (.int .i64 (l.getD i default).1.key) ∧ w.cell? ⟨g, i * 3 + 1, none⟩ = some (.int .i64 (l.getD i default).1.tag) ∧ w.cell? ⟨g, i * 3 + 2, none⟩ = some (.int .i64 (l.getD i default).2) := by
  obtain ⟨g0, g1, g2⟩ := flatI_get l i hi
  rw [← ht, List.getElem?_take_of_lt (by omega)] at g0 g1 g2
  simp only [World.cell?, hg]
  exact ⟨by simpa using g0, by simpa using g1, by simpa using g2⟩

set_option maxHeartbeats 400000 in
theorem Less_calls (x y : It) (w : World) : Calls Try.prog 12 #[x.v, y.v] w fun e w' => e = .returned (.bool (decide (x.key < y.key))) ∧ Below w.heap.size w w' := by
  go_enter Try.func12, Try.ntmps12
  (repeat' (first | (go_big_may; fail) | go_values | go_skip | go_guarded | go_step | go_upon | go_back | dsimp only))
  go_ret
  exact ⟨rfl, ((Below.refl _ _).alloc (Nat.le_refl _) _).alloc (by simp) _⟩

/-- Two entries exchanged. -/
def swapW (w : World) (g i j : Nat) (ei ej : It × Nat) : World :=
  ((((((w.setCell ⟨g, i * 3, none⟩ (.int .i64 ej.1.key)).setCell ⟨g, i * 3 + 1, none⟩ (.int .i64 ej.1.tag)).setCell ⟨g, i * 3 + 2, none⟩ (.int .i64 ej.2)).setCell ⟨g, j * 3, none⟩ (.int .i64 ei.1.key)).setCell ⟨g, j * 3 + 1, none⟩ (.int .i64 ei.1.tag)).setCell ⟨g, j * 3 + 2, none⟩ (.int .i64 ei.2)).drew

set_option maxHeartbeats 1600000 in
theorem swap_walk (w : World) (b g n cap i j : Nat) (ei ej : It × Nat) (hi : i < n) (hj : j < n) (_hn : n ≤ 9223372036854775807)
    (hl : w.cell? ⟨b, 1, none⟩ = some (.slice (some ⟨g, 0, none⟩) n cap))
    (hi0 : w.cell? ⟨g, i * 3, none⟩ = some (.int .i64 ei.1.key)) (hi1 : w.cell? ⟨g, i * 3 + 1, none⟩ = some (.int .i64 ei.1.tag)) (hi2 : w.cell? ⟨g, i * 3 + 2, none⟩ = some (.int .i64 ei.2))
    (hj0 : w.cell? ⟨g, j * 3, none⟩ = some (.int .i64 ej.1.key)) (hj1 : w.cell? ⟨g, j * 3 + 1, none⟩ = some (.int .i64 ej.1.tag)) (hj2 : w.cell? ⟨g, j * 3 + 2, none⟩ = some (.int .i64 ej.2))
    (hf : ∀ k, w.frozen? ⟨g, k, none⟩ = false) :
    Calls Try.prog 38 #[.pointer (some ⟨b, 0, none⟩), .int .i64 i, .int .i64 j] w fun e w' => e = .returned (.tuple #[]) ∧ swapW w g i j ei ej = w' := by
  have a1 : (0 : Int) ≤ i := by omega
  have a2 : (i : Int) < n := by omega
  have a3 : (0 : Int) ≤ j := by omega
  have a4 : (j : Int) < n := by omega
  rcases Nat.lt_trichotomy i j with hij | hij | hij
  · go_enter Try.func38, Try.ntmps38
    (repeat' (first | (go_big_may; fail) | go_values | go_skip | go_guarded | go_step | go_upon | go_back | dsimp only))
    go_region
    go_end0
    exact ⟨rfl, rfl⟩
  · subst hij
    rw [hi0] at hj0; rw [hi1] at hj1; rw [hi2] at hj2
    go_enter Try.func38, Try.ntmps38
    (repeat' (first | (go_big_may; fail) | go_values | go_skip | go_guarded | go_step | go_upon | go_back | dsimp only))
    go_region
    go_end0
    simp only [Option.some.injEq, Value.int.injEq, true_and] at hj0 hj1 hj2
    refine ⟨rfl, ?_⟩
    unfold swapW
    rw [hj0, hj1, hj2]
  · go_enter Try.func38, Try.ntmps38
    (repeat' (first | (go_big_may; fail) | go_values | go_skip | go_guarded | go_step | go_upon | go_back | dsimp only))
    go_region
    go_end0
    exact ⟨rfl, rfl⟩

def arr6 (cur : Array Value) (i j : Nat) (ei ej : It × Nat) : Array Value :=
  (((((cur.setIfInBounds (i * 3) (.int .i64 ej.1.key)).setIfInBounds (i * 3 + 1) (.int .i64 ej.1.tag)).setIfInBounds (i * 3 + 2) (.int .i64 ej.2)).setIfInBounds (j * 3) (.int .i64 ei.1.key)).setIfInBounds (j * 3 + 1) (.int .i64 ei.1.tag)).setIfInBounds (j * 3 + 2) (.int .i64 ei.2)
theorem arr6_size (cur : Array Value) (i j : Nat) (ei ej : It × Nat) : (arr6 cur i j ei ej).size = cur.size := by simp [arr6]
theorem swapW_row {w : World} {g : Nat} {cur : Array Value} {T : TypeId} {fz : Nat × Nat} (hg : w.heap[g]? = some (.cells cur T fz)) (i j : Nat) (ei ej : It × Nat) : (swapW w g i j ei ej).heap[g]? = some (.cells (arr6 cur i j ei ej) T fz) := by
  unfold swapW arr6
  rw [heap_drew]
  exact heap_setCell (heap_setCell (heap_setCell (heap_setCell (heap_setCell (heap_setCell hg _) _) _) _) _) _
theorem swapW_other {w : World} {g k : Nat} (hk : k ≠ g) (i j : Nat) (ei ej : It × Nat) : (swapW w g i j ei ej).heap[k]? = w.heap[k]? := by
  unfold swapW
  rw [heap_drew]
  iterate 6 rw [Below.heap_setCell _ _ _ _ hk]
theorem swapW_upd {w : World} {g : Nat} {fp : List Nat} (hg : g ∈ fp) (i j : Nat) (ei ej : It × Nat) : Upd fp w (swapW w g i j ei ej) :=
  (((((((Upd.refl _ w).setCell (p := ⟨g, i * 3, none⟩) (.inl hg) _).setCell (p := ⟨g, i * 3 + 1, none⟩) (.inl hg) _).setCell (p := ⟨g, i * 3 + 2, none⟩) (.inl hg) _).setCell (p := ⟨g, j * 3, none⟩) (.inl hg) _).setCell (p := ⟨g, j * 3 + 1, none⟩) (.inl hg) _).setCell (p := ⟨g, j * 3 + 2, none⟩) (.inl hg) _).drew

theorem arr6_take (cur : Array Value) (i j n : Nat) (l : List (It × Nat)) (hn : n = l.length) (hsz : n * 3 ≤ cur.size) (ht : cur.toList.take (n * 3) = flatI l) (hi : i < n) (hj : j < n) :
    (arr6 cur i j (l.getD i default) (l.getD j default)).toList.take (n * 3) = flatI (hp.swapL l i j) := by
  subst hn
  apply flatI_ext
  · have := arr6_size cur i j (l.getD i default) (l.getD j default)
    rw [List.length_take, hp.swapL_length, Array.length_toList (xs := arr6 cur i j (l.getD i default) (l.getD j default))]; omega
  · intro q hq
    rw [hp.swapL_length] at hq
    obtain ⟨g0, g1, g2⟩ := flatI_get l q hq
    rw [← ht, List.getElem?_take_of_lt (by omega)] at g0 g1 g2
    rw [hp.getD_swapL hi hj]
    rw [List.getElem?_take_of_lt (by omega), List.getElem?_take_of_lt (by omega), List.getElem?_take_of_lt (by omega)]
    unfold arr6
    simp only [Array.getElem?_toList, Array.getElem?_setIfInBounds, Array.size_setIfInBounds] at g0 g1 g2 ⊢
    by_cases hqj : q = j
    · rw [if_pos hqj]
      subst hqj
      refine ⟨?_, ?_, ?_⟩
      · rw [if_neg (by omega), if_neg (by omega), if_pos rfl, if_pos (by omega)]
      · rw [if_neg (by omega), if_pos rfl, if_pos (by omega)]
      · rw [if_pos rfl, if_pos (by omega)]
    · rw [if_neg hqj]
      by_cases hqi : q = i
      · rw [if_pos hqi]
        subst hqi
        refine ⟨?_, ?_, ?_⟩
        · rw [if_neg (by omega), if_neg (by omega), if_neg (by omega), if_neg (by omega), if_neg (by omega), if_pos rfl, if_pos (by omega)]
        · rw [if_neg (by omega), if_neg (by omega), if_neg (by omega), if_neg (by omega), if_pos rfl, if_pos (by omega)]
        · rw [if_neg (by omega), if_neg (by omega), if_neg (by omega), if_pos rfl, if_pos (by omega)]
      · rw [if_neg hqi]
        refine ⟨?_, ?_, ?_⟩
        · rw [if_neg (by omega), if_neg (by omega), if_neg (by omega), if_neg (by omega), if_neg (by omega), if_neg (by omega)]; exact g0
        · rw [if_neg (by omega), if_neg (by omega), if_neg (by omega), if_neg (by omega), if_neg (by omega), if_neg (by omega)]; exact g1
        · rw [if_neg (by omega), if_neg (by omega), if_neg (by omega), if_neg (by omega), if_neg (by omega), if_neg (by omega)]; exact g2

theorem swap_calls {w : World} {b : Nat} {f : Value} {l : List (It × Nat)} {turns : Nat} {v : Value} (h : HeapI w b f l turns v) {i j : Nat} (hi : i < l.length) (hj : j < l.length) :
    Calls Try.prog 38 #[.pointer (some ⟨b, 0, none⟩), .int .i64 i, .int .i64 j] w fun e w' => e = .returned (.tuple #[]) ∧ HeapI w' b f (hp.swapL l i j) turns v ∧ Upd (b :: rowOf v) w w' := by
  obtain ⟨g, cap, cur, rfl, hg, hn, hc, hs, ht⟩ := h.row (by intro e; subst e; simp at hi)
  have hfc := h.facts
  obtain ⟨i0, i1, i2⟩ := row_cells hg ht hi
  obtain ⟨j0, j1, j2⟩ := row_cells hg ht hj
  have hgb : g ≠ b := fun e => h.ne (by rw [mem_rowOf]; simp [Value.ownBlock, e])
  unfold maxLen at hc
  refine (swap_walk w b g l.length cap i j _ _ hi hj (by omega) hfc.c1 i0 i1 i2 j0 j1 j2 (fun k => by simp [World.frozen?, hg])).mono ?_
  rintro e w' ⟨rfl, rfl⟩
  have hgm : g ∈ b :: rowOf (.slice (some ⟨g, 0, none⟩) l.length cap) := by simp [rowOf, Value.ownBlock]
  refine ⟨rfl, ⟨by rw [swapW_other (fun e => hgb e.symm)]; exact h.1, ?_⟩, swapW_upd hgm _ _ _ _⟩
  refine ⟨by rw [flatI_length, hp.swapL_length], .inr ⟨g, cap, _, by rw [hp.swapL_length], Nat.zero_le _, swapW_row hg i j _ _, by rw [hp.swapL_length]; exact hn, by unfold maxLen; exact hc, by rw [arr6_size]; exact hs, ?_⟩⟩
  rw [hp.swapL_length]
  exact arr6_take cur i j l.length l rfl (by omega) ht hi hj

end Go.Proofs.Ytgahkodbjokgfaa
