/- A heap of items in memory. · heap: enter, ahead walked. · heap: rise, sink walked. -/
import Derived.Test.YtgeabmmicofanaaGreatDoorBuSpLaw03
import Derived.Test.YtgeabmmicofanaaGreatDoorBuSpLaw11
import Derived.Test.YtgeabmmicofanaaGreatDoorProg
import Derived.Lib.Hide
import Derived.Deep.RegionHeld3
import Derived.Deep.QuietTactic
import Derived.BigQuiet
import Derived.BigRegion
set_option linter.unusedSimpArgs false
set_option linter.unusedVariables false
namespace Go.Proofs.YtgeabmmicofanaaGreatDoor.cu
open Go.RowKit

/-- A cursor: its slice, and the texts that are left. -/
structure Cur where
  a : Option Addr
  n : Nat
  c : Nat
  left : List (List UInt8)
instance : Inhabited Cur := ⟨⟨none, 0, 0, []⟩⟩
abbrev Cur.v (x : Cur) : Value := .agg #[.slice x.a x.n x.c]
def Cur.key (x : Cur) : List UInt8 := x.left.headD []
/-- Its texts lie in memory. -/
def Live (w : World) (x : Cur) : Prop := ∃ g i, x.a = some ⟨g, i, none⟩ ∧ x.n = x.left.length ∧ 0 < x.n ∧ x.n ≤ x.c ∧ x.c ≤ maxLen ∧ ∀ j t, x.left[j]? = some t → w.cell? ⟨g, i + j, none⟩ = some (.string ⟨t.toArray⟩)
theorem Live.block {w w' : World} {x : Cur} (h : Live w x) (hk : ∀ a, x.a = some a → w'.heap[a.block]? = w.heap[a.block]?) : Live w' x := by
  obtain ⟨g, i, h1, h2, h3, h4, h5, h6⟩ := h
  exact ⟨g, i, h1, h2, h3, h4, h5, fun j t e => by rw [World.cell?_of_block (w := w) (a := ⟨g, i + j, none⟩) (hk ⟨g, i, none⟩ h1 :)]; exact h6 j t e⟩
theorem Live.lt {w : World} {x : Cur} (h : Live w x) : ∀ a, x.a = some a → a.block < w.heap.size := by
  obtain ⟨g, i, h1, h2, h3, _, _, h6⟩ := h
  intro a ha
  rw [h1] at ha
  cases ha
  exact World.block_lt_of_cell? w _ (h6 0 _ (List.getElem?_eq_getElem (by omega)))
theorem Live.below {w w' : World} {x : Cur} (h : Live w x) (hb : Below w.heap.size w w') : Live w' x := h.block fun a ha => hb.block _ (h.lt a ha)
/-- The items are live, in blocks that are none of K. -/
def LiveL (w : World) (K : List Nat) (l : List (Cur × Nat)) : Prop := ∀ e ∈ l, Live w e.1 ∧ ∀ a, e.1.a = some a → a.block ∉ K
theorem LiveL.upd {w w' : World} {K fp : List Nat} {l : List (Cur × Nat)} (h : LiveL w K l) (hu : Upd fp w w') (hd : ∀ e ∈ l, ∀ a, e.1.a = some a → a.block ∉ fp) : LiveL w' K l :=
  fun e he => ⟨(h e he).1.block fun a ha => hu.block _ ((h e he).1.lt a ha) (hd e he a ha), (h e he).2⟩
theorem LiveL.own {w w' : World} {K : List Nat} {l : List (Cur × Nat)} (h : LiveL w K l) (hu : Upd K w w') : LiveL w' K l := h.upd hu fun e he => (h e he).2
theorem LiveL.sub {w : World} {K : List Nat} {l l' : List (Cur × Nat)} (h : LiveL w K l) (hs : ∀ e ∈ l', e ∈ l) : LiveL w K l' := fun e he => h e (hs e he)
theorem LiveL.keep {w : World} {K K' : List Nat} {l : List (Cur × Nat)} (h : LiveL w K l) (hk : ∀ k ∈ K', k ∈ K) : LiveL w K' l := fun e he => ⟨(h e he).1, fun a ha hm => (h e he).2 a ha (hk _ hm)⟩
theorem LiveL.grow {w w' : World} {K K' : List Nat} {l : List (Cur × Nat)} (h : LiveL w K l) (hu : Upd K w w') (hg : Grow w K K') (hd : ∀ e ∈ l, ∀ a, e.1.a = some a → a.block ∉ K) : LiveL w' K' l := fun e he =>
  ⟨(h e he).1.block fun a ha => hu.block _ ((h e he).1.lt a ha) (hd e he a ha), fun a ha hm => by
    rcases hg _ hm with h9 | h9
    · exact hd e he a ha h9
    · have := (h e he).1.lt a ha; omega⟩
theorem LiveL.snoc {w : World} {K : List Nat} {l : List (Cur × Nat)} {e : Cur × Nat} (h : LiveL w K l) (he : Live w e.1) (hn : ∀ a, e.1.a = some a → a.block ∉ K) : LiveL w K (l ++ [e]) := fun x hx => by
  rcases List.mem_append.1 hx with h1 | h1
  · exact h x h1
  · simp at h1; subst h1; exact ⟨he, hn⟩
theorem Live.upd {w w' : World} {fp : List Nat} {x : Cur} (h : Live w x) (hu : Upd fp w w') (hd : ∀ a, x.a = some a → a.block ∉ fp) : Live w' x := h.block fun a ha => hu.block _ (h.lt a ha) (hd a ha)
theorem Live.drew {w : World} {x : Cur} (h : Live w x) : Live w.drew x := h
theorem mem_set {l : List (Cur × Nat)} {i : Nat} {x y : Cur × Nat} (h : y ∈ l.set i x) : y ∈ l ∨ y = x := List.mem_or_eq_of_mem_set h
/-- An entry's cells. -/
abbrev entI (e : Cur × Nat) : List Value := [.slice e.1.a e.1.n e.1.c, .int .i64 e.2]
abbrev tHeapC : TypeId := 110
abbrev tEntC : TypeId := 112

/-- A 'less' that is handed in: a Go function that answers lt. -/
structure LessI (fl : FuncId) (lt : Cur → Cur → Bool) : Prop where
  enters : ∀ args w, (callFunc fl args).run Tryz.prog w = .ok (.enter fl args) w
  calls : ∀ (x y : Cur) (w : World), Live w x → Live w y → Calls Tryz.prog fl #[x.v, y.v] w fun e w' => e = .returned (.bool (lt x y)) ∧ Below w.heap.size w w'
  ord : hp.Ord lt

def flatI (l : List (Cur × Nat)) : List Value := l.flatMap entI
theorem flatI_length (l : List (Cur × Nat)) : (flatI l).length = l.length * 2 := by
  induction l with
  | nil => rfl
  | cons e l ih => simp only [flatI, List.flatMap_cons, List.length_append, List.length_cons, List.length_nil] at ih ⊢; omega
theorem flatI_get (l : List (Cur × Nat)) (i : Nat) (hi : i < l.length) : (flatI l)[i * 2]? = some (.slice (l.getD i default).1.a (l.getD i default).1.n (l.getD i default).1.c) ∧ (flatI l)[i * 2 + 1]? = some (.int .i64 (l.getD i default).2) := by
  induction l generalizing i with
  | nil => simp at hi
  | cons e l ih =>
    cases i with
    | zero => exact ⟨rfl, rfl⟩
    | succ i =>
      have := ih i (by simpa using hi)
      have e1 : flatI (e :: l) = entI e ++ flatI l := by simp [flatI]
      rw [e1]
      have h0 : (i + 1) * 2 = 2 + i * 2 := by omega
      have h1 : (i + 1) * 2 + 1 = 2 + (i * 2 + 1) := by omega
      rw [h0, Nat.add_assoc 2]
      have h3 : ∀ k, (entI e ++ flatI l)[2 + k]? = (flatI l)[k]? := fun k => by
        rw [List.getElem?_append_right (by simp)]; simp
      simp only [h3, List.getD_cons_succ]
      exact this

/-- Two rows are one if their entries are. -/
theorem flatI_ext {xs : List Value} {l : List (Cur × Nat)} (hl : xs.length = l.length * 2)
    (h : ∀ i, i < l.length → xs[i * 2]? = some (.slice (l.getD i default).1.a (l.getD i default).1.n (l.getD i default).1.c) ∧ xs[i * 2 + 1]? = some (.int .i64 (l.getD i default).2)) : xs = flatI l := by
  apply List.ext_getElem?
  intro k
  by_cases hk : k < l.length * 2
  · have hq : k / 2 < l.length := by omega
    obtain ⟨h0, h1⟩ := h (k / 2) hq
    obtain ⟨g0, g1⟩ := flatI_get l (k / 2) hq
    have hr : k % 2 = 0 ∨ k % 2 = 1 := by omega
    rcases hr with hr | hr
    · have e : k = k / 2 * 2 := by omega
      rw [e, h0, g0]
    · have e : k = k / 2 * 2 + 1 := by omega
      rw [e, h1, g1]
  · rw [List.getElem?_eq_none (by omega), List.getElem?_eq_none (by rw [flatI_length]; omega)]

/-- The heap in block b: 'f' is its less, v its list's value. -/
def HeapI (w : World) (b : Nat) (f : Value) (l : List (Cur × Nat)) (turns : Nat) (v : Value) : Prop :=
  w.heap[b]? = some (.cells #[f, v, .int .i64 turns] tHeapC (0, 0)) ∧ w.ownsRow 0 tEntC 2 v l.length (flatI l) ∧ LiveL w (b :: rowOf v) l
theorem HeapI.base {w : World} {b : Nat} {f : Value} {l : List (Cur × Nat)} {turns : Nat} {v : Value} (h : HeapI w b f l turns v) : ∀ e ∈ l, ∀ a, e.1.a = some a → a.block ∉ b :: rowOf v := fun e he => (h.2.2 e he).2

theorem HeapI.of_block {w w' : World} {b : Nat} {f : Value} {l : List (Cur × Nat)} {turns : Nat} {v : Value} (h : HeapI w b f l turns v) (hk : ∀ k, k ∈ b :: rowOf v → w'.heap[k]? = w.heap[k]?) (hl : ∀ e ∈ l, ∀ a, e.1.a = some a → w'.heap[a.block]? = w.heap[a.block]?) : HeapI w' b f l turns v :=
  ⟨by rw [hk b (by simp)]; exact h.1, ownsRow_block h.2.1 fun k e => hk k (List.mem_cons_of_mem _ (mem_rowOf.2 e)), fun e he => ⟨(h.2.2 e he).1.block (hl e he), (h.2.2 e he).2⟩⟩
theorem HeapI.lt {w : World} {b : Nat} {f : Value} {l : List (Cur × Nat)} {turns : Nat} {v : Value} (h : HeapI w b f l turns v) : ∀ k, k ∈ b :: rowOf v → k < w.heap.size := by
  intro k hk
  rcases List.mem_cons.1 hk with rfl | hk
  · exact lt_of_heap h.1
  · exact (h.2.1.lt k (mem_rowOf.1 hk)).2
theorem HeapI.upd {fp : List Nat} {w w' : World} {b : Nat} {f : Value} {l : List (Cur × Nat)} {turns : Nat} {v : Value} (h : HeapI w b f l turns v) (hu : Upd fp w w') (hd : ∀ k ∈ b :: rowOf v, k ∉ fp) (hl : ∀ e ∈ l, ∀ a, e.1.a = some a → a.block ∉ fp) : HeapI w' b f l turns v :=
  h.of_block (fun k hk => hu.block k (h.lt k hk) (hd k hk)) fun e he a ha => hu.block _ ((h.2.2 e he).1.lt a ha) (hl e he a ha)
theorem HeapI.below {w w' : World} {b : Nat} {f : Value} {l : List (Cur × Nat)} {turns : Nat} {v : Value} (h : HeapI w b f l turns v) (hb : Below w.heap.size w w') : HeapI w' b f l turns v :=
  h.upd (Upd.of_below hb []) (by simp) (by simp)
theorem HeapI.drew {w : World} {b : Nat} {f : Value} {l : List (Cur × Nat)} {turns : Nat} {v : Value} (h : HeapI w b f l turns v) : HeapI w.drew b f l turns v := h

theorem HeapI.ne {w : World} {b : Nat} {f : Value} {l : List (Cur × Nat)} {turns : Nat} {v : Value} (h : HeapI w b f l turns v) : b ∉ rowOf v := by
  intro hm
  rw [mem_rowOf] at hm
  rcases h.2.1.2 with ⟨rfl, _⟩ | ⟨g, cap, cur, rfl, _, hg, _⟩
  · simp [Value.ownBlock] at hm
  · simp only [Value.ownBlock, Option.some.injEq] at hm
    subst hm
    have := h.1.symm.trans hg
    simp only [Option.some.injEq, Obj.cells.injEq] at this
    exact absurd this.2.1 (by decide)

/-- What a walk reads of it. -/
structure HeapFacts (w : World) (b : Nat) (f v : Value) (n : Nat) (turns : Nat) : Prop where
  c0 : w.cell? ⟨b, 0, none⟩ = some f
  c1 : w.cell? ⟨b, 1, none⟩ = some v
  c2 : w.cell? ⟨b, 2, none⟩ = some (.int .i64 turns)
  f0 : w.frozen? ⟨b, 0, none⟩ = false
  f1 : w.frozen? ⟨b, 1, none⟩ = false
  f2 : w.frozen? ⟨b, 2, none⟩ = false
theorem HeapI.facts {w : World} {b : Nat} {f : Value} {l : List (Cur × Nat)} {turns : Nat} {v : Value} (h : HeapI w b f l turns v) : HeapFacts w b f v l.length turns := by
  have h1 := h.1
  exact ⟨by simp [World.cell?, h1], by simp [World.cell?, h1], by simp [World.cell?, h1], by simp [World.frozen?, h1], by simp [World.frozen?, h1], by simp [World.frozen?, h1]⟩
theorem HeapI.row {w : World} {b : Nat} {f : Value} {l : List (Cur × Nat)} {turns : Nat} {v : Value} (h : HeapI w b f l turns v) (hne : l ≠ []) :
    ∃ g cap cur, v = .slice (some ⟨g, 0, none⟩) l.length cap ∧ w.heap[g]? = some (.cells cur tEntC (0, 0)) ∧ l.length ≤ cap ∧ cap ≤ maxLen ∧ cur.size = cap * 2 ∧ cur.toList.take (l.length * 2) = flatI l := by
  rcases h.2.1.2 with ⟨_, h0⟩ | ⟨g, cap, cur, hv, _, h1, h2, h3, h4, h5⟩
  · exact absurd (List.length_eq_zero_iff.1 h0) hne
  · exact ⟨g, cap, cur, hv, h1, h2, h3, h4, h5⟩
theorem row_cells {w : World} {g : Nat} {cur : Array Value} {l : List (Cur × Nat)} {fz : Nat × Nat} (hg : w.heap[g]? = some (.cells cur tEntC fz)) (ht : cur.toList.take (l.length * 2) = flatI l) {i : Nat} (hi : i < l.length) :
    w.cell? ⟨g, i * 2, none⟩ = some (.slice (l.getD i default).1.a (l.getD i default).1.n (l.getD i default).1.c) ∧ w.cell? ⟨g, i * 2 + 1, none⟩ = some (.int .i64 (l.getD i default).2) := by
  obtain ⟨g0, g1⟩ := flatI_get l i hi
  rw [← ht, List.getElem?_take_of_lt (by omega)] at g0 g1
  simp only [World.cell?, hg]
  exact ⟨by simpa using g0, by simpa using g1⟩

/-- Two entries exchanged. -/
def swapW (w : World) (g i j : Nat) (ei ej : Cur × Nat) : World :=
  ((((w.setCell ⟨g, i * 2, none⟩ (.slice ej.1.a ej.1.n ej.1.c)).setCell ⟨g, i * 2 + 1, none⟩ (.int .i64 ej.2)).setCell ⟨g, j * 2, none⟩ (.slice ei.1.a ei.1.n ei.1.c)).setCell ⟨g, j * 2 + 1, none⟩ (.int .i64 ei.2)).drew

set_option maxHeartbeats 1600000 in
theorem swap_walk (w : World) (b g n cap i j : Nat) (ei ej : Cur × Nat) (hi : i < n) (hj : j < n) (_hn : n ≤ 9223372036854775807)
    (hl : w.cell? ⟨b, 1, none⟩ = some (.slice (some ⟨g, 0, none⟩) n cap))
    (hi0 : w.cell? ⟨g, i * 2, none⟩ = some (.slice ei.1.a ei.1.n ei.1.c)) (hi1 : w.cell? ⟨g, i * 2 + 1, none⟩ = some (.int .i64 ei.2))
    (hj0 : w.cell? ⟨g, j * 2, none⟩ = some (.slice ej.1.a ej.1.n ej.1.c)) (hj1 : w.cell? ⟨g, j * 2 + 1, none⟩ = some (.int .i64 ej.2))
    (hf : ∀ k, w.frozen? ⟨g, k, none⟩ = false) :
    Calls Tryz.prog 65 #[.pointer (some ⟨b, 0, none⟩), .int .i64 i, .int .i64 j] w fun e w' => e = .returned (.tuple #[]) ∧ swapW w g i j ei ej = w' := by
  have a1 : (0 : Int) ≤ i := by omega
  have a2 : (i : Int) < n := by omega
  have a3 : (0 : Int) ≤ j := by omega
  have a4 : (j : Int) < n := by omega
  rcases Nat.lt_trichotomy i j with hij | hij | hij
  · go_enter Tryz.func65, Tryz.ntmps65
    (repeat' (first | (go_big_may; fail) | go_values | go_skip | go_guarded | go_step | go_upon | go_back | dsimp only))
    go_region
    go_end0
    exact ⟨rfl, rfl⟩
  · subst hij
    rw [hi0] at hj0; rw [hi1] at hj1
    go_enter Tryz.func65, Tryz.ntmps65
    (repeat' (first | (go_big_may; fail) | go_values | go_skip | go_guarded | go_step | go_upon | go_back | dsimp only))
    go_region
    go_end0
    simp only [Option.some.injEq, Value.int.injEq, Value.slice.injEq, true_and] at hj0 hj1
    refine ⟨rfl, ?_⟩
    unfold swapW
    obtain ⟨e1, e2, e3⟩ := hj0
    rw [e1, e2, e3, hj1]
  · go_enter Tryz.func65, Tryz.ntmps65
    (repeat' (first | (go_big_may; fail) | go_values | go_skip | go_guarded | go_step | go_upon | go_back | dsimp only))
    go_region
    go_end0
    exact ⟨rfl, rfl⟩

def arr6 (cur : Array Value) (i j : Nat) (ei ej : Cur × Nat) : Array Value :=
  (((cur.setIfInBounds (i * 2) (.slice ej.1.a ej.1.n ej.1.c)).setIfInBounds (i * 2 + 1) (.int .i64 ej.2)).setIfInBounds (j * 2) (.slice ei.1.a ei.1.n ei.1.c)).setIfInBounds (j * 2 + 1) (.int .i64 ei.2)
theorem arr6_size (cur : Array Value) (i j : Nat) (ei ej : Cur × Nat) : (arr6 cur i j ei ej).size = cur.size := by simp [arr6]
theorem swapW_row {w : World} {g : Nat} {cur : Array Value} {T : TypeId} {fz : Nat × Nat} (hg : w.heap[g]? = some (.cells cur T fz)) (i j : Nat) (ei ej : Cur × Nat) : (swapW w g i j ei ej).heap[g]? = some (.cells (arr6 cur i j ei ej) T fz) := by
  unfold swapW arr6
  rw [heap_drew]
  exact heap_setCell (heap_setCell (heap_setCell (heap_setCell hg _) _) _) _
theorem swapW_other {w : World} {g k : Nat} (hk : k ≠ g) (i j : Nat) (ei ej : Cur × Nat) : (swapW w g i j ei ej).heap[k]? = w.heap[k]? := by
  unfold swapW
  rw [heap_drew]
  iterate 4 rw [Below.heap_setCell _ _ _ _ hk]
theorem swapW_upd {w : World} {g : Nat} {fp : List Nat} (hg : g ∈ fp) (i j : Nat) (ei ej : Cur × Nat) : Upd fp w (swapW w g i j ei ej) :=
  (((((Upd.refl _ w).setCell (p := ⟨g, i * 2, none⟩) (.inl hg) _).setCell (p := ⟨g, i * 2 + 1, none⟩) (.inl hg) _).setCell (p := ⟨g, j * 2, none⟩) (.inl hg) _).setCell (p := ⟨g, j * 2 + 1, none⟩) (.inl hg) _).drew

theorem arr6_take (cur : Array Value) (i j n : Nat) (l : List (Cur × Nat)) (hn : n = l.length) (hsz : n * 2 ≤ cur.size) (ht : cur.toList.take (n * 2) = flatI l) (hi : i < n) (hj : j < n) :
    (arr6 cur i j (l.getD i default) (l.getD j default)).toList.take (n * 2) = flatI (hp.swapL l i j) := by
  subst hn
  apply flatI_ext
  · have := arr6_size cur i j (l.getD i default) (l.getD j default)
    rw [List.length_take, hp.swapL_length, Array.length_toList (xs := arr6 cur i j (l.getD i default) (l.getD j default))]; omega
  · intro q hq
    rw [hp.swapL_length] at hq
    obtain ⟨g0, g1⟩ := flatI_get l q hq
    rw [← ht, List.getElem?_take_of_lt (by omega)] at g0 g1
    rw [hp.getD_swapL hi hj]
    rw [List.getElem?_take_of_lt (by omega), List.getElem?_take_of_lt (by omega)]
    unfold arr6
    simp only [Array.getElem?_toList, Array.getElem?_setIfInBounds, Array.size_setIfInBounds] at g0 g1 ⊢
    by_cases hqj : q = j
    · rw [if_pos hqj]
      subst hqj
      refine ⟨?_, ?_⟩
      · rw [if_neg (by omega), if_pos rfl, if_pos (by omega)]
      · rw [if_pos rfl, if_pos (by omega)]
    · rw [if_neg hqj]
      by_cases hqi : q = i
      · rw [if_pos hqi]
        subst hqi
        refine ⟨?_, ?_⟩
        · rw [if_neg (by omega), if_neg (by omega), if_neg (by omega), if_pos rfl, if_pos (by omega)]
        · rw [if_neg (by omega), if_neg (by omega), if_pos rfl, if_pos (by omega)]
      · rw [if_neg hqi]
        refine ⟨?_, ?_⟩
        · rw [if_neg (by omega), if_neg (by omega), if_neg (by omega), if_neg (by omega)]; exact g0
        · rw [if_neg (by omega), if_neg (by omega), if_neg (by omega), if_neg (by omega)]; exact g1

theorem swap_calls {w : World} {b : Nat} {f : Value} {l : List (Cur × Nat)} {turns : Nat} {v : Value} (h : HeapI w b f l turns v) {i j : Nat} (hi : i < l.length) (hj : j < l.length) :
    Calls Tryz.prog 65 #[.pointer (some ⟨b, 0, none⟩), .int .i64 i, .int .i64 j] w fun e w' => e = .returned (.tuple #[]) ∧ HeapI w' b f (hp.swapL l i j) turns v ∧ Upd (b :: rowOf v) w w' := by
  obtain ⟨g, cap, cur, rfl, hg, hn, hc, hs, ht⟩ := h.row (by intro e; subst e; simp at hi)
  have hfc := h.facts
  obtain ⟨i0, i1⟩ := row_cells hg ht hi
  obtain ⟨j0, j1⟩ := row_cells hg ht hj
  have hgb : g ≠ b := fun e => h.ne (by rw [mem_rowOf]; simp [Value.ownBlock, e])
  unfold maxLen at hc
  refine (swap_walk w b g l.length cap i j _ _ hi hj (by omega) hfc.c1 i0 i1 j0 j1 (fun k => by simp [World.frozen?, hg])).mono ?_
  rintro e w' ⟨rfl, rfl⟩
  have hgm : g ∈ b :: rowOf (.slice (some ⟨g, 0, none⟩) l.length cap) := by simp [rowOf, Value.ownBlock]
  have hms : ∀ e ∈ hp.swapL l i j, e ∈ l := fun e he => by
    unfold hp.swapL at he
    have hgd : ∀ k, k < l.length → l.getD k default ∈ l := fun k hk => by
      rw [List.getD_eq_getElem?_getD, List.getElem?_eq_getElem hk]; exact List.getElem_mem hk
    rcases mem_set he with h1 | h1
    · rcases mem_set h1 with h2 | h2
      · exact h2
      · rw [h2]; exact hgd _ hj
    · rw [h1]; exact hgd _ hi
  refine ⟨rfl, ⟨by rw [swapW_other (fun e => hgb e.symm)]; exact h.1, ?_, (h.2.2.own (swapW_upd hgm _ _ _ _)).sub hms⟩, swapW_upd hgm _ _ _ _⟩
  refine ⟨by rw [flatI_length, hp.swapL_length], .inr ⟨g, cap, _, by rw [hp.swapL_length], Nat.zero_le _, swapW_row hg i j _ _, by rw [hp.swapL_length]; exact hn, by unfold maxLen; exact hc, by rw [arr6_size]; exact hs, ?_⟩⟩
  rw [hp.swapL_length]
  exact arr6_take cur i j l.length l rfl (by omega) ht hi hj

end Go.Proofs.YtgeabmmicofanaaGreatDoor.cu
namespace Go.Proofs.YtgeabmmicofanaaGreatDoor.cu
open Go.RowKit

set_option maxHeartbeats 800000 in
theorem enter_calls {w : World} {b : Nat} {f : Value} {l : List (Cur × Nat)} {turns : Nat} {v : Value} (h : HeapI w b f l turns v) (x : Cur) (ht : turns < 9223372036854775807) :
    Calls Tryz.prog 61 #[.pointer (some ⟨b, 0, none⟩), x.v] w fun e w' => e = .returned (.agg (entI (x, turns + 1)).toArray) ∧ HeapI w' b f l (turns + 1) v ∧ Upd [b] w w' := by
  have hfc := h.facts
  have c2 := hfc.c2
  have f2 := hfc.f2
  have hb := lt_of_heap h.1
  have H := Lib.hid h
  clear h hfc
  go_enter Tryz.func61, Tryz.ntmps61
  (repeat' (first | (go_big_may; fail) | go_values | go_skip | go_guarded | go_step | go_upon | go_back | dsimp only))
  go_region
  (repeat' (first | (go_big_may; fail) | go_values | go_skip | go_guarded | go_step | go_upon | go_back | dsimp only))
  refine bodyPost_ret (v := .agg (entI (x, turns + 1)).toArray) (by simp [results, Tryz.results61, go_sem]) rfl ⟨rfl, ⟨?_, ?_, ?_⟩, ?_⟩
  · have h1 := heap_setCell (o := 2) H.out.1 (.int .i64 ((turns : Int) + 1))
    rw [heap_drew, heap_alloc_old _ _ (by simp [World.setCell]; omega), heap_alloc_old _ _ (by simpa [World.setCell] using hb), h1]
    rfl
  · refine ownsRow_block H.out.2.1 fun k hk => ?_
    have hkb : k ≠ b := fun e => H.out.ne (by rw [← e, mem_rowOf]; exact hk)
    have hks : k < w.heap.size := (H.out.2.1.lt k hk).2
    rw [heap_drew, heap_alloc_old _ _ (by simp [World.setCell]; omega), heap_alloc_old _ _ (by simpa [World.setCell] using hks), Below.heap_setCell _ _ _ _ hkb]
  · refine (H.out.2.2.upd (fp := [b]) ?_ fun e he a ha hm => H.out.base e he a ha (by simp at hm; simp [hm]))
    exact ((((Upd.refl _ _).setCell (p := ⟨b, 2, none⟩) (.inl (by simp)) _).alloc _).alloc _).drew
  · exact ((((Upd.refl _ _).setCell (p := ⟨b, 2, none⟩) (.inl (by simp)) _).alloc _).alloc _).drew

/-- What 'ahead' reads behind its two copies: its less, the copies at p and q. -/
theorem ahS_below {w W W' : World} {b p q : Nat} {f a0 a1 b0 b1 : Value}
    (h : W.cell? ⟨b, 0, none⟩ = some f ∧ W.cell? ⟨p, 0, none⟩ = some a0 ∧ W.cell? ⟨p, 1, none⟩ = some a1 ∧ W.cell? ⟨q, 0, none⟩ = some b0 ∧ W.cell? ⟨q, 1, none⟩ = some b1 ∧ Below w.heap.size w W)
    (hb : Below W.heap.size W W') :
    W'.cell? ⟨b, 0, none⟩ = some f ∧ W'.cell? ⟨p, 0, none⟩ = some a0 ∧ W'.cell? ⟨p, 1, none⟩ = some a1 ∧ W'.cell? ⟨q, 0, none⟩ = some b0 ∧ W'.cell? ⟨q, 1, none⟩ = some b1 ∧ Below w.heap.size w W' := by
  obtain ⟨h0, h1, h2, h3, h4, h5⟩ := h
  have key : ∀ {a : Addr} {v : Value}, W.cell? a = some v → W'.cell? a = some v := fun {a v} e => by
    rw [hb.cell (World.block_lt_of_cell? W a e)]; exact e
  exact ⟨key h0, key h1, key h2, key h3, key h4, h5.trans (hb.mono h5.size)⟩

theorem ahS_drew {w W : World} {b p q : Nat} {f a0 a1 b0 b1 : Value}
    (h : W.cell? ⟨b, 0, none⟩ = some f ∧ W.cell? ⟨p, 0, none⟩ = some a0 ∧ W.cell? ⟨p, 1, none⟩ = some a1 ∧ W.cell? ⟨q, 0, none⟩ = some b0 ∧ W.cell? ⟨q, 1, none⟩ = some b1 ∧ Below w.heap.size w W) :
    W.drew.cell? ⟨b, 0, none⟩ = some f ∧ W.drew.cell? ⟨p, 0, none⟩ = some a0 ∧ W.drew.cell? ⟨p, 1, none⟩ = some a1 ∧ W.drew.cell? ⟨q, 0, none⟩ = some b0 ∧ W.drew.cell? ⟨q, 1, none⟩ = some b1 ∧ Below w.heap.size w W.drew :=
  ⟨h.1, h.2.1, h.2.2.1, h.2.2.2.1, h.2.2.2.2.1, h.2.2.2.2.2.drew⟩
theorem ahS_start {w : World} {b : Nat} {f a0 a1 b0 b1 : Value} (hb : b < w.heap.size) (h : w.cell? ⟨b, 0, none⟩ = some f) (T : TypeId) :
    let W := ((w.alloc (.cells #[a0, a1] T)).alloc (.cells #[b0, b1] T)).drew
    W.cell? ⟨b, 0, none⟩ = some f ∧ W.cell? ⟨w.heap.size, 0, none⟩ = some a0 ∧ W.cell? ⟨w.heap.size, 1, none⟩ = some a1 ∧ W.cell? ⟨w.heap.size + 1, 0, none⟩ = some b0 ∧ W.cell? ⟨w.heap.size + 1, 1, none⟩ = some b1 ∧ Below w.heap.size w W := by
  intro W
  have hB : Below w.heap.size w W := (((Below.refl _ w).alloc (Nat.le_refl _) _).alloc (by simp) _).drew
  have hp : W.heap[w.heap.size]? = some (.cells #[a0, a1] T) := by
    show ((w.heap.push _).push _)[w.heap.size]? = _
    simp only [Array.getElem?_push, Array.size_push]
    rw [if_neg (by omega), if_pos trivial]
  have hq : W.heap[w.heap.size + 1]? = some (.cells #[b0, b1] T) := by
    show ((w.heap.push _).push _)[w.heap.size + 1]? = _
    simp only [Array.getElem?_push, Array.size_push]
    rw [if_pos trivial]
  refine ⟨by rw [hB.cell (p := ⟨b, 0, none⟩) hb]; exact h, ?_, ?_, ?_, ?_, hB⟩ <;> simp [World.cell?, hp, hq]

theorem ahS_turn {w W : World} {b p q : Nat} {f a0 a1 b0 b1 : Value}
    (h : W.cell? ⟨b, 0, none⟩ = some f ∧ W.cell? ⟨p, 0, none⟩ = some a0 ∧ W.cell? ⟨p, 1, none⟩ = some a1 ∧ W.cell? ⟨q, 0, none⟩ = some b0 ∧ W.cell? ⟨q, 1, none⟩ = some b1 ∧ Below w.heap.size w W) :
    W.cell? ⟨b, 0, none⟩ = some f ∧ W.cell? ⟨q, 0, none⟩ = some b0 ∧ W.cell? ⟨q, 1, none⟩ = some b1 ∧ W.cell? ⟨p, 0, none⟩ = some a0 ∧ W.cell? ⟨p, 1, none⟩ = some a1 ∧ Below w.heap.size w W :=
  ⟨h.1, h.2.2.2.1, h.2.2.2.2.1, h.2.1, h.2.2.1, h.2.2.2.2.2⟩
theorem ahS_bel {w W : World} {b p q : Nat} {f a0 a1 b0 b1 : Value}
    (h : W.cell? ⟨b, 0, none⟩ = some f ∧ W.cell? ⟨p, 0, none⟩ = some a0 ∧ W.cell? ⟨p, 1, none⟩ = some a1 ∧ W.cell? ⟨q, 0, none⟩ = some b0 ∧ W.cell? ⟨q, 1, none⟩ = some b1 ∧ Below w.heap.size w W) :
    Below w.heap.size w W := h.2.2.2.2.2
theorem hliveD {w : World} {b : Nat} {f : Value} {l : List (Cur × Nat)} {turns : Nat} {v : Value} (h : HeapI w b f l turns v) {i : Nat} (hi : i < l.length) : Live w (l.getD i default).1 := by
  refine (h.2.2 _ ?_).1
  rw [List.getD_eq_getElem?_getD, List.getElem?_eq_getElem hi]
  exact List.getElem_mem hi
theorem ahead_1 {lt : Cur → Cur → Bool} {x y : Cur × Nat} (h : lt x.1 y.1 = true) : hp.ahead lt x y = true := by unfold hp.ahead; rw [if_pos h]
theorem ahead_2 {lt : Cur → Cur → Bool} {x y : Cur × Nat} (h : lt x.1 y.1 = false) (h2 : lt y.1 x.1 = true) : hp.ahead lt x y = false := by unfold hp.ahead; rw [if_neg (by simp [h]), if_pos h2]
theorem ahead_3 {lt : Cur → Cur → Bool} {x y : Cur × Nat} (h : lt x.1 y.1 = false) (h2 : lt y.1 x.1 = false) : hp.ahead lt x y = decide (x.2 < y.2) := by
  unfold hp.ahead; rw [if_neg (by simp [h]), if_neg (by simp [h2])]

set_option maxHeartbeats 3200000 in
theorem ahead_calls {w : World} {b : Nat} {fl : FuncId} {lt : Cur → Cur → Bool} (hL : LessI fl lt) {l : List (Cur × Nat)} {turns : Nat} {v : Value} (h : HeapI w b (.func (.func fl) #[] #[]) l turns v) {i j : Nat} (hi : i < l.length) (hj : j < l.length) :
    Calls Tryz.prog 88 #[.pointer (some ⟨b, 0, none⟩), .int .i64 i, .int .i64 j] w fun e w' => e = .returned (.bool (hp.ahead lt (l.getD i default) (l.getD j default))) ∧ Below w.heap.size w w' := by
  obtain ⟨g, cap, cur, rfl, hg, hn, hc, hs, ht⟩ := h.row (by intro e; subst e; simp at hi)
  have hfc := h.facts
  obtain ⟨i0, i1⟩ := row_cells hg ht hi
  obtain ⟨j0, j1⟩ := row_cells hg ht hj
  unfold maxLen at hc
  have c0 := hfc.c0
  have c1 := hfc.c1
  have a1 : (0 : Int) ≤ i := by omega
  have a2 : (i : Int) < l.length := by omega
  have a3 : (0 : Int) ≤ j := by omega
  have a4 : (j : Int) < l.length := by omega
  have hli := hliveD h hi
  have hlj := hliveD h hj
  generalize l.getD i default = ei at *
  generalize l.getD j default = ej at *
  have HL1 := Lib.hid (fun (W : World) (hB : Below w.heap.size w W) => hL.calls ei.1 ej.1 W (hli.below hB) (hlj.below hB))
  have HL2 := Lib.hid (fun (W : World) (hB : Below w.heap.size w W) => hL.calls ej.1 ei.1 W (hlj.below hB) (hli.below hB))
  have henter := hL.enters
  have hbs := lt_of_heap h.1
  have hgs := lt_of_heap hg
  have hst1 := Lib.hid (@ahS_start w b _ (.slice ei.1.a ei.1.n ei.1.c) (.int .i64 ei.2) (.slice ej.1.a ej.1.n ej.1.c) (.int .i64 ej.2) hbs c0 tEntC)
  have hst2 := Lib.hid (@ahS_start w b _ (.slice ej.1.a ej.1.n ej.1.c) (.int .i64 ej.2) (.slice ei.1.a ei.1.n ei.1.c) (.int .i64 ei.2) hbs c0 tEntC)
  clear h hfc hg ht hs hli hlj
  obtain ⟨r, hr⟩ : ∃ r, hp.ahead lt ei ej = r := ⟨_, rfl⟩
  rw [hr]
  have HR := Lib.hid hr
  clear hr
  go_enter Tryz.func88, Tryz.ntmps88
  (repeat' (first | (go_big_may; fail) | go_values | go_skip | go_guarded | go_step | go_upon | go_back | dsimp only))
  go_region
  · (repeat' (first | (go_big_may; fail) | go_values | go_skip | go_guarded | go_step | go_upon | go_back | dsimp only))
    have hS := hst1.out
    dsimp only at hS
    clear hst1 hst2
    generalize ((w.alloc (.cells #[.slice ei.1.a ei.1.n ei.1.c, .int .i64 ei.2] tEntC)).alloc (.cells #[.slice ej.1.a ej.1.n ej.1.c, .int .i64 ej.2] tEntC)).drew = W1 at hS ⊢
    go_region_held3 ((fun W : World => W.cell? ⟨b, 0, none⟩ = some (.func (.func fl) #[] #[]) ∧ W.cell? ⟨w.heap.size, 0, none⟩ = some (.slice ei.1.a ei.1.n ei.1.c) ∧ W.cell? ⟨w.heap.size, 1, none⟩ = some (.int .i64 ei.2) ∧ W.cell? ⟨w.heap.size + 1, 0, none⟩ = some (.slice ej.1.a ej.1.n ej.1.c) ∧ W.cell? ⟨w.heap.size + 1, 1, none⟩ = some (.int .i64 ej.2) ∧ Below w.heap.size w W)) (first | assumption | exact ahS_drew (by assumption) | exact ahS_below (by assumption) hb5) (((with_reducible (show Calls _ fl _ _ _)); refine (HL1.out _ (by first | assumption | exact ahS_bel (by assumption))).mono ?_; rintro e w5 ⟨rfl, hb5⟩))
    cases h1 : lt ei.1 ej.1
    · (repeat' (first | (go_big_may; fail) | go_values | go_skip | go_guarded | go_step | go_upon | go_back | dsimp only))
      go_region_held3 ((fun W : World => W.cell? ⟨b, 0, none⟩ = some (.func (.func fl) #[] #[]) ∧ W.cell? ⟨w.heap.size, 0, none⟩ = some (.slice ei.1.a ei.1.n ei.1.c) ∧ W.cell? ⟨w.heap.size, 1, none⟩ = some (.int .i64 ei.2) ∧ W.cell? ⟨w.heap.size + 1, 0, none⟩ = some (.slice ej.1.a ej.1.n ej.1.c) ∧ W.cell? ⟨w.heap.size + 1, 1, none⟩ = some (.int .i64 ej.2) ∧ Below w.heap.size w W)) (first | assumption | exact ahS_drew (by assumption) | exact ahS_below (by assumption) hb5) (((with_reducible (show Calls _ fl _ _ _)); refine (HL2.out _ (by first | assumption | exact ahS_bel (by assumption))).mono ?_; rintro e w5 ⟨rfl, hb5⟩))
      cases h2 : lt ej.1 ei.1
      · (repeat' (first | (go_big_may; fail) | go_values | go_skip | go_guarded | go_step | go_upon | go_back | dsimp only))
        go_ret
        exact ⟨by rw [← HR.out, ahead_3 h1 h2]; rfl, ahS_bel (by assumption)⟩
      · (repeat' (first | (go_big_may; fail) | go_values | go_skip | go_guarded | go_step | go_upon | go_back | dsimp only))
        go_ret
        exact ⟨by rw [← HR.out, ahead_2 h1 h2]; rfl, ahS_bel (by assumption)⟩
    · (repeat' (first | (go_big_may; fail) | go_values | go_skip | go_guarded | go_step | go_upon | go_back | dsimp only))
      go_ret
      exact ⟨by rw [← HR.out, ahead_1 h1]; rfl, ahS_bel (by assumption)⟩
  · (repeat' (first | (go_big_may; fail) | go_values | go_skip | go_guarded | go_step | go_upon | go_back | dsimp only))
    have hS := ahS_turn hst2.out
    clear hst1 hst2
    generalize ((w.alloc (.cells #[.slice ej.1.a ej.1.n ej.1.c, .int .i64 ej.2] tEntC)).alloc (.cells #[.slice ei.1.a ei.1.n ei.1.c, .int .i64 ei.2] tEntC)).drew = W1 at hS ⊢
    go_region_held3 ((fun W : World => W.cell? ⟨b, 0, none⟩ = some (.func (.func fl) #[] #[]) ∧ W.cell? ⟨w.heap.size + 1, 0, none⟩ = some (.slice ei.1.a ei.1.n ei.1.c) ∧ W.cell? ⟨w.heap.size + 1, 1, none⟩ = some (.int .i64 ei.2) ∧ W.cell? ⟨w.heap.size, 0, none⟩ = some (.slice ej.1.a ej.1.n ej.1.c) ∧ W.cell? ⟨w.heap.size, 1, none⟩ = some (.int .i64 ej.2) ∧ Below w.heap.size w W)) (first | assumption | exact ahS_drew (by assumption) | exact ahS_below (by assumption) hb5) (((with_reducible (show Calls _ fl _ _ _)); refine (HL1.out _ (by first | assumption | exact ahS_bel (by assumption))).mono ?_; rintro e w5 ⟨rfl, hb5⟩))
    cases h1 : lt ei.1 ej.1
    · (repeat' (first | (go_big_may; fail) | go_values | go_skip | go_guarded | go_step | go_upon | go_back | dsimp only))
      go_region_held3 ((fun W : World => W.cell? ⟨b, 0, none⟩ = some (.func (.func fl) #[] #[]) ∧ W.cell? ⟨w.heap.size + 1, 0, none⟩ = some (.slice ei.1.a ei.1.n ei.1.c) ∧ W.cell? ⟨w.heap.size + 1, 1, none⟩ = some (.int .i64 ei.2) ∧ W.cell? ⟨w.heap.size, 0, none⟩ = some (.slice ej.1.a ej.1.n ej.1.c) ∧ W.cell? ⟨w.heap.size, 1, none⟩ = some (.int .i64 ej.2) ∧ Below w.heap.size w W)) (first | assumption | exact ahS_drew (by assumption) | exact ahS_below (by assumption) hb5) (((with_reducible (show Calls _ fl _ _ _)); refine (HL2.out _ (by first | assumption | exact ahS_bel (by assumption))).mono ?_; rintro e w5 ⟨rfl, hb5⟩))
      cases h2 : lt ej.1 ei.1
      · (repeat' (first | (go_big_may; fail) | go_values | go_skip | go_guarded | go_step | go_upon | go_back | dsimp only))
        go_ret
        exact ⟨by rw [← HR.out, ahead_3 h1 h2]; rfl, ahS_bel (by assumption)⟩
      · (repeat' (first | (go_big_may; fail) | go_values | go_skip | go_guarded | go_step | go_upon | go_back | dsimp only))
        go_ret
        exact ⟨by rw [← HR.out, ahead_2 h1 h2]; rfl, ahS_bel (by assumption)⟩
    · (repeat' (first | (go_big_may; fail) | go_values | go_skip | go_guarded | go_step | go_upon | go_back | dsimp only))
      go_ret
      exact ⟨by rw [← HR.out, ahead_1 h1]; rfl, ahS_bel (by assumption)⟩

end Go.Proofs.YtgeabmmicofanaaGreatDoor.cu
namespace Go.Proofs.YtgeabmmicofanaaGreatDoor.cu
open Go.RowKit

theorem ahead_at {w : World} {b : Nat} {fl : FuncId} {lt : Cur → Cur → Bool} (hL : LessI fl lt) {l : List (Cur × Nat)} {turns : Nat} {v : Value} (h : HeapI w b (.func (.func fl) #[] #[]) l turns v) {i j : Nat} (hi : i < l.length) (hj : j < l.length) (zi zj : Int) (ei : zi = i) (ej : zj = j) :
    Calls Tryz.prog 88 #[.pointer (some ⟨b, 0, none⟩), .int .i64 zi, .int .i64 zj] w fun e w' => e = .returned (.bool (hp.ahead lt (l.getD i default) (l.getD j default))) ∧ Below w.heap.size w w' := by
  subst ei; subst ej; exact ahead_calls hL h hi hj
theorem swap_at {w : World} {b : Nat} {f : Value} {l : List (Cur × Nat)} {turns : Nat} {v : Value} (h : HeapI w b f l turns v) {i j : Nat} (hi : i < l.length) (hj : j < l.length) (zi zj : Int) (ei : zi = i) (ej : zj = j) :
    Calls Tryz.prog 65 #[.pointer (some ⟨b, 0, none⟩), .int .i64 zi, .int .i64 zj] w fun e w' => e = .returned (.tuple #[]) ∧ HeapI w' b f (hp.swapL l i j) turns v ∧ Upd (b :: rowOf v) w w' := by
  subst ei; subst ej; exact swap_calls h hi hj

/-- A heap on its way: what is still to do comes to 'goal'. -/
def RiseAt (w : World) (b : Nat) (f : Value) (R : Cur × Nat → Cur × Nat → Bool) (turns : Nat) (v : Value) (goal : List (Cur × Nat)) (i : Nat) (wr : World) : Prop :=
  ∃ l, HeapI wr b f l turns v ∧ i < l.length ∧ l.length = goal.length ∧ hp.riseL R l i = goal ∧ Upd (b :: rowOf v) w wr

set_option maxHeartbeats 1600000 in
theorem rise_calls {w : World} {b : Nat} {fl : FuncId} {lt : Cur → Cur → Bool} (hL : LessI fl lt) {l : List (Cur × Nat)} {turns : Nat} {v : Value} (h : HeapI w b (.func (.func fl) #[] #[]) l turns v) {i : Nat} (hi : i < l.length) (hn : l.length ≤ 4611686018427387904) :
    Calls Tryz.prog 62 #[.pointer (some ⟨b, 0, none⟩), .int .i64 i] w fun e w' => e = .returned (.tuple #[]) ∧ HeapI w' b (.func (.func fl) #[] #[]) (hp.riseL (hp.ahead lt) l i) turns v ∧ Upd (b :: rowOf v) w w' := by
  have h0 : RiseAt w b (.func (.func fl) #[] #[]) (hp.ahead lt) turns v (hp.riseL (hp.ahead lt) l i) i w := ⟨l, h, hi, by rw [hp.riseL_length], rfl, Upd.refl _ _⟩
  have hgl : (hp.riseL (hp.ahead lt) l i).length ≤ 4611686018427387904 := by rw [hp.riseL_length]; exact hn
  have hi' : i ≤ 4611686018427387904 := by omega
  generalize hp.riseL (hp.ahead lt) l i = goal at *
  clear h hi
  go_enter Tryz.func62, Tryz.ntmps62
  (repeat' (first | (go_big_may; fail) | go_values | go_skip | go_guarded | go_step | go_upon | go_back | dsimp only))
  go_loopw [1] (fun x wr => ∃ k : Nat, x = .int .i64 k ∧ k ≤ 4611686018427387904 ∧ RiseAt w b (.func (.func fl) #[] #[]) (hp.ahead lt) turns v goal k wr) (fun x _ => (intOf x).toNat)
  case atStart => exact ⟨i, rfl, hi', h0⟩
  case round =>
    obtain ⟨k, rfl, hk, lr, hh, hkl, hlen, hgo, hup⟩ := hrel
    clear h0
    have HG := Lib.hid hgo
    have HN := Lib.hid hlen
    clear hgo hlen
    by_cases hk0 : 0 < k
    · have hpl : (k - 1) / 2 < lr.length := by omega
      have hcp : (((k : Int) - 1) / 2) = (((k - 1) / 2 : Nat) : Int) := by omega
      have HCP := Lib.hid hcp
      clear hcp
      cases hr : hp.ahead lt (lr.getD k default) (lr.getD ((k - 1) / 2) default)
      · (repeat' (first | (go_big_may; (go_at_call 88; go_must (refine (ahead_at hL hh hkl hpl _ _ rfl HCP.out).mono ?_); rintro e w1 ⟨rfl, hb1⟩; rw [hr])) | go_values | go_skip | go_guarded | go_step | go_upon | go_back | dsimp only))
        go_end0
        have hstop : hp.riseL (hp.ahead lt) lr k = lr := hp.riseL_stop (fun h => by rw [hr] at h; exact absurd h.2 (by simp))
        have := HG.out
        rw [hstop] at this
        subst this
        exact ⟨rfl, hh.below hb1, hup.trans (Upd.of_below hb1 []) (Grow.nil _ _)⟩
      · (repeat' (first | (go_big_may; (go_at_call 88; go_must (refine (ahead_at hL hh hkl hpl _ _ rfl HCP.out).mono ?_); rintro e w1 ⟨rfl, hb1⟩; rw [hr])) | go_values | go_skip | go_guarded | go_step | go_upon | go_back | dsimp only))
        have hh1 := hh.below hb1
        refine (swap_at hh1 hkl hpl _ _ rfl HCP.out).mono ?_
        rintro e w2 ⟨rfl, hh2, hu2⟩
        (repeat' (first | (go_big_may; fail) | go_values | go_skip | go_guarded | go_step | go_upon | go_back | dsimp only))
        go_roundw
        case rel =>
          refine ⟨(k - 1) / 2, by rw [HCP.out], by omega, _, hh2, by rw [hp.swapL_length]; exact hpl, by rw [hp.swapL_length]; exact HN.out, ?_, ?_⟩
          · rw [← hp.riseL_go hk0 hr]; exact HG.out
          · exact (hup.trans (Upd.of_below hb1 []) (Grow.nil _ _)).trans hu2 (Grow.refl _ _)
        case measure => simp [intOf] <;> omega
    · have hk00 : k = 0 := by omega
      subst hk00
      (repeat' (first | (go_big_may; fail) | go_values | go_skip | go_guarded | go_step | go_upon | go_back | dsimp only))
      go_end0
      have hstop : hp.riseL (hp.ahead lt) lr 0 = lr := hp.riseL_stop (fun h => absurd h.1 (by simp))
      have := HG.out
      rw [hstop] at this
      subst this
      exact ⟨rfl, hh, hup⟩

/-- The least so far. -/
def LeAt (R : Cur × Nat → Cur × Nat → Bool) (l : List (Cur × Nat)) (i k le : Nat) : Prop :=
  (k = 2 * i + 1 ∧ le = i) ∨ (k = 2 * i + 2 ∧ 2 * i + 1 < l.length ∧ le = (if 2 * i + 1 < l.length ∧ R (l.getD (2 * i + 1) default) (l.getD i default) = true then 2 * i + 1 else i)) ∨ (k = 2 * i + 3 ∧ 2 * i + 2 < l.length ∧ le = hp.leastL R l i)
theorem LeAt.lt {R : Cur × Nat → Cur × Nat → Bool} {l : List (Cur × Nat)} {i k le : Nat} (h : LeAt R l i k le) (hi : i < l.length ∨ l = []) (hk : k < l.length) : le < l.length ∧ i < l.length := by
  have hi : i < l.length := hi.resolve_right (fun e => by subst e; simp at hk)
  refine ⟨?_, hi⟩
  rcases h with ⟨_, h⟩ | ⟨_, h1, h⟩ | ⟨h1, h2, h⟩
  · omega
  · subst h; split <;> omega
  · have := hp.leastL_bound R l i; omega
theorem LeAt.step {R : Cur × Nat → Cur × Nat → Bool} {l : List (Cur × Nat)} {i k le : Nat} (h : LeAt R l i k le) (hk : k < l.length) (hk2 : k ≤ 2 * i + 2) : LeAt R l i (k + 1) (if R (l.getD k default) (l.getD le default) = true then k else le) := by
  rcases h with ⟨h1, h⟩ | ⟨h1, h2, h⟩ | ⟨h1, _⟩
  · subst h1; subst h
    refine .inr (.inl ⟨rfl, hk, ?_⟩)
    by_cases hr : R (l.getD (2 * le + 1) default) (l.getD le default) = true
    · rw [if_pos hr, if_pos ⟨hk, hr⟩]
    · rw [if_neg hr, if_neg (fun h => hr h.2)]
  · subst h1
    refine .inr (.inr ⟨rfl, hk, ?_⟩)
    unfold hp.leastL
    dsimp only
    rw [← h]
    by_cases hr : R (l.getD (2 * i + 2) default) (l.getD le default) = true
    · rw [if_pos hr, if_pos ⟨hk, hr⟩]
    · rw [if_neg hr, if_neg (fun h => hr h.2)]
  · omega
theorem LeAt.done {R : Cur × Nat → Cur × Nat → Bool} {l : List (Cur × Nat)} {i k le : Nat} (h : LeAt R l i k le) (hk : ¬ (k ≤ 2 * i + 2 ∧ k < l.length)) : le = hp.leastL R l i := by
  unfold hp.leastL
  rcases h with ⟨h1, h⟩ | ⟨h1, h2, h⟩ | ⟨h1, h2, h⟩
  · dsimp only
    rw [if_neg (show ¬ (2 * i + 1 < l.length ∧ _) from fun h => by omega), if_neg (show ¬ (2 * i + 2 < l.length ∧ _) from fun h => by omega)]; exact h
  · dsimp only
    rw [← h, if_neg (show ¬ (2 * i + 2 < l.length ∧ _) from fun h => by omega)]
  · exact h

def SinkAt (w : World) (b : Nat) (f : Value) (R : Cur × Nat → Cur × Nat → Bool) (turns : Nat) (v : Value) (goal : List (Cur × Nat)) (i : Nat) (wr : World) : Prop :=
  ∃ l, HeapI wr b f l turns v ∧ (i < l.length ∨ l = []) ∧ l.length = goal.length ∧ hp.sinkL R l i = goal ∧ Upd (b :: rowOf v) w wr

set_option maxRecDepth 100000 in
set_option maxHeartbeats 3200000 in
theorem sink_calls {w : World} {b : Nat} {fl : FuncId} {lt : Cur → Cur → Bool} (hL : LessI fl lt) {l : List (Cur × Nat)} {turns : Nat} {v : Value} (h : HeapI w b (.func (.func fl) #[] #[]) l turns v) {i : Nat} (hi : i < l.length ∨ l = []) (hi0 : i ≤ 4611686018427387) (hn : l.length ≤ 4611686018427387) :
    Calls Tryz.prog 64 #[.pointer (some ⟨b, 0, none⟩), .int .i64 i] w fun e w' => e = .returned (.tuple #[]) ∧ HeapI w' b (.func (.func fl) #[] #[]) (hp.sinkL (hp.ahead lt) l i) turns v ∧ Upd (b :: rowOf v) w w' := by
  have h0 : SinkAt w b (.func (.func fl) #[] #[]) (hp.ahead lt) turns v (hp.sinkL (hp.ahead lt) l i) i w := ⟨l, h, hi, by rw [hp.sinkL_length], rfl, Upd.refl _ _⟩
  have hgl : (hp.sinkL (hp.ahead lt) l i).length ≤ 4611686018427387 := by rw [hp.sinkL_length]; exact hn
  generalize hp.sinkL (hp.ahead lt) l i = goal at *
  clear h hi hn
  go_enter Tryz.func64, Tryz.ntmps64
  (repeat' (first | (go_big_may; fail) | go_values | go_skip | go_guarded | go_step | go_upon | go_back | dsimp only))
  go_loopw [1] (fun x wr => ∃ k : Nat, x = .int .i64 k ∧ k ≤ 4611686018427387 ∧ SinkAt w b (.func (.func fl) #[] #[]) (hp.ahead lt) turns v goal k wr) (fun x _ => goal.length - (intOf x).toNat)
  case atStart => exact ⟨i, rfl, hi0, h0⟩
  case round =>
    obtain ⟨k, rfl, hk, lr, hh, hkl, hlen, hgo, hup⟩ := hrel
    clear h0
    have HG := Lib.hid hgo
    have hlen' : lr.length ≤ 4611686018427387 := by omega
    have HN := Lib.hid hlen
    clear hgo hlen
    obtain ⟨wo, rfl⟩ : ∃ wo : World, wo = wr := ⟨_, rfl⟩
    (repeat' (first | (go_big_may; fail) | go_values | go_skip | go_guarded | go_step | go_upon | go_back | dsimp only))
    go_loopw [4, 5] (fun x y wi => ∃ le q : Nat, x = .int .i64 le ∧ y = .int .i64 q ∧ q ≤ 2 * k + 3 ∧ le ≤ 2 * k + 2 ∧ LeAt (hp.ahead lt) lr k q le ∧ Below wo.heap.size wo wi) (fun _ y _ => 2 * k + 4 - (intOf y).toNat)
    case atStart => exact ⟨k, 2 * k + 1, rfl, by go_num, by omega, by omega, .inl ⟨rfl, rfl⟩, Below.refl _ _⟩
    case round =>
      obtain ⟨le, q, rfl, rfl, hq, hle, hat, hbi⟩ := hrel
      have hhi := hh.below hbi
      have hfc := hhi.facts
      have c1 := hfc.c1
      obtain ⟨ao, cap, hv, hcap, hcap2⟩ := (RdRow.of_own hhi.2.1).shape
      unfold maxLen at hcap2
      rw [hv] at c1
      clear hfc hv
      by_cases hq2 : q ≤ 2 * k + 2
      · by_cases hql : q < lr.length
        · have hlt := hat.lt hkl hql
          have hst := hat.step hql hq2
          clear hat
          cases hr : hp.ahead lt (lr.getD q default) (lr.getD le default)
          · rw [hr] at hst
            have HS := Lib.hid hst
            clear hst
            (repeat' (first | (go_big_may; (go_at_call 88; go_must (refine (ahead_at hL hhi hql hlt.1 _ _ rfl rfl).mono ?_); rintro e w1 ⟨rfl, hb1⟩; rw [hr])) | go_values | go_skip | go_guarded | go_step | go_upon | go_back | dsimp only))
            go_roundw
            case rel => exact ⟨le, q + 1, rfl, by go_num, by omega, hle, HS.out, hbi.trans (hb1.mono hbi.size)⟩
            case measure => simp [intOf] <;> omega
          · rw [hr] at hst
            have HS := Lib.hid hst
            clear hst
            (repeat' (first | (go_big_may; (go_at_call 88; go_must (refine (ahead_at hL hhi hql hlt.1 _ _ rfl rfl).mono ?_); rintro e w1 ⟨rfl, hb1⟩; rw [hr])) | go_values | go_skip | go_guarded | go_step | go_upon | go_back | dsimp only))
            go_roundw
            case rel => exact ⟨q, q + 1, rfl, by go_num, by omega, hq2, HS.out, hbi.trans (hb1.mono hbi.size)⟩
            case measure => simp [intOf] <;> omega
        · have hd := hat.done (fun h => hql h.2)
          have hqi : ¬ ((q : Int) < lr.length) := by omega
          have hbd := hp.leastL_bound (hp.ahead lt) lr k
          have hup1 := hup.trans (Upd.of_below hbi []) (Grow.nil _ _)
          by_cases hc : le = k
          · have hstop : hp.sinkL (hp.ahead lt) lr k = lr := hp.sinkL_stop (by rw [← hd, hc])
            have hgl2 := HG.out
            rw [hstop] at hgl2
            have heq : ((le : Int) == k) = true := by simp [hc]
            have HGL := Lib.hid hgl2
            clear hd hc hat hstop hgl2 hbd
            (repeat' (first | (go_big_may; fail) | go_values | go_skip | go_guarded | go_step | go_upon | go_back | dsimp only))
            refine bodyPost_ret (results_none rfl _ _ _) rfl ?_
            exact ⟨rfl, by rw [← HGL.out]; exact hhi, hup1⟩
          · have hne : hp.leastL (hp.ahead lt) lr k ≠ k := by rw [← hd]; exact hc
            have hgo2 := HG.out
            rw [hp.sinkL_go hne, ← hd] at hgo2
            rw [← hd] at hbd
            have hb2 := hbd.resolve_left hc
            have heq : ((le : Int) == k) = false := by rw [beq_eq_false_iff_ne]; omega
            have HGO := Lib.hid hgo2
            have hk' : k < lr.length := by omega
            clear hd hat hne hgo2 hbd
            (repeat' (first | (go_big_may; fail) | go_values | go_skip | go_guarded | go_step | go_upon | go_back | dsimp only))
            refine (swap_at hhi hk' hb2.2 _ _ rfl rfl).mono ?_
            rintro e w2 ⟨rfl, hh2, hu2⟩
            (repeat' (first | (go_big_may; fail) | go_values | go_skip | go_guarded | go_step | go_upon | go_back | dsimp only))
            go_roundw
            case rel => exact ⟨le, rfl, by omega, _, hh2, .inl (by rw [hp.swapL_length]; exact hb2.2), by rw [hp.swapL_length]; exact HN.out, HGO.out, hup1.trans hu2 (Grow.refl _ _)⟩
            case measure => have := HN.out; simp [intOf] <;> omega
      · have hd := hat.done (fun h => hq2 h.1)
        have hqi : ¬ ((q : Int) ≤ 2 * k + 2) := by omega
        have hbd := hp.leastL_bound (hp.ahead lt) lr k
        have hup1 := hup.trans (Upd.of_below hbi []) (Grow.nil _ _)
        by_cases hc : le = k
        · have hstop : hp.sinkL (hp.ahead lt) lr k = lr := hp.sinkL_stop (by rw [← hd, hc])
          have hgl2 := HG.out
          rw [hstop] at hgl2
          have heq : ((le : Int) == k) = true := by simp [hc]
          have HGL := Lib.hid hgl2
          clear hd hc hat hstop hgl2 hbd
          (repeat' (first | (go_big_may; fail) | go_values | go_skip | go_guarded | go_step | go_upon | go_back | dsimp only))
          refine bodyPost_ret (results_none rfl _ _ _) rfl ?_
          exact ⟨rfl, by rw [← HGL.out]; exact hhi, hup1⟩
        · have hne : hp.leastL (hp.ahead lt) lr k ≠ k := by rw [← hd]; exact hc
          have hgo2 := HG.out
          rw [hp.sinkL_go hne, ← hd] at hgo2
          rw [← hd] at hbd
          have hb2 := hbd.resolve_left hc
          have heq : ((le : Int) == k) = false := by rw [beq_eq_false_iff_ne]; omega
          have HGO := Lib.hid hgo2
          have hk' : k < lr.length := by omega
          clear hd hat hne hgo2 hbd
          (repeat' (first | (go_big_may; fail) | go_values | go_skip | go_guarded | go_step | go_upon | go_back | dsimp only))
          refine (swap_at hhi hk' hb2.2 _ _ rfl rfl).mono ?_
          rintro e w2 ⟨rfl, hh2, hu2⟩
          (repeat' (first | (go_big_may; fail) | go_values | go_skip | go_guarded | go_step | go_upon | go_back | dsimp only))
          go_roundw
          case rel => exact ⟨le, rfl, by omega, _, hh2, .inl (by rw [hp.swapL_length]; exact hb2.2), by rw [hp.swapL_length]; exact HN.out, HGO.out, hup1.trans hu2 (Grow.refl _ _)⟩
          case measure => have := HN.out; simp [intOf] <;> omega

end Go.Proofs.YtgeabmmicofanaaGreatDoor.cu
