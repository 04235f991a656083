/- A heap of items in memory. -/
import Derived.Test.YtbmfaffnbjmipaaProg
import Derived.Test.YtbmfaffnbjmipaaMem
import Derived.Test.YtbmfaffnbjmipaaHeapRef
import Derived.Lib.Hide
import Derived.Deep.RegionHeld3
import Derived.Deep.QuietTactic
import Derived.BigQuiet
import Derived.BigRegion
namespace Go.Proofs.Ytbmfaffnbjmipaa.cu
open Go.RowKit

/-- A cursor: its slice, and the texts that are left. -/
structure Cur where
  a : Option Addr
  n : Nat
  c : Nat
  left : List (List UInt8)
instance : Inhabited Cur := ⟨⟨none, 0, 0, []⟩⟩
abbrev Cur.v (x : Cur) : Value := .agg #[.slice x.a x.n x.c]
def Cur.key (x : Cur) : List UInt8 := x.left.headD []
/-- Its texts lie in memory. -/
def Live (w : World) (x : Cur) : Prop := ∃ g i, x.a = some ⟨g, i, none⟩ ∧ x.n = x.left.length ∧ 0 < x.n ∧ x.n ≤ x.c ∧ x.c ≤ maxLen ∧ ∀ j t, x.left[j]? = some t → w.cell? ⟨g, i + j, none⟩ = some (.string ⟨t.toArray⟩)
theorem Live.block {w w' : World} {x : Cur} (h : Live w x) (hk : ∀ a, x.a = some a → w'.heap[a.block]? = w.heap[a.block]?) : Live w' x := by
  obtain ⟨g, i, h1, h2, h3, h4, h5, h6⟩ := h
  exact ⟨g, i, h1, h2, h3, h4, h5, fun j t e => by rw [World.cell?_of_block (w := w) (a := ⟨g, i + j, none⟩) (hk ⟨g, i, none⟩ h1 :)]; exact h6 j t e⟩
theorem Live.lt {w : World} {x : Cur} (h : Live w x) : ∀ a, x.a = some a → a.block < w.heap.size := by
  obtain ⟨g, i, h1, h2, h3, _, _, h6⟩ := h
  intro a ha
  rw [h1] at ha
  cases ha
  exact World.block_lt_of_cell? w _ (h6 0 _ (List.getElem?_eq_getElem (by omega)))
theorem Live.below {w w' : World} {x : Cur} (h : Live w x) (hb : Below w.heap.size w w') : Live w' x := h.block fun a ha => hb.block _ (h.lt a ha)
/-- The items are live, in blocks that are none of K. -/
def LiveL (w : World) (K : List Nat) (l : List (Cur × Nat)) : Prop := ∀ e ∈ l, Live w e.1 ∧ ∀ a, e.1.a = some a → a.block ∉ K
theorem LiveL.upd {w w' : World} {K fp : List Nat} {l : List (Cur × Nat)} (h : LiveL w K l) (hu : Upd fp w w') (hd : ∀ e ∈ l, ∀ a, e.1.a = some a → a.block ∉ fp) : LiveL w' K l :=
  fun e he => ⟨(h e he).1.block fun a ha => hu.block _ ((h e he).1.lt a ha) (hd e he a ha), (h e he).2⟩
theorem LiveL.own {w w' : World} {K : List Nat} {l : List (Cur × Nat)} (h : LiveL w K l) (hu : Upd K w w') : LiveL w' K l := h.upd hu fun e he => (h e he).2
theorem LiveL.sub {w : World} {K : List Nat} {l l' : List (Cur × Nat)} (h : LiveL w K l) (hs : ∀ e ∈ l', e ∈ l) : LiveL w K l' := fun e he => h e (hs e he)
theorem LiveL.keep {w : World} {K K' : List Nat} {l : List (Cur × Nat)} (h : LiveL w K l) (hk : ∀ k ∈ K', k ∈ K) : LiveL w K' l := fun e he => ⟨(h e he).1, fun a ha hm => (h e he).2 a ha (hk _ hm)⟩
theorem LiveL.grow {w w' : World} {K K' : List Nat} {l : List (Cur × Nat)} (h : LiveL w K l) (hu : Upd K w w') (hg : Grow w K K') (hd : ∀ e ∈ l, ∀ a, e.1.a = some a → a.block ∉ K) : LiveL w' K' l := fun e he =>
  ⟨(h e he).1.block fun a ha => hu.block _ ((h e he).1.lt a ha) (hd e he a ha), fun a ha hm => by
    rcases hg _ hm with h9 | h9
    · exact hd e he a ha h9
    · have := (h e he).1.lt a ha; omega⟩
theorem LiveL.snoc {w : World} {K : List Nat} {l : List (Cur × Nat)} {e : Cur × Nat} (h : LiveL w K l) (he : Live w e.1) (hn : ∀ a, e.1.a = some a → a.block ∉ K) : LiveL w K (l ++ [e]) := fun x hx => by
  rcases List.mem_append.1 hx with h1 | h1
  · exact h x h1
  · simp at h1; subst h1; exact ⟨he, hn⟩
theorem Live.upd {w w' : World} {fp : List Nat} {x : Cur} (h : Live w x) (hu : Upd fp w w') (hd : ∀ a, x.a = some a → a.block ∉ fp) : Live w' x := h.block fun a ha => hu.block _ (h.lt a ha) (hd a ha)
theorem Live.drew {w : World} {x : Cur} (h : Live w x) : Live w.drew x := h
theorem mem_set {l : List (Cur × Nat)} {i : Nat} {x y : Cur × Nat} (h : y ∈ l.set i x) : y ∈ l ∨ y = x := List.mem_or_eq_of_mem_set h
/-- An entry's cells. -/
abbrev entI (e : Cur × Nat) : List Value := [.slice e.1.a e.1.n e.1.c, .int .i64 e.2]
abbrev tHeapC : TypeId := 69
abbrev tEntC : TypeId := 71

/-- A 'less' that is handed in: a Go function that answers lt. -/
structure LessI (fl : FuncId) (lt : Cur → Cur → Bool) : Prop where
  enters : ∀ args w, (callFunc fl args).run Try.prog w = .ok (.enter fl args) w
  calls : ∀ (x y : Cur) (w : World), Live w x → Live w y → Calls Try.prog fl #[x.v, y.v] w fun e w' => e = .returned (.bool (lt x y)) ∧ Below w.heap.size w w'
  ord : hp.Ord lt

def flatI (l : List (Cur × Nat)) : List Value := l.flatMap entI
theorem flatI_length (l : List (Cur × Nat)) : (flatI l).length = l.length * 2 := by
  induction l with
  | nil => rfl
  | cons e l ih => simp only [flatI, List.flatMap_cons, List.length_append, List.length_cons, List.length_nil] at ih ⊢; omega
theorem flatI_append (l r : List (Cur × Nat)) : flatI (l ++ r) = flatI l ++ flatI r := by simp [flatI]
theorem flatI_get (l : List (Cur × Nat)) (i : Nat) (hi : i < l.length) : (flatI l)[i * 2]? = some (.slice (l.getD i default).1.a (l.getD i default).1.n (l.getD i default).1.c) ∧ (flatI l)[i * 2 + 1]? = some (.int .i64 (l.getD i default).2) := by
  induction l generalizing i with
  | nil => simp at hi
  | cons e l ih =>
    cases i with
    | zero => exact ⟨rfl, rfl⟩
    | succ i =>
      have := ih i (by simpa using hi)
      have e1 : flatI (e :: l) = entI e ++ flatI l := by simp [flatI]
      rw [e1]
      have h0 : (i + 1) * 2 = 2 + i * 2 := by omega
      have h1 : (i + 1) * 2 + 1 = 2 + (i * 2 + 1) := by omega
      rw [h0, Nat.add_assoc 2]
      have h3 : ∀ k, (entI e ++ flatI l)[2 + k]? = (flatI l)[k]? := fun k => by
        rw [List.getElem?_append_right (by simp)]; simp
      simp only [h3, List.getD_cons_succ]
      exact this

/-- Two rows are one if their entries are. -/
theorem flatI_ext {xs : List Value} {l : List (Cur × Nat)} (hl : xs.length = l.length * 2)
    (h : ∀ i, i < l.length → xs[i * 2]? = some (.slice (l.getD i default).1.a (l.getD i default).1.n (l.getD i default).1.c) ∧ xs[i * 2 + 1]? = some (.int .i64 (l.getD i default).2)) : xs = flatI l := by
  apply List.ext_getElem?
  intro k
  by_cases hk : k < l.length * 2
  · have hq : k / 2 < l.length := by omega
    obtain ⟨h0, h1⟩ := h (k / 2) hq
    obtain ⟨g0, g1⟩ := flatI_get l (k / 2) hq
    have hr : k % 2 = 0 ∨ k % 2 = 1 := by omega
    rcases hr with hr | hr
    · have e : k = k / 2 * 2 := by omega
      rw [e, h0, g0]
    · have e : k = k / 2 * 2 + 1 := by omega
      rw [e, h1, g1]
  · rw [List.getElem?_eq_none (by omega), List.getElem?_eq_none (by rw [flatI_length]; omega)]

/-- The heap in block b: 'f' is its less, v its list's value. -/
def HeapI (w : World) (b : Nat) (f : Value) (l : List (Cur × Nat)) (turns : Nat) (v : Value) : Prop :=
  w.heap[b]? = some (.cells #[f, v, .int .i64 turns] tHeapC (0, 0)) ∧ w.ownsRow 0 tEntC 2 v l.length (flatI l) ∧ LiveL w (b :: rowOf v) l
theorem HeapI.base {w : World} {b : Nat} {f : Value} {l : List (Cur × Nat)} {turns : Nat} {v : Value} (h : HeapI w b f l turns v) : ∀ e ∈ l, ∀ a, e.1.a = some a → a.block ∉ b :: rowOf v := fun e he => (h.2.2 e he).2

theorem HeapI.of_block {w w' : World} {b : Nat} {f : Value} {l : List (Cur × Nat)} {turns : Nat} {v : Value} (h : HeapI w b f l turns v) (hk : ∀ k, k ∈ b :: rowOf v → w'.heap[k]? = w.heap[k]?) (hl : ∀ e ∈ l, ∀ a, e.1.a = some a → w'.heap[a.block]? = w.heap[a.block]?) : HeapI w' b f l turns v :=
  ⟨by rw [hk b (by simp)]; exact h.1, ownsRow_block h.2.1 fun k e => hk k (List.mem_cons_of_mem _ (mem_rowOf.2 e)), fun e he => ⟨(h.2.2 e he).1.block (hl e he), (h.2.2 e he).2⟩⟩
theorem HeapI.lt {w : World} {b : Nat} {f : Value} {l : List (Cur × Nat)} {turns : Nat} {v : Value} (h : HeapI w b f l turns v) : ∀ k, k ∈ b :: rowOf v → k < w.heap.size := by
  intro k hk
  rcases List.mem_cons.1 hk with rfl | hk
  · exact lt_of_heap h.1
  · exact (h.2.1.lt k (mem_rowOf.1 hk)).2
theorem HeapI.upd {fp : List Nat} {w w' : World} {b : Nat} {f : Value} {l : List (Cur × Nat)} {turns : Nat} {v : Value} (h : HeapI w b f l turns v) (hu : Upd fp w w') (hd : ∀ k ∈ b :: rowOf v, k ∉ fp) (hl : ∀ e ∈ l, ∀ a, e.1.a = some a → a.block ∉ fp) : HeapI w' b f l turns v :=
  h.of_block (fun k hk => hu.block k (h.lt k hk) (hd k hk)) fun e he a ha => hu.block _ ((h.2.2 e he).1.lt a ha) (hl e he a ha)
theorem HeapI.below {w w' : World} {b : Nat} {f : Value} {l : List (Cur × Nat)} {turns : Nat} {v : Value} (h : HeapI w b f l turns v) (hb : Below w.heap.size w w') : HeapI w' b f l turns v :=
  h.upd (Upd.of_below hb []) (by simp) (by simp)
theorem HeapI.drew {w : World} {b : Nat} {f : Value} {l : List (Cur × Nat)} {turns : Nat} {v : Value} (h : HeapI w b f l turns v) : HeapI w.drew b f l turns v := h

theorem HeapI.ne {w : World} {b : Nat} {f : Value} {l : List (Cur × Nat)} {turns : Nat} {v : Value} (h : HeapI w b f l turns v) : b ∉ rowOf v := by
  intro hm
  rw [mem_rowOf] at hm
  rcases h.2.1.2 with ⟨rfl, _⟩ | ⟨g, cap, cur, rfl, _, hg, _⟩
  · simp [Value.ownBlock] at hm
  · simp only [Value.ownBlock, Option.some.injEq] at hm
    subst hm
    have := h.1.symm.trans hg
    simp only [Option.some.injEq, Obj.cells.injEq] at this
    exact absurd this.2.1 (by decide)

/-- What a walk reads of it. -/
structure HeapFacts (w : World) (b : Nat) (f v : Value) (n : Nat) (turns : Nat) : Prop where
  c0 : w.cell? ⟨b, 0, none⟩ = some f
  c1 : w.cell? ⟨b, 1, none⟩ = some v
  c2 : w.cell? ⟨b, 2, none⟩ = some (.int .i64 turns)
  f0 : w.frozen? ⟨b, 0, none⟩ = false
  f1 : w.frozen? ⟨b, 1, none⟩ = false
  f2 : w.frozen? ⟨b, 2, none⟩ = false
theorem HeapI.facts {w : World} {b : Nat} {f : Value} {l : List (Cur × Nat)} {turns : Nat} {v : Value} (h : HeapI w b f l turns v) : HeapFacts w b f v l.length turns := by
  have h1 := h.1
  exact ⟨by simp [World.cell?, h1], by simp [World.cell?, h1], by simp [World.cell?, h1], by simp [World.frozen?, h1], by simp [World.frozen?, h1], by simp [World.frozen?, h1]⟩
theorem HeapI.row {w : World} {b : Nat} {f : Value} {l : List (Cur × Nat)} {turns : Nat} {v : Value} (h : HeapI w b f l turns v) (hne : l ≠ []) :
    ∃ g cap cur, v = .slice (some ⟨g, 0, none⟩) l.length cap ∧ w.heap[g]? = some (.cells cur tEntC (0, 0)) ∧ l.length ≤ cap ∧ cap ≤ maxLen ∧ cur.size = cap * 2 ∧ cur.toList.take (l.length * 2) = flatI l := by
  rcases h.2.1.2 with ⟨_, h0⟩ | ⟨g, cap, cur, hv, _, h1, h2, h3, h4, h5⟩
  · exact absurd (List.length_eq_zero_iff.1 h0) hne
  · exact ⟨g, cap, cur, hv, h1, h2, h3, h4, h5⟩
theorem row_cells {w : World} {g : Nat} {cur : Array Value} {l : List (Cur × Nat)} {fz : Nat × Nat} (hg : w.heap[g]? = some (.cells cur tEntC fz)) (ht : cur.toList.take (l.length * 2) = flatI l) {i : Nat} (hi : i < l.length) :
    w.cell? ⟨g, i * 2, none⟩ = some (.slice (l.getD i default).1.a (l.getD i default).1.n (l.getD i default).1.c) ∧ w.cell? ⟨g, i * 2 + 1, none⟩ = some (.int .i64 (l.getD i default).2) := by
  obtain ⟨g0, g1⟩ := flatI_get l i hi
  rw [← ht, List.getElem?_take_of_lt (by omega)] at g0 g1
  simp only [World.cell?, hg]
  exact ⟨by simpa using g0, by simpa using g1⟩

/-- Two entries exchanged. -/
def swapW (w : World) (g i j : Nat) (ei ej : Cur × Nat) : World :=
  ((((w.setCell ⟨g, i * 2, none⟩ (.slice ej.1.a ej.1.n ej.1.c)).setCell ⟨g, i * 2 + 1, none⟩ (.int .i64 ej.2)).setCell ⟨g, j * 2, none⟩ (.slice ei.1.a ei.1.n ei.1.c)).setCell ⟨g, j * 2 + 1, none⟩ (.int .i64 ei.2)).drew

set_option maxHeartbeats 1600000 in
theorem swap_walk (w : World) (b g n cap i j : Nat) (ei ej : Cur × Nat) (hi : i < n) (hj : j < n) (_hn : n ≤ 9223372036854775807)
    (hl : w.cell? ⟨b, 1, none⟩ = some (.slice (some ⟨g, 0, none⟩) n cap))
    (hi0 : w.cell? ⟨g, i * 2, none⟩ = some (.slice ei.1.a ei.1.n ei.1.c)) (hi1 : w.cell? ⟨g, i * 2 + 1, none⟩ = some (.int .i64 ei.2))
    (hj0 : w.cell? ⟨g, j * 2, none⟩ = some (.slice ej.1.a ej.1.n ej.1.c)) (hj1 : w.cell? ⟨g, j * 2 + 1, none⟩ = some (.int .i64 ej.2))
    (hf : ∀ k, w.frozen? ⟨g, k, none⟩ = false) :
    Calls Try.prog 52 #[.pointer (some ⟨b, 0, none⟩), .int .i64 i, .int .i64 j] w fun e w' => e = .returned (.tuple #[]) ∧ swapW w g i j ei ej = w' := by
  have a1 : (0 : Int) ≤ i := by omega
  have a2 : (i : Int) < n := by omega
  have a3 : (0 : Int) ≤ j := by omega
  have a4 : (j : Int) < n := by omega
  rcases Nat.lt_trichotomy i j with hij | hij | hij
  · go_enter Try.func52, Try.ntmps52
    (repeat' (first | (go_big_may; fail) | go_values | go_skip | go_guarded | go_step | go_upon | go_back | dsimp only))
    go_region
    go_end0
    exact ⟨rfl, rfl⟩
  · subst hij
    rw [hi0] at hj0; rw [hi1] at hj1
    go_enter Try.func52, Try.ntmps52
    (repeat' (first | (go_big_may; fail) | go_values | go_skip | go_guarded | go_step | go_upon | go_back | dsimp only))
    go_region
    go_end0
    simp only [Option.some.injEq, Value.int.injEq, Value.slice.injEq, true_and] at hj0 hj1
    refine ⟨rfl, ?_⟩
    unfold swapW
    obtain ⟨e1, e2, e3⟩ := hj0
    rw [e1, e2, e3, hj1]
  · go_enter Try.func52, Try.ntmps52
    (repeat' (first | (go_big_may; fail) | go_values | go_skip | go_guarded | go_step | go_upon | go_back | dsimp only))
    go_region
    go_end0
    exact ⟨rfl, rfl⟩

def arr6 (cur : Array Value) (i j : Nat) (ei ej : Cur × Nat) : Array Value :=
  (((cur.setIfInBounds (i * 2) (.slice ej.1.a ej.1.n ej.1.c)).setIfInBounds (i * 2 + 1) (.int .i64 ej.2)).setIfInBounds (j * 2) (.slice ei.1.a ei.1.n ei.1.c)).setIfInBounds (j * 2 + 1) (.int .i64 ei.2)
theorem arr6_size (cur : Array Value) (i j : Nat) (ei ej : Cur × Nat) : (arr6 cur i j ei ej).size = cur.size := by simp [arr6]
theorem swapW_row {w : World} {g : Nat} {cur : Array Value} {T : TypeId} {fz : Nat × Nat} (hg : w.heap[g]? = some (.cells cur T fz)) (i j : Nat) (ei ej : Cur × Nat) : (swapW w g i j ei ej).heap[g]? = some (.cells (arr6 cur i j ei ej) T fz) := by
  unfold swapW arr6
  rw [heap_drew]
  exact heap_setCell (heap_setCell (heap_setCell (heap_setCell hg _) _) _) _
theorem swapW_other {w : World} {g k : Nat} (hk : k ≠ g) (i j : Nat) (ei ej : Cur × Nat) : (swapW w g i j ei ej).heap[k]? = w.heap[k]? := by
  unfold swapW
  rw [heap_drew]
  iterate 4 rw [Below.heap_setCell _ _ _ _ hk]
theorem swapW_upd {w : World} {g : Nat} {fp : List Nat} (hg : g ∈ fp) (i j : Nat) (ei ej : Cur × Nat) : Upd fp w (swapW w g i j ei ej) :=
  (((((Upd.refl _ w).setCell (p := ⟨g, i * 2, none⟩) (.inl hg) _).setCell (p := ⟨g, i * 2 + 1, none⟩) (.inl hg) _).setCell (p := ⟨g, j * 2, none⟩) (.inl hg) _).setCell (p := ⟨g, j * 2 + 1, none⟩) (.inl hg) _).drew

theorem arr6_take (cur : Array Value) (i j n : Nat) (l : List (Cur × Nat)) (hn : n = l.length) (hsz : n * 2 ≤ cur.size) (ht : cur.toList.take (n * 2) = flatI l) (hi : i < n) (hj : j < n) :
    (arr6 cur i j (l.getD i default) (l.getD j default)).toList.take (n * 2) = flatI (hp.swapL l i j) := by
  subst hn
  apply flatI_ext
  · have := arr6_size cur i j (l.getD i default) (l.getD j default)
    rw [List.length_take, hp.swapL_length, Array.length_toList (xs := arr6 cur i j (l.getD i default) (l.getD j default))]; omega
  · intro q hq
    rw [hp.swapL_length] at hq
    obtain ⟨g0, g1⟩ := flatI_get l q hq
    rw [← ht, List.getElem?_take_of_lt (by omega)] at g0 g1
    rw [hp.getD_swapL hi hj]
    rw [List.getElem?_take_of_lt (by omega), List.getElem?_take_of_lt (by omega)]
    unfold arr6
    simp only [Array.getElem?_toList, Array.getElem?_setIfInBounds, Array.size_setIfInBounds] at g0 g1 ⊢
    by_cases hqj : q = j
    · rw [if_pos hqj]
      subst hqj
      refine ⟨?_, ?_⟩
      · rw [if_neg (by omega), if_pos rfl, if_pos (by omega)]
      · rw [if_pos rfl, if_pos (by omega)]
    · rw [if_neg hqj]
      by_cases hqi : q = i
      · rw [if_pos hqi]
        subst hqi
        refine ⟨?_, ?_⟩
        · rw [if_neg (by omega), if_neg (by omega), if_neg (by omega), if_pos rfl, if_pos (by omega)]
        · rw [if_neg (by omega), if_neg (by omega), if_pos rfl, if_pos (by omega)]
      · rw [if_neg hqi]
        refine ⟨?_, ?_⟩
        · rw [if_neg (by omega), if_neg (by omega), if_neg (by omega), if_neg (by omega)]; exact g0
        · rw [if_neg (by omega), if_neg (by omega), if_neg (by omega), if_neg (by omega)]; exact g1

theorem swap_calls {w : World} {b : Nat} {f : Value} {l : List (Cur × Nat)} {turns : Nat} {v : Value} (h : HeapI w b f l turns v) {i j : Nat} (hi : i < l.length) (hj : j < l.length) :
    Calls Try.prog 52 #[.pointer (some ⟨b, 0, none⟩), .int .i64 i, .int .i64 j] w fun e w' => e = .returned (.tuple #[]) ∧ HeapI w' b f (hp.swapL l i j) turns v ∧ Upd (b :: rowOf v) w w' := by
  obtain ⟨g, cap, cur, rfl, hg, hn, hc, hs, ht⟩ := h.row (by intro e; subst e; simp at hi)
  have hfc := h.facts
  obtain ⟨i0, i1⟩ := row_cells hg ht hi
  obtain ⟨j0, j1⟩ := row_cells hg ht hj
  have hgb : g ≠ b := fun e => h.ne (by rw [mem_rowOf]; simp [Value.ownBlock, e])
  unfold maxLen at hc
  refine (swap_walk w b g l.length cap i j _ _ hi hj (by omega) hfc.c1 i0 i1 j0 j1 (fun k => by simp [World.frozen?, hg])).mono ?_
  rintro e w' ⟨rfl, rfl⟩
  have hgm : g ∈ b :: rowOf (.slice (some ⟨g, 0, none⟩) l.length cap) := by simp [rowOf, Value.ownBlock]
  have hms : ∀ e ∈ hp.swapL l i j, e ∈ l := fun e he => by
    unfold hp.swapL at he
    have hgd : ∀ k, k < l.length → l.getD k default ∈ l := fun k hk => by
      rw [List.getD_eq_getElem?_getD, List.getElem?_eq_getElem hk]; exact List.getElem_mem hk
    rcases mem_set he with h1 | h1
    · rcases mem_set h1 with h2 | h2
      · exact h2
      · rw [h2]; exact hgd _ hj
    · rw [h1]; exact hgd _ hi
  refine ⟨rfl, ⟨by rw [swapW_other (fun e => hgb e.symm)]; exact h.1, ?_, (h.2.2.own (swapW_upd hgm _ _ _ _)).sub hms⟩, swapW_upd hgm _ _ _ _⟩
  refine ⟨by rw [flatI_length, hp.swapL_length], .inr ⟨g, cap, _, by rw [hp.swapL_length], Nat.zero_le _, swapW_row hg i j _ _, by rw [hp.swapL_length]; exact hn, by unfold maxLen; exact hc, by rw [arr6_size]; exact hs, ?_⟩⟩
  rw [hp.swapL_length]
  exact arr6_take cur i j l.length l rfl (by omega) ht hi hj

end Go.Proofs.Ytbmfaffnbjmipaa.cu
