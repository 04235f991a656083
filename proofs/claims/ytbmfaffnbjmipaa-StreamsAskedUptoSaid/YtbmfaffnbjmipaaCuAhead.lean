/- heap: enter, ahead walked. -/
import Derived.Test.YtbmfaffnbjmipaaCuKit
namespace Go.Proofs.Ytbmfaffnbjmipaa.cu
open Go.RowKit

set_option maxHeartbeats 800000 in
theorem enter_calls {w : World} {b : Nat} {f : Value} {l : List (Cur × Nat)} {turns : Nat} {v : Value} (h : HeapI w b f l turns v) (x : Cur) (ht : turns < 9223372036854775807) :
    Calls Try.prog 48 #[.pointer (some ⟨b, 0, none⟩), x.v] w fun e w' => e = .returned (.agg (entI (x, turns + 1)).toArray) ∧ HeapI w' b f l (turns + 1) v ∧ Upd [b] w w' := by
  have hfc := h.facts
  have c2 := hfc.c2
  have f2 := hfc.f2
  have hb := lt_of_heap h.1
  have H := Lib.hid h
  clear h hfc
  go_enter Try.func48, Try.ntmps48
  (repeat' (first | (go_big_may; fail) | go_values | go_skip | go_guarded | go_step | go_upon | go_back | dsimp only))
  go_region
  (repeat' (first | (go_big_may; fail) | go_values | go_skip | go_guarded | go_step | go_upon | go_back | dsimp only))
  refine bodyPost_ret (v := .agg (entI (x, turns + 1)).toArray) (by simp [results, Try.results48, go_sem]) rfl ⟨rfl, ⟨?_, ?_, ?_⟩, ?_⟩
  · have h1 := heap_setCell (o := 2) H.out.1 (.int .i64 ((turns : Int) + 1))
    rw [heap_drew, heap_alloc_old _ _ (by simp [World.setCell]; omega), heap_alloc_old _ _ (by simpa [World.setCell] using hb), h1]
    rfl
  · refine ownsRow_block H.out.2.1 fun k hk => ?_
    have hkb : k ≠ b := fun e => H.out.ne (by rw [← e, mem_rowOf]; exact hk)
    have hks : k < w.heap.size := (H.out.2.1.lt k hk).2
    rw [heap_drew, heap_alloc_old _ _ (by simp [World.setCell]; omega), heap_alloc_old _ _ (by simpa [World.setCell] using hks), Below.heap_setCell _ _ _ _ hkb]
  · refine (H.out.2.2.upd (fp := [b]) ?_ fun e he a ha hm => H.out.base e he a ha (by simp at hm; simp [hm]))
    exact ((((Upd.refl _ _).setCell (p := ⟨b, 2, none⟩) (.inl (by simp)) _).alloc _).alloc _).drew
  · exact ((((Upd.refl _ _).setCell (p := ⟨b, 2, none⟩) (.inl (by simp)) _).alloc _).alloc _).drew

/-- What 'ahead' reads behind its two copies: its less, the copies at p and q. -/
theorem ahS_below {w W W' : World} {b p q : Nat} {f a0 a1 b0 b1 : Value}
    (h : W.cell? ⟨b, 0, none⟩ = some f ∧ W.cell? ⟨p, 0, none⟩ = some a0 ∧ W.cell? ⟨p, 1, none⟩ = some a1 ∧ W.cell? ⟨q, 0, none⟩ = some b0 ∧ W.cell? ⟨q, 1, none⟩ = some b1 ∧ Below w.heap.size w W)
    (hb : Below W.heap.size W W') :
    W'.cell? ⟨b, 0, none⟩ = some f ∧ W'.cell? ⟨p, 0, none⟩ = some a0 ∧ W'.cell? ⟨p, 1, none⟩ = some a1 ∧ W'.cell? ⟨q, 0, none⟩ = some b0 ∧ W'.cell? ⟨q, 1, none⟩ = some b1 ∧ Below w.heap.size w W' := by
  obtain ⟨h0, h1, h2, h3, h4, h5⟩ := h
  have key : ∀ {a : Addr} {v : Value}, W.cell? a = some v → W'.cell? a = some v := fun {a v} e => by
    rw [hb.cell (World.block_lt_of_cell? W a e)]; exact e
  exact ⟨key h0, key h1, key h2, key h3, key h4, h5.trans (hb.mono h5.size)⟩

theorem ahS_drew {w W : World} {b p q : Nat} {f a0 a1 b0 b1 : Value}
    (h : W.cell? ⟨b, 0, none⟩ = some f ∧ W.cell? ⟨p, 0, none⟩ = some a0 ∧ W.cell? ⟨p, 1, none⟩ = some a1 ∧ W.cell? ⟨q, 0, none⟩ = some b0 ∧ W.cell? ⟨q, 1, none⟩ = some b1 ∧ Below w.heap.size w W) :
    W.drew.cell? ⟨b, 0, none⟩ = some f ∧ W.drew.cell? ⟨p, 0, none⟩ = some a0 ∧ W.drew.cell? ⟨p, 1, none⟩ = some a1 ∧ W.drew.cell? ⟨q, 0, none⟩ = some b0 ∧ W.drew.cell? ⟨q, 1, none⟩ = some b1 ∧ Below w.heap.size w W.drew :=
  ⟨h.1, h.2.1, h.2.2.1, h.2.2.2.1, h.2.2.2.2.1, h.2.2.2.2.2.drew⟩
theorem ahS_start {w : World} {b : Nat} {f a0 a1 b0 b1 : Value} (hb : b < w.heap.size) (h : w.cell? ⟨b, 0, none⟩ = some f) (T : TypeId) :
    let W := ((w.alloc (.cells #[a0, a1] T)).alloc (.cells #[b0, b1] T)).drew
    W.cell? ⟨b, 0, none⟩ = some f ∧ W.cell? ⟨w.heap.size, 0, none⟩ = some a0 ∧ W.cell? ⟨w.heap.size, 1, none⟩ = some a1 ∧ W.cell? ⟨w.heap.size + 1, 0, none⟩ = some b0 ∧ W.cell? ⟨w.heap.size + 1, 1, none⟩ = some b1 ∧ Below w.heap.size w W := by
  intro W
  have hB : Below w.heap.size w W := (((Below.refl _ w).alloc (Nat.le_refl _) _).alloc (by simp) _).drew
  have hp : W.heap[w.heap.size]? = some (.cells #[a0, a1] T) := by
    show ((w.heap.push _).push _)[w.heap.size]? = _
    simp only [Array.getElem?_push, Array.size_push]
    rw [if_neg (by omega), if_pos trivial]
  have hq : W.heap[w.heap.size + 1]? = some (.cells #[b0, b1] T) := by
    show ((w.heap.push _).push _)[w.heap.size + 1]? = _
    simp only [Array.getElem?_push, Array.size_push]
    rw [if_pos trivial]
  refine ⟨by rw [hB.cell (p := ⟨b, 0, none⟩) hb]; exact h, ?_, ?_, ?_, ?_, hB⟩ <;> simp [World.cell?, hp, hq]

theorem ahS_turn {w W : World} {b p q : Nat} {f a0 a1 b0 b1 : Value}
    (h : W.cell? ⟨b, 0, none⟩ = some f ∧ W.cell? ⟨p, 0, none⟩ = some a0 ∧ W.cell? ⟨p, 1, none⟩ = some a1 ∧ W.cell? ⟨q, 0, none⟩ = some b0 ∧ W.cell? ⟨q, 1, none⟩ = some b1 ∧ Below w.heap.size w W) :
    W.cell? ⟨b, 0, none⟩ = some f ∧ W.cell? ⟨q, 0, none⟩ = some b0 ∧ W.cell? ⟨q, 1, none⟩ = some b1 ∧ W.cell? ⟨p, 0, none⟩ = some a0 ∧ W.cell? ⟨p, 1, none⟩ = some a1 ∧ Below w.heap.size w W :=
  ⟨h.1, h.2.2.2.1, h.2.2.2.2.1, h.2.1, h.2.2.1, h.2.2.2.2.2⟩
theorem ahS_bel {w W : World} {b p q : Nat} {f a0 a1 b0 b1 : Value}
    (h : W.cell? ⟨b, 0, none⟩ = some f ∧ W.cell? ⟨p, 0, none⟩ = some a0 ∧ W.cell? ⟨p, 1, none⟩ = some a1 ∧ W.cell? ⟨q, 0, none⟩ = some b0 ∧ W.cell? ⟨q, 1, none⟩ = some b1 ∧ Below w.heap.size w W) :
    Below w.heap.size w W := h.2.2.2.2.2
theorem hliveD {w : World} {b : Nat} {f : Value} {l : List (Cur × Nat)} {turns : Nat} {v : Value} (h : HeapI w b f l turns v) {i : Nat} (hi : i < l.length) : Live w (l.getD i default).1 := by
  refine (h.2.2 _ ?_).1
  rw [List.getD_eq_getElem?_getD, List.getElem?_eq_getElem hi]
  exact List.getElem_mem hi
theorem ahead_1 {lt : Cur → Cur → Bool} {x y : Cur × Nat} (h : lt x.1 y.1 = true) : hp.ahead lt x y = true := by unfold hp.ahead; rw [if_pos h]
theorem ahead_2 {lt : Cur → Cur → Bool} {x y : Cur × Nat} (h : lt x.1 y.1 = false) (h2 : lt y.1 x.1 = true) : hp.ahead lt x y = false := by unfold hp.ahead; rw [if_neg (by simp [h]), if_pos h2]
theorem ahead_3 {lt : Cur → Cur → Bool} {x y : Cur × Nat} (h : lt x.1 y.1 = false) (h2 : lt y.1 x.1 = false) : hp.ahead lt x y = decide (x.2 < y.2) := by
  unfold hp.ahead; rw [if_neg (by simp [h]), if_neg (by simp [h2])]

set_option maxHeartbeats 3200000 in
theorem ahead_calls {w : World} {b : Nat} {fl : FuncId} {lt : Cur → Cur → Bool} (hL : LessI fl lt) {l : List (Cur × Nat)} {turns : Nat} {v : Value} (h : HeapI w b (.func (.func fl) #[] #[]) l turns v) {i j : Nat} (hi : i < l.length) (hj : j < l.length) :
    Calls Try.prog 64 #[.pointer (some ⟨b, 0, none⟩), .int .i64 i, .int .i64 j] w fun e w' => e = .returned (.bool (hp.ahead lt (l.getD i default) (l.getD j default))) ∧ Below w.heap.size w w' := by
  obtain ⟨g, cap, cur, rfl, hg, hn, hc, hs, ht⟩ := h.row (by intro e; subst e; simp at hi)
  have hfc := h.facts
  obtain ⟨i0, i1⟩ := row_cells hg ht hi
  obtain ⟨j0, j1⟩ := row_cells hg ht hj
  unfold maxLen at hc
  have c0 := hfc.c0
  have c1 := hfc.c1
  have a1 : (0 : Int) ≤ i := by omega
  have a2 : (i : Int) < l.length := by omega
  have a3 : (0 : Int) ≤ j := by omega
  have a4 : (j : Int) < l.length := by omega
  have hli := hliveD h hi
  have hlj := hliveD h hj
  generalize l.getD i default = ei at *
  generalize l.getD j default = ej at *
  have HL1 := Lib.hid (fun (W : World) (hB : Below w.heap.size w W) => hL.calls ei.1 ej.1 W (hli.below hB) (hlj.below hB))
  have HL2 := Lib.hid (fun (W : World) (hB : Below w.heap.size w W) => hL.calls ej.1 ei.1 W (hlj.below hB) (hli.below hB))
  have henter := hL.enters
  have hbs := lt_of_heap h.1
  have hgs := lt_of_heap hg
  have hst1 := Lib.hid (@ahS_start w b _ (.slice ei.1.a ei.1.n ei.1.c) (.int .i64 ei.2) (.slice ej.1.a ej.1.n ej.1.c) (.int .i64 ej.2) hbs c0 tEntC)
  have hst2 := Lib.hid (@ahS_start w b _ (.slice ej.1.a ej.1.n ej.1.c) (.int .i64 ej.2) (.slice ei.1.a ei.1.n ei.1.c) (.int .i64 ei.2) hbs c0 tEntC)
  clear h hfc hg ht hs hli hlj
  obtain ⟨r, hr⟩ : ∃ r, hp.ahead lt ei ej = r := ⟨_, rfl⟩
  rw [hr]
  have HR := Lib.hid hr
  clear hr
  go_enter Try.func64, Try.ntmps64
  (repeat' (first | (go_big_may; fail) | go_values | go_skip | go_guarded | go_step | go_upon | go_back | dsimp only))
  go_region
  · (repeat' (first | (go_big_may; fail) | go_values | go_skip | go_guarded | go_step | go_upon | go_back | dsimp only))
    have hS := hst1.out
    dsimp only at hS
    clear hst1 hst2
    generalize ((w.alloc (.cells #[.slice ei.1.a ei.1.n ei.1.c, .int .i64 ei.2] tEntC)).alloc (.cells #[.slice ej.1.a ej.1.n ej.1.c, .int .i64 ej.2] tEntC)).drew = W1 at hS ⊢
    go_region_held3 ((fun W : World => W.cell? ⟨b, 0, none⟩ = some (.func (.func fl) #[] #[]) ∧ W.cell? ⟨w.heap.size, 0, none⟩ = some (.slice ei.1.a ei.1.n ei.1.c) ∧ W.cell? ⟨w.heap.size, 1, none⟩ = some (.int .i64 ei.2) ∧ W.cell? ⟨w.heap.size + 1, 0, none⟩ = some (.slice ej.1.a ej.1.n ej.1.c) ∧ W.cell? ⟨w.heap.size + 1, 1, none⟩ = some (.int .i64 ej.2) ∧ Below w.heap.size w W)) (first | assumption | exact ahS_drew (by assumption) | exact ahS_below (by assumption) hb5) (((with_reducible (show Calls _ fl _ _ _)); refine (HL1.out _ (by first | assumption | exact ahS_bel (by assumption))).mono ?_; rintro e w5 ⟨rfl, hb5⟩))
    cases h1 : lt ei.1 ej.1
    · (repeat' (first | (go_big_may; fail) | go_values | go_skip | go_guarded | go_step | go_upon | go_back | dsimp only))
      go_region_held3 ((fun W : World => W.cell? ⟨b, 0, none⟩ = some (.func (.func fl) #[] #[]) ∧ W.cell? ⟨w.heap.size, 0, none⟩ = some (.slice ei.1.a ei.1.n ei.1.c) ∧ W.cell? ⟨w.heap.size, 1, none⟩ = some (.int .i64 ei.2) ∧ W.cell? ⟨w.heap.size + 1, 0, none⟩ = some (.slice ej.1.a ej.1.n ej.1.c) ∧ W.cell? ⟨w.heap.size + 1, 1, none⟩ = some (.int .i64 ej.2) ∧ Below w.heap.size w W)) (first | assumption | exact ahS_drew (by assumption) | exact ahS_below (by assumption) hb5) (((with_reducible (show Calls _ fl _ _ _)); refine (HL2.out _ (by first | assumption | exact ahS_bel (by assumption))).mono ?_; rintro e w5 ⟨rfl, hb5⟩))
      cases h2 : lt ej.1 ei.1
      · (repeat' (first | (go_big_may; fail) | go_values | go_skip | go_guarded | go_step | go_upon | go_back | dsimp only))
        go_ret
        exact ⟨by rw [← HR.out, ahead_3 h1 h2]; rfl, ahS_bel (by assumption)⟩
      · (repeat' (first | (go_big_may; fail) | go_values | go_skip | go_guarded | go_step | go_upon | go_back | dsimp only))
        go_ret
        exact ⟨by rw [← HR.out, ahead_2 h1 h2]; rfl, ahS_bel (by assumption)⟩
    · (repeat' (first | (go_big_may; fail) | go_values | go_skip | go_guarded | go_step | go_upon | go_back | dsimp only))
      go_ret
      exact ⟨by rw [← HR.out, ahead_1 h1]; rfl, ahS_bel (by assumption)⟩
  · (repeat' (first | (go_big_may; fail) | go_values | go_skip | go_guarded | go_step | go_upon | go_back | dsimp only))
    have hS := ahS_turn hst2.out
    clear hst1 hst2
    generalize ((w.alloc (.cells #[.slice ej.1.a ej.1.n ej.1.c, .int .i64 ej.2] tEntC)).alloc (.cells #[.slice ei.1.a ei.1.n ei.1.c, .int .i64 ei.2] tEntC)).drew = W1 at hS ⊢
    go_region_held3 ((fun W : World => W.cell? ⟨b, 0, none⟩ = some (.func (.func fl) #[] #[]) ∧ W.cell? ⟨w.heap.size + 1, 0, none⟩ = some (.slice ei.1.a ei.1.n ei.1.c) ∧ W.cell? ⟨w.heap.size + 1, 1, none⟩ = some (.int .i64 ei.2) ∧ W.cell? ⟨w.heap.size, 0, none⟩ = some (.slice ej.1.a ej.1.n ej.1.c) ∧ W.cell? ⟨w.heap.size, 1, none⟩ = some (.int .i64 ej.2) ∧ Below w.heap.size w W)) (first | assumption | exact ahS_drew (by assumption) | exact ahS_below (by assumption) hb5) (((with_reducible (show Calls _ fl _ _ _)); refine (HL1.out _ (by first | assumption | exact ahS_bel (by assumption))).mono ?_; rintro e w5 ⟨rfl, hb5⟩))
    cases h1 : lt ei.1 ej.1
    · (repeat' (first | (go_big_may; fail) | go_values | go_skip | go_guarded | go_step | go_upon | go_back | dsimp only))
      go_region_held3 ((fun W : World => W.cell? ⟨b, 0, none⟩ = some (.func (.func fl) #[] #[]) ∧ W.cell? ⟨w.heap.size + 1, 0, none⟩ = some (.slice ei.1.a ei.1.n ei.1.c) ∧ W.cell? ⟨w.heap.size + 1, 1, none⟩ = some (.int .i64 ei.2) ∧ W.cell? ⟨w.heap.size, 0, none⟩ = some (.slice ej.1.a ej.1.n ej.1.c) ∧ W.cell? ⟨w.heap.size, 1, none⟩ = some (.int .i64 ej.2) ∧ Below w.heap.size w W)) (first | assumption | exact ahS_drew (by assumption) | exact ahS_below (by assumption) hb5) (((with_reducible (show Calls _ fl _ _ _)); refine (HL2.out _ (by first | assumption | exact ahS_bel (by assumption))).mono ?_; rintro e w5 ⟨rfl, hb5⟩))
      cases h2 : lt ej.1 ei.1
      · (repeat' (first | (go_big_may; fail) | go_values | go_skip | go_guarded | go_step | go_upon | go_back | dsimp only))
        go_ret
        exact ⟨by rw [← HR.out, ahead_3 h1 h2]; rfl, ahS_bel (by assumption)⟩
      · (repeat' (first | (go_big_may; fail) | go_values | go_skip | go_guarded | go_step | go_upon | go_back | dsimp only))
        go_ret
        exact ⟨by rw [← HR.out, ahead_2 h1 h2]; rfl, ahS_bel (by assumption)⟩
    · (repeat' (first | (go_big_may; fail) | go_values | go_skip | go_guarded | go_step | go_upon | go_back | dsimp only))
      go_ret
      exact ⟨by rw [← HR.out, ahead_1 h1]; rfl, ahS_bel (by assumption)⟩

end Go.Proofs.Ytbmfaffnbjmipaa.cu
