/- heap of texts: Len, Peek, Pop walked. -/
import Derived.Test.YtgahkodbjokgfaaWdPush
import Derived.Test.YtgahkodbjokgfaaHeapPop
namespace Go.Proofs.Ytgahkodbjokgfaa.wd
open Go.RowKit

set_option maxHeartbeats 400000 in
theorem Len_calls {w : World} {b : Nat} {f : Value} {l : List (ByteArray × Nat)} {turns : Nat} {v : Value} (h : HeapI w b f l turns v) :
    Calls Try.prog 26 #[.pointer (some ⟨b, 0, none⟩)] w fun e w' => e = .returned (.int .i64 l.length) ∧ w = w' := by
  have c1 := h.facts.c1
  obtain ⟨ao, cap, hv, _, _⟩ := (RdRow.of_own h.2).shape
  rw [hv] at c1
  clear h hv
  go_enter Try.func26, Try.ntmps26
  (repeat' (first | (go_big_may; fail) | go_values | go_skip | go_guarded | go_step | go_upon | go_back | dsimp only))
  go_ret
  exact ⟨rfl, rfl⟩
theorem Len_nil (w : World) : Calls Try.prog 26 #[.pointer none] w fun e w' => e = .returned (.int .i64 0) ∧ w = w' := by
  go_enter Try.func26, Try.ntmps26
  (repeat' (first | (go_big_may; fail) | go_values | go_skip | go_guarded | go_step | go_upon | go_back | dsimp only))
  go_ret
  exact ⟨rfl, rfl⟩

/-- A text and a bool as a result. -/
abbrev itB (r : ByteArray × Bool) : Value := .tuple #[.string r.1, .bool r.2]
def peekR (l : List (ByteArray × Nat)) : ByteArray × Bool := if l = [] then (default, false) else ((l.getD 0 default).1, true)

set_option maxHeartbeats 800000 in
theorem Peek_calls {w : World} {b : Nat} {f : Value} {l : List (ByteArray × Nat)} {turns : Nat} {v : Value} (h : HeapI w b f l turns v) :
    Calls Try.prog 27 #[.pointer (some ⟨b, 0, none⟩)] w fun e w' => e = .returned (itB (peekR l)) ∧ w = w' := by
  have hb := lt_of_heap h.1
  have HL := Lib.hid (Len_calls h)
  by_cases hl : l = []
  · subst hl
    clear h
    go_enter Try.func27, Try.ntmps27
    (repeat' (first | (go_big_may; fail) | go_values | go_skip | go_guarded | go_step | go_upon | go_back | dsimp only))
    refine HL.out.mono ?_
    rintro e w' ⟨rfl, rfl⟩
    (repeat' (first | (go_big_may; fail) | go_values | go_skip | go_guarded | go_step | go_upon | go_back | dsimp only))
    go_ret2
    exact ⟨rfl, rfl⟩
  · obtain ⟨g, cap, cur, rfl, hg, hn, hc, hs, ht⟩ := h.row hl
    have hlen : 0 < l.length := List.length_pos_iff.2 hl
    obtain ⟨i0, i1⟩ := row_cells hg ht hlen
    have hp : peekR l = ((l.getD 0 default).1, true) := by unfold peekR; rw [if_neg hl]
    rw [hp]
    have c1 := h.facts.c1
    have hne : ((l.length : Int) == 0) = false := by rw [beq_eq_false_iff_ne]; omega
    generalize l.getD 0 default = x at *
    simp only [Nat.zero_mul, Nat.zero_add] at i0 i1
    clear h hg ht hs hl hp
    go_enter Try.func27, Try.ntmps27
    (repeat' (first | (go_big_may; fail) | go_values | go_skip | go_guarded | go_step | go_upon | go_back | dsimp only))
    refine HL.out.mono ?_
    rintro e w' ⟨rfl, rfl⟩
    (repeat' (first | (go_big_may; fail) | go_values | go_skip | go_guarded | go_step | go_upon | go_back | dsimp only))
    go_ret2
    exact ⟨rfl, rfl⟩

/-- The last entry cleared, the list one shorter. -/
def cutW (w : World) (b g n cap : Nat) : World :=
  ((w.setCell ⟨g, n * 2, none⟩ (.string ⟨#[]⟩)).setCell ⟨g, n * 2 + 1, none⟩ (.int .i64 0)).setCell ⟨b, 1, none⟩ (.slice (some ⟨g, 0, none⟩) n cap)

theorem flatI_take (l : List (ByteArray × Nat)) (n : Nat) : flatI (l.take n) = (flatI l).take (n * 2) := by
  induction l generalizing n with
  | nil => simp [flatI]
  | cons e l ih =>
    cases n with
    | zero => simp [flatI]
    | succ n =>
      have h1 : flatI (e :: l) = entI e ++ flatI l := by simp [flatI]
      have h2 : flatI (e :: l.take n) = entI e ++ flatI (l.take n) := by simp [flatI]
      rw [List.take_succ_cons, h1, h2, ih, show (n + 1) * 2 = 2 + n * 2 from by omega, List.take_append, List.take_of_length_le (l := entI e) (by simp)]
      congr 2
      simp

theorem cutW_heap {w : World} {b g n cap : Nat} {f : Value} {l : List (ByteArray × Nat)} {turns : Nat} (h : HeapI w b f l turns (.slice (some ⟨g, 0, none⟩) l.length cap)) (hn : n < l.length) :
    HeapI (cutW w b g n cap) b f (l.take n) turns (.slice (some ⟨g, 0, none⟩) n cap) ∧ Upd (b :: rowOf (.slice (some ⟨g, 0, none⟩) l.length cap)) w (cutW w b g n cap) := by
  have hne : l ≠ [] := by intro e; subst e; simp at hn
  obtain ⟨g', cap', cur, hv, hg, hnc, hc, hs, ht⟩ := h.row hne
  cases hv
  have hgb : g ≠ b := fun e => h.ne (by rw [mem_rowOf]; simp [Value.ownBlock, e])
  have hl : (l.take n).length = n := by rw [List.length_take]; omega
  have hgm : g ∈ b :: rowOf (.slice (some ⟨g, 0, none⟩) l.length cap) := by simp [rowOf, Value.ownBlock]
  refine ⟨⟨?_, ?_⟩, ?_⟩
  · unfold cutW
    refine heap_setCell (o := 1) (cs := #[f, .slice (some ⟨g, 0, none⟩) l.length cap, .int .i64 turns]) (T := tHeapS) ?_ _
    iterate 2 rw [Below.heap_setCell _ _ _ _ (fun e => hgb e.symm)]
    exact h.1
  · refine ⟨by rw [flatI_length], .inr ⟨g, cap, (cur.setIfInBounds (n * 2) (.string ⟨#[]⟩)).setIfInBounds (n * 2 + 1) (.int .i64 0), by rw [hl], Nat.zero_le _, ?_, by omega, hc, by simpa using hs, ?_⟩⟩
    · unfold cutW
      rw [Below.heap_setCell _ _ _ _ hgb]
      exact heap_setCell (heap_setCell hg _) _
    · rw [hl, flatI_take, ← ht]
      apply List.ext_getElem?
      intro k
      simp only [List.getElem?_take, Array.getElem?_toList, Array.getElem?_setIfInBounds]
      by_cases hk : k < n * 2
      · rw [if_pos hk, if_neg (by omega), if_neg (by omega), if_pos hk, if_pos (by omega)]
      · rw [if_neg hk, if_neg hk]
  · exact (((Upd.refl _ w).setCell (p := ⟨g, n * 2, none⟩) (.inl hgm) _).setCell (p := ⟨g, n * 2 + 1, none⟩) (.inl hgm) _).setCell (p := ⟨b, 1, none⟩) (.inl (by simp)) _

theorem sink_at {w : World} {b : Nat} {fl : FuncId} {lt : ByteArray → ByteArray → Bool} (hL : LessI fl lt) {l : List (ByteArray × Nat)} {turns : Nat} {v : Value} (h : HeapI w b (.func (.func fl) #[] #[]) l turns v) (hn : l.length ≤ 4611686018427387) (z : Int) (hz : z = 0) :
    Calls Try.prog 46 #[.pointer (some ⟨b, 0, none⟩), .int .i64 z] w fun e w' => e = .returned (.tuple #[]) ∧ HeapI w' b (.func (.func fl) #[] #[]) (hp.sinkL (hp.ahead lt) l 0) turns v ∧ Upd (b :: rowOf v) w w' := by
  subst hz
  refine sink_calls hL h ?_ (Nat.zero_le _) hn
  by_cases hl : l = []
  · exact .inr hl
  · exact .inl (List.length_pos_iff.2 hl)

theorem clear_run {w : World} {g o c : Nat} {a0 a1 : Value} (h0 : w.cell? ⟨g, o, none⟩ = some a0) (h1 : w.cell? ⟨g, o + 1, none⟩ = some a1) (hf : ∀ k, w.frozen? ⟨g, k, none⟩ = false) :
    (Builtin.clear_ #[79] 0 #[.slice (some ⟨g, o, none⟩) 1 c]).run Try.prog w = .ok (.tuple #[]) ((w.setCell ⟨g, o, none⟩ (.string ⟨#[]⟩)).setCell ⟨g, o + 1, none⟩ (.int .i64 0)) := by
  have hz : (zeroValue tEntS).run Try.prog w = .ok (.agg #[.string ⟨#[]⟩, .int .i64 0]) w := by kernel_rfl
  have hzc : (Builtin.zeroCells #[.string ⟨#[]⟩, .int .i64 0] 1).toList = [.string ⟨#[]⟩, .int .i64 0] := by kernel_rfl
  simp [Builtin.clear_, run_underlying Try.underlying79, hz, hzc, storeCells, go_sem, h0, h1, hf]

/-- What Pop leaves. -/
def popR (R : ByteArray × Nat → ByteArray × Nat → Bool) (l : List (ByteArray × Nat)) : List (ByteArray × Nat) := if l = [] then [] else hp.popL R l

set_option maxRecDepth 100000 in
set_option maxHeartbeats 3200000 in
theorem Pop_calls {w : World} {b : Nat} {fl : FuncId} {lt : ByteArray → ByteArray → Bool} (hL : LessI fl lt) {l : List (ByteArray × Nat)} {turns : Nat} {v : Value} (h : HeapI w b (.func (.func fl) #[] #[]) l turns v) (hn : l.length ≤ 1099511627776) :
    Calls Try.prog 28 #[.pointer (some ⟨b, 0, none⟩)] w fun e w' => e = .returned (itB (peekR l)) ∧ ∃ v', HeapI w' b (.func (.func fl) #[] #[]) (popR (hp.ahead lt) l) turns v' ∧ Upd (b :: rowOf v) w w' ∧ Grow w (b :: rowOf v) (b :: rowOf v') := by
  have hP := Peek_calls h
  by_cases hl : l = []
  · subst hl
    rw [show peekR [] = (default, false) from rfl] at hP
    have HP := Lib.hid hP
    have H := Lib.hid h
    clear h hP
    rw [show peekR [] = (default, false) from rfl, show popR (hp.ahead lt) [] = [] from rfl]
    go_enter Try.func28, Try.ntmps28
    (repeat' (first | (go_big_may; fail) | go_values | go_skip | go_guarded | go_step | go_upon | go_back | dsimp only))
    refine HP.out.mono ?_
    rintro e w1 ⟨rfl, rfl⟩
    (repeat' (first | (go_big_may; fail) | go_values | go_skip | go_guarded | go_step | go_upon | go_back | dsimp only))
    go_ret2
    exact ⟨rfl, v, H.out, Upd.refl _ _, Grow.refl _ _⟩
  · have hlen : 0 < l.length := List.length_pos_iff.2 hl
    have hpk : peekR l = ((l.getD 0 default).1, true) := by unfold peekR; rw [if_neg hl]
    rw [hpk] at hP ⊢
    have hpop : popR (hp.ahead lt) l = hp.popL (hp.ahead lt) l := by unfold popR; rw [if_neg hl]
    rw [hpop]
    have HP := Lib.hid hP
    obtain ⟨g, cap, cur, hv, hg, hnc, hc, hs, ht⟩ := h.row hl
    subst hv
    unfold maxLen at hc
    have c1 := h.facts.c1
    generalize (l.getD 0 default).1 = x at *
    have H := Lib.hid h
    clear hP hpk h hg hs ht hpop
    generalize hml : l.length = m at *
    obtain ⟨n, rfl⟩ : ∃ n, m = n + 1 := ⟨m - 1, by omega⟩
    have HM := Lib.hid hml
    have hcn : ¬ cap = n := by omega
    clear hml
    go_enter Try.func28, Try.ntmps28
    (repeat' (first | (go_big_may; fail) | go_values | go_skip | go_guarded | go_step | go_upon | go_back | dsimp only))
    refine HP.out.mono ?_
    rintro e w1 ⟨rfl, rfl⟩
    (repeat' (first | (go_big_may; fail) | go_values | go_skip | go_guarded | go_step | go_upon | go_back | dsimp only))
    refine (swap_at H.out (i := 0) (j := n) (by rw [HM.out]; omega) (by rw [HM.out]; omega) _ _ rfl rfl).mono ?_
    rintro e w2 ⟨rfl, hh2, hu2⟩
    have hne2 : hp.swapL l 0 n ≠ [] := by intro e; have := congrArg List.length e; rw [hp.swapL_length, HM.out] at this; simp at this
    obtain ⟨g', cap', cur, hv, hg, _, _, hs, ht⟩ := hh2.row hne2
    rw [hp.swapL_length, HM.out] at hv
    cases hv
    obtain ⟨j0, j1⟩ := row_cells hg ht (i := n) (by rw [hp.swapL_length, HM.out]; omega)
    have k0 : ∀ k, w2.frozen? ⟨g, k, none⟩ = false := fun k => by simp [World.frozen?, hg]
    have c1' := hh2.facts.c1
    have f1' := hh2.facts.f1
    have hgb : g ≠ b := fun e => hh2.ne (by rw [mem_rowOf]; simp [Value.ownBlock, e])
    have HH2 := Lib.hid hh2
    have HU2 := Lib.hid hu2
    clear hh2 hu2 hg hs ht c1 hne2
    (repeat' (first | (go_big_may; (with_reducible (show wpList _ _ _ ({ dst := _, op := Op.call { callee := Callee.builtin Builtin.clear, args := _, argTypes := _ }, type := _, pos := _, after := _, guard := _ } :: _) _ _); go_must (refine wpList_clear rfl _ _ rfl (.slice (some ⟨g, n * 2, none⟩) 1 (cap - n)) rfl (clear_run j0 j1 k0) ?_))) | go_values | go_skip | go_guarded | go_step | go_upon | go_back | dsimp only))
    have hl2 : (hp.swapL l 0 n).length = n + 1 := by rw [hp.swapL_length, HM.out]
    have hh2 := HH2.out
    rw [← hl2] at hh2
    obtain ⟨hh3, hu3⟩ := cutW_heap hh2 (n := n) (by omega)
    rw [hl2] at hu3
    refine (sink_at hL hh3 (by rw [List.length_take]; omega) _ rfl).mono ?_
    rintro e w5 ⟨rfl, hh5, hu5⟩
    have hG : ∀ m c, rowOf (.slice (some ⟨g, 0, none⟩) m c) = [g] := fun m c => by simp [rowOf, Value.ownBlock]
    rw [hG] at hu3 hu5
    have hu2 := HU2.out
    rw [hG] at hu2
    have huA := (hu2.trans hu3 (Grow.refl _ _)).trans hu5 (Grow.refl _ _)
    have HH5 := Lib.hid hh5
    have HUA := Lib.hid huA
    clear hh2 hh3 hu3 hu5 hu2 huA hh5
    (repeat' (first | (go_big_may; fail) | go_values | go_skip | go_guarded | go_step | go_upon | go_back | dsimp only))
    go_ret2
    refine ⟨rfl, .slice (some ⟨g, 0, none⟩) n cap, ?_, by rw [hG]; exact HUA.out, by rw [hG, hG]; exact Grow.refl _ _⟩
    have e1 : hp.popL (hp.ahead lt) l = hp.sinkL (hp.ahead lt) ((hp.swapL l 0 n).take n) 0 := by
      unfold hp.popL; rw [HM.out]; rfl
    rw [e1]
    exact HH5.out

end Go.Proofs.Ytgahkodbjokgfaa.wd
