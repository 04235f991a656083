/- heap of texts: Len, Peek, Pop walked. -/
import Derived.Test.YtbmfaffnbjmipaaCuPush
namespace Go.Proofs.Ytbmfaffnbjmipaa.cu
open Go.RowKit

set_option maxHeartbeats 400000 in
theorem Len_calls {w : World} {b : Nat} {f : Value} {l : List (Cur × Nat)} {turns : Nat} {v : Value} (h : HeapI w b f l turns v) :
    Calls Try.prog 50 #[.pointer (some ⟨b, 0, none⟩)] w fun e w' => e = .returned (.int .i64 l.length) ∧ w = w' := by
  have c1 := h.facts.c1
  obtain ⟨ao, cap, hv, _, _⟩ := (RdRow.of_own h.2.1).shape
  rw [hv] at c1
  clear h hv
  go_enter Try.func50, Try.ntmps50
  (repeat' (first | (go_big_may; fail) | go_values | go_skip | go_guarded | go_step | go_upon | go_back | dsimp only))
  go_ret
  exact ⟨rfl, rfl⟩
theorem Len_nil (w : World) : Calls Try.prog 50 #[.pointer none] w fun e w' => e = .returned (.int .i64 0) ∧ w = w' := by
  go_enter Try.func50, Try.ntmps50
  (repeat' (first | (go_big_may; fail) | go_values | go_skip | go_guarded | go_step | go_upon | go_back | dsimp only))
  go_ret
  exact ⟨rfl, rfl⟩

/-- A text and a bool as a result. -/
abbrev itB (r : Cur × Bool) : Value := .tuple #[r.1.v, .bool r.2]
def peekR (l : List (Cur × Nat)) : Cur × Bool := if l = [] then (default, false) else ((l.getD 0 default).1, true)

set_option maxHeartbeats 800000 in
theorem Peek_calls {w : World} {b : Nat} {f : Value} {l : List (Cur × Nat)} {turns : Nat} {v : Value} (h : HeapI w b f l turns v) :
    Calls Try.prog 38 #[.pointer (some ⟨b, 0, none⟩)] w fun e w' => e = .returned (itB (peekR l)) ∧ Below w.heap.size w w' := by
  have hb := lt_of_heap h.1
  by_cases hl : l = []
  · subst hl
    have HL := Lib.hid (Len_calls (h.below ((Below.refl _ _).alloc (Nat.le_refl _) (.cells #[.slice none 0 0] 54))))
    clear h
    go_enter Try.func38, Try.ntmps38
    (repeat' (first | (go_big_may; fail) | go_values | go_skip | go_guarded | go_step | go_upon | go_back | dsimp only))
    refine HL.out.mono ?_
    rintro e w' ⟨rfl, rfl⟩
    (repeat' (first | (go_big_may; fail) | go_values | go_skip | go_guarded | go_step | go_upon | go_back | dsimp only))
    exact bodyPost_ret (v := itB (default, false)) (by simp [results, Try.results38, go_sem]; exact ⟨rfl, rfl, rfl⟩) rfl ⟨rfl, ((Below.refl _ _).alloc (Nat.le_refl _) _).alloc (by simp) _⟩
  · obtain ⟨g, cap, cur, rfl, hg, hn, hc, hs, ht⟩ := h.row hl
    have hlen : 0 < l.length := List.length_pos_iff.2 hl
    obtain ⟨i0, i1⟩ := row_cells hg ht hlen
    have hp : peekR l = ((l.getD 0 default).1, true) := by unfold peekR; rw [if_neg hl]
    rw [hp]
    have c1 := h.facts.c1
    have hgs := lt_of_heap hg
    have hne : ((l.length : Int) == 0) = false := by rw [beq_eq_false_iff_ne]; omega
    have HL := Lib.hid (Len_calls (h.below ((Below.refl _ _).alloc (Nat.le_refl _) (.cells #[.slice none 0 0] 54))))
    generalize l.getD 0 default = x at *
    simp only [Nat.zero_mul, Nat.zero_add] at i0 i1
    clear h hg ht hs hl hp
    go_enter Try.func38, Try.ntmps38
    (repeat' (first | (go_big_may; fail) | go_values | go_skip | go_guarded | go_step | go_upon | go_back | dsimp only))
    refine HL.out.mono ?_
    rintro e w' ⟨rfl, rfl⟩
    (repeat' (first | (go_big_may; fail) | go_values | go_skip | go_guarded | go_step | go_upon | go_back | dsimp only))
    exact bodyPost_ret (v := itB (x.1, true)) (by simp [results, Try.results38, go_sem]) rfl ⟨rfl, (Below.refl _ _).alloc (Nat.le_refl _) _⟩

/-- The last entry cleared, the list one shorter. -/
def cutW (w : World) (b g n cap : Nat) : World :=
  ((w.setCell ⟨g, n * 2, none⟩ (.slice none 0 0)).setCell ⟨g, n * 2 + 1, none⟩ (.int .i64 0)).setCell ⟨b, 1, none⟩ (.slice (some ⟨g, 0, none⟩) n cap)

theorem flatI_take (l : List (Cur × Nat)) (n : Nat) : flatI (l.take n) = (flatI l).take (n * 2) := by
  induction l generalizing n with
  | nil => simp [flatI]
  | cons e l ih =>
    cases n with
    | zero => simp [flatI]
    | succ n =>
      have h1 : flatI (e :: l) = entI e ++ flatI l := by simp [flatI]
      have h2 : flatI (e :: l.take n) = entI e ++ flatI (l.take n) := by simp [flatI]
      rw [List.take_succ_cons, h1, h2, ih, show (n + 1) * 2 = 2 + n * 2 from by omega, List.take_append, List.take_of_length_le (l := entI e) (by simp)]
      congr 2
      simp

theorem cutW_heap {w : World} {b g n cap : Nat} {f : Value} {l : List (Cur × Nat)} {turns : Nat} (h : HeapI w b f l turns (.slice (some ⟨g, 0, none⟩) l.length cap)) (hn : n < l.length) :
    HeapI (cutW w b g n cap) b f (l.take n) turns (.slice (some ⟨g, 0, none⟩) n cap) ∧ Upd (b :: rowOf (.slice (some ⟨g, 0, none⟩) l.length cap)) w (cutW w b g n cap) := by
  have hne : l ≠ [] := by intro e; subst e; simp at hn
  obtain ⟨g', cap', cur, hv, hg, hnc, hc, hs, ht⟩ := h.row hne
  cases hv
  have hgb : g ≠ b := fun e => h.ne (by rw [mem_rowOf]; simp [Value.ownBlock, e])
  have hl : (l.take n).length = n := by rw [List.length_take]; omega
  have hgm : g ∈ b :: rowOf (.slice (some ⟨g, 0, none⟩) l.length cap) := by simp [rowOf, Value.ownBlock]
  have hmt : ∀ e ∈ l.take n, e ∈ l := fun e he => List.mem_of_mem_take he
  have hupd : Upd (b :: rowOf (.slice (some ⟨g, 0, none⟩) l.length cap)) w (cutW w b g n cap) := (((Upd.refl _ w).setCell (p := ⟨g, n * 2, none⟩) (.inl hgm) _).setCell (p := ⟨g, n * 2 + 1, none⟩) (.inl hgm) _).setCell (p := ⟨b, 1, none⟩) (.inl (by simp)) _
  refine ⟨⟨?_, ?_, ((h.2.2.own hupd).sub hmt).keep (by simp [rowOf, Value.ownBlock])⟩, hupd⟩
  · unfold cutW
    refine heap_setCell (o := 1) (cs := #[f, .slice (some ⟨g, 0, none⟩) l.length cap, .int .i64 turns]) (T := tHeapC) ?_ _
    iterate 2 rw [Below.heap_setCell _ _ _ _ (fun e => hgb e.symm)]
    exact h.1
  · refine ⟨by rw [flatI_length], .inr ⟨g, cap, (cur.setIfInBounds (n * 2) (.slice none 0 0)).setIfInBounds (n * 2 + 1) (.int .i64 0), by rw [hl], Nat.zero_le _, ?_, by omega, hc, by simpa using hs, ?_⟩⟩
    · unfold cutW
      rw [Below.heap_setCell _ _ _ _ hgb]
      exact heap_setCell (heap_setCell hg _) _
    · rw [hl, flatI_take, ← ht]
      apply List.ext_getElem?
      intro k
      simp only [List.getElem?_take, Array.getElem?_toList, Array.getElem?_setIfInBounds]
      by_cases hk : k < n * 2
      · rw [if_pos hk, if_neg (by omega), if_neg (by omega), if_pos hk, if_pos (by omega)]
      · rw [if_neg hk, if_neg hk]

theorem sink_at {w : World} {b : Nat} {fl : FuncId} {lt : Cur → Cur → Bool} (hL : LessI fl lt) {l : List (Cur × Nat)} {turns : Nat} {v : Value} (h : HeapI w b (.func (.func fl) #[] #[]) l turns v) (hn : l.length ≤ 4611686018427387) (z : Int) (hz : z = 0) :
    Calls Try.prog 51 #[.pointer (some ⟨b, 0, none⟩), .int .i64 z] w fun e w' => e = .returned (.tuple #[]) ∧ HeapI w' b (.func (.func fl) #[] #[]) (hp.sinkL (hp.ahead lt) l 0) turns v ∧ Upd (b :: rowOf v) w w' := by
  subst hz
  refine sink_calls hL h ?_ (Nat.zero_le _) hn
  by_cases hl : l = []
  · exact .inr hl
  · exact .inl (List.length_pos_iff.2 hl)

theorem clear_run {w : World} {g o c : Nat} {a0 a1 : Value} (h0 : w.cell? ⟨g, o, none⟩ = some a0) (h1 : w.cell? ⟨g, o + 1, none⟩ = some a1) (hf : ∀ k, w.frozen? ⟨g, k, none⟩ = false) :
    (Builtin.clear_ #[67] 0 #[.slice (some ⟨g, o, none⟩) 1 c]).run Try.prog w = .ok (.tuple #[]) ((w.setCell ⟨g, o, none⟩ (.slice none 0 0)).setCell ⟨g, o + 1, none⟩ (.int .i64 0)) := by
  have hz : (zeroValue tEntC).run Try.prog w = .ok (.agg #[.slice none 0 0, .int .i64 0]) w := by kernel_rfl
  have hzc : (Builtin.zeroCells #[.slice none 0 0, .int .i64 0] 1).toList = [.slice none 0 0, .int .i64 0] := by kernel_rfl
  simp [Builtin.clear_, run_underlying Try.underlying67, hz, hzc, storeCells, go_sem, h0, h1, hf]

/-- What is left behind a pop was there. -/
theorem hp_pop_sub {R : Cur × Nat → Cur × Nat → Bool} {l : List (Cur × Nat)} {n : Nat} {e : Cur × Nat} (he : e ∈ hp.sinkL R ((hp.swapL l 0 n).take n) 0) (hn : n < l.length) : e ∈ l := by
  have h1 : e ∈ (hp.swapL l 0 n).take n := (hp.sinkL_perm R ((hp.swapL l 0 n).take n) 0 (by by_cases h0 : (hp.swapL l 0 n).take n = []; exact .inr h0; exact .inl (List.length_pos_iff.2 h0))).mem_iff.1 he
  have h2 := List.mem_of_mem_take h1
  exact (hp.swapL_perm (by omega) hn).mem_iff.1 h2
/-- A variable of the call's own, behind calls that leave it alone. -/
theorem slot_kept {w W W' : World} {a : Value} {T : TypeId} {fp : List Nat} (hW : W.heap[w.heap.size]? = some (.cells #[a] T (0, 0))) (hu : Upd fp W W') (hf : w.heap.size ∉ fp) : W'.heap[w.heap.size]? = some (.cells #[a] T (0, 0)) := by
  rw [hu.block _ (lt_of_heap hW) hf]; exact hW
theorem slot_facts {W : World} {k : Nat} {a : Value} {T : TypeId} (h : W.heap[k]? = some (.cells #[a] T (0, 0))) : W.cell? ⟨k, 0, none⟩ = some a ∧ W.frozen? ⟨k, 0, none⟩ = false ∧ k < W.heap.size := by
  refine ⟨by simp [World.cell?, h], by simp [World.frozen?, h], lt_of_heap h⟩

/-- What Pop leaves. -/
def popR (R : Cur × Nat → Cur × Nat → Bool) (l : List (Cur × Nat)) : List (Cur × Nat) := if l = [] then [] else hp.popL R l

set_option maxRecDepth 100000 in
set_option maxHeartbeats 3200000 in
theorem Pop_calls {w : World} {b : Nat} {fl : FuncId} {lt : Cur → Cur → Bool} (hL : LessI fl lt) {l : List (Cur × Nat)} {turns : Nat} {v : Value} (h : HeapI w b (.func (.func fl) #[] #[]) l turns v) (hn : l.length ≤ 1099511627776) :
    Calls Try.prog 40 #[.pointer (some ⟨b, 0, none⟩)] w fun e w' => e = .returned (itB (peekR l)) ∧ ∃ v', HeapI w' b (.func (.func fl) #[] #[]) (popR (hp.ahead lt) l) turns v' ∧ Upd (b :: rowOf v) w w' ∧ Grow w (b :: rowOf v) (b :: rowOf v') := by
  have hba : Below w.heap.size w (w.alloc (.cells #[.slice none 0 0] 54)) := (Below.refl _ _).alloc (Nat.le_refl _) _
  have hh := h.below hba
  by_cases hl : l = []
  · subst hl
    have hP := Peek_calls hh
    rw [show peekR [] = (default, false) from rfl] at hP
    have HP := Lib.hid hP
    have H := Lib.hid h
    clear h hP
    rw [show peekR [] = (default, false) from rfl, show popR (hp.ahead lt) [] = [] from rfl]
    go_enter Try.func40, Try.ntmps40
    (repeat' (first | (go_big_may; fail) | go_values | go_skip | go_guarded | go_step | go_upon | go_back | dsimp only))
    refine HP.out.mono ?_
    rintro e w1 ⟨rfl, hb1⟩
    have hs1 := slot_kept (w := w) (heap_alloc_new w _) (Upd.of_below hb1 []) (by simp)
    obtain ⟨z0, y0, hsz⟩ := slot_facts hs1
    have HB := Lib.hid (hba.trans (hb1.mono hba.size))
    clear hh hba hb1 hs1
    (repeat' (first | (go_big_may; fail) | go_values | go_skip | go_guarded | go_step | go_upon | go_back | dsimp only))
    have hu := (((Upd.of_below HB.out []).setCell (p := ⟨w.heap.size, 0, none⟩) (.inr (Nat.le_refl _)) (.slice none 0 0)).alloc (.cells #[.slice none 0 0] 54))
    refine bodyPost_ret (v := itB (default, false)) (by simp [results, Try.results40, go_sem, z0, hsz]) rfl ⟨rfl, v, H.out.upd (fp := []) hu (by simp) (by simp), hu.mono (by simp), Grow.refl _ _⟩
  · have hlen : 0 < l.length := List.length_pos_iff.2 hl
    have hP := Peek_calls hh
    have hpk : peekR l = ((l.getD 0 default).1, true) := by unfold peekR; rw [if_neg hl]
    rw [hpk] at hP ⊢
    have hpop : popR (hp.ahead lt) l = hp.popL (hp.ahead lt) l := by unfold popR; rw [if_neg hl]
    rw [hpop]
    have HP := Lib.hid hP
    have H := Lib.hid h
    obtain ⟨g, cap, cur, hv, hg, hnc, hc, hs, ht⟩ := h.row hl
    subst hv
    have hc0 := hc
    unfold maxLen at hc
    generalize (l.getD 0 default).1 = x at *
    have HW0 := Lib.hid (fun e (he : e ∈ l) a (ha : e.1.a = some a) => (h.2.2 e he).1.lt a ha)
    clear hP hpk h hg hs ht hpop
    generalize hml : l.length = m at *
    obtain ⟨n, rfl⟩ : ∃ n, m = n + 1 := ⟨m - 1, by omega⟩
    have HM := Lib.hid hml
    have hbs := lt_of_heap H.out.1
    have hgs := H.out.lt g (by simp [rowOf, Value.ownBlock])
    have hcn : ¬ cap = n := by omega
    clear hml
    go_enter Try.func40, Try.ntmps40
    (repeat' (first | (go_big_may; fail) | go_values | go_skip | go_guarded | go_step | go_upon | go_back | dsimp only))
    refine HP.out.mono ?_
    rintro e w1 ⟨rfl, hb1⟩
    have hs1 := slot_kept (w := w) (heap_alloc_new w _) (Upd.of_below hb1 []) (by simp)
    have hh1 := (hh.below hb1).below ((Below.refl _ _).alloc (Nat.le_refl _) (.cells #[.slice x.a x.n x.c] 54))
    have hu1 := (Upd.of_below (hba.trans (hb1.mono hba.size)) []).alloc (.cells #[.slice x.a x.n x.c] 54)
    have c1 := hh1.facts.c1
    have HB := Lib.hid (hba.trans (hb1.mono hba.size))
    have HH1 := Lib.hid hh1
    have HU1 := Lib.hid hu1
    have hbw1 := lt_of_heap hh1.1
    have hsz1 := lt_of_heap hs1
    have HS1 := Lib.hid hs1
    clear hh hh1 hu1 hs1 hba hb1
    (repeat' (first | (go_big_may; fail) | go_values | go_skip | go_guarded | go_step | go_upon | go_back | dsimp only))
    have hx1 := heap_alloc_new w1 (.cells #[.slice x.a x.n x.c] 54)
    have hs1 : (w1.alloc (.cells #[.slice x.a x.n x.c] 54)).heap[w.heap.size]? = some (.cells #[.slice none 0 0] 54 (0, 0)) := by
      rw [heap_alloc_old _ _ hsz1]; exact HS1.out
    have hxs : w.heap.size ≤ w1.heap.size := HB.out.size
    generalize w1.alloc (.cells #[.slice x.a x.n x.c] 54) = Wa at *
    generalize w1.heap.size = p at *
    have HX1 := Lib.hid hx1
    have HS2 := Lib.hid hs1
    clear hx1 hs1 HS1 HB hbw1
    refine (swap_at HH1.out (i := 0) (j := n) (by rw [HM.out]; omega) (by rw [HM.out]; omega) _ _ rfl rfl).mono ?_
    rintro e w2 ⟨rfl, hh2, hu2⟩
    have hne2 : hp.swapL l 0 n ≠ [] := by intro e; have := congrArg List.length e; rw [hp.swapL_length, HM.out] at this; simp at this
    obtain ⟨g', cap', cur, hv, hg, _, _, hs, ht⟩ := hh2.row hne2
    rw [hp.swapL_length, HM.out] at hv
    cases hv
    obtain ⟨j0, j1⟩ := row_cells hg ht (i := n) (by rw [hp.swapL_length, HM.out]; omega)
    have k0 : ∀ k, w2.frozen? ⟨g, k, none⟩ = false := fun k => by simp [World.frozen?, hg]
    have c1' := hh2.facts.c1
    have f1' := hh2.facts.f1
    have hgb : g ≠ b := fun e => hh2.ne (by rw [mem_rowOf]; simp [Value.ownBlock, e])
    have HH2 := Lib.hid hh2
    have HU2 := Lib.hid hu2
    clear hh2 hu2 hg hs ht c1 hne2
    (repeat' (first | (go_big_may; (with_reducible (show wpList _ _ _ ({ dst := _, op := Op.call { callee := Callee.builtin Builtin.clear, args := _, argTypes := _ }, type := _, pos := _, after := _, guard := _ } :: _) _ _); go_must (refine wpList_clear rfl _ _ rfl (.slice (some ⟨g, n * 2, none⟩) 1 (cap - n)) rfl (clear_run j0 j1 k0) ?_))) | go_values | go_skip | go_guarded | go_step | go_upon | go_back | dsimp only))
    have hl2 : (hp.swapL l 0 n).length = n + 1 := by rw [hp.swapL_length, HM.out]
    have hh2 := HH2.out
    rw [← hl2] at hh2
    obtain ⟨hh3, hu3⟩ := cutW_heap hh2 (n := n) (by omega)
    rw [hl2] at hu3
    refine (sink_at hL hh3 (by rw [List.length_take]; omega) _ rfl).mono ?_
    rintro e w5 ⟨rfl, hh5, hu5⟩
    have hG : ∀ m c, rowOf (.slice (some ⟨g, 0, none⟩) m c) = [g] := fun m c => by simp [rowOf, Value.ownBlock]
    rw [hG] at hu3 hu5
    have hu2 := HU2.out
    rw [hG] at hu2
    have huA := (hu2.trans hu3 (Grow.refl _ _)).trans hu5 (Grow.refl _ _)
    have hx5 : w5.heap[p]? = some (.cells #[.slice x.a x.n x.c] 54 (0, 0)) := by
      rw [huA.block p (lt_of_heap HX1.out) (by simp; omega)]; exact HX1.out
    have hs5 : w5.heap[w.heap.size]? = some (.cells #[.slice none 0 0] 54 (0, 0)) := by
      rw [huA.block _ (lt_of_heap HS2.out) (by simp; omega)]; exact HS2.out
    obtain ⟨x0, _, _⟩ := slot_facts hx5
    obtain ⟨z0, y0, hsz⟩ := slot_facts hs5
    have huW : Upd (b :: [g]) w w5 := (HU1.out.mono (fp' := b :: [g]) (by simp)).trans huA (Grow.refl _ _)
    have HH5 := Lib.hid hh5
    have HUW := Lib.hid huW
    clear hh2 hh3 hu3 hu5 hu2 huA hx5 hs5 hh5 huW
    (repeat' (first | (go_big_may; fail) | go_values | go_skip | go_guarded | go_step | go_upon | go_back | dsimp only))
    have huF := HUW.out.setCell (p := ⟨w.heap.size, 0, none⟩) (.inr (Nat.le_refl _)) (.slice x.a x.n x.c)
    refine bodyPost_ret (v := itB (x, true)) (by simp [results, Try.results40, go_sem, z0]) rfl ⟨rfl, .slice (some ⟨g, 0, none⟩) n cap, ?_, by rw [hG]; exact huF, by rw [hG, hG]; exact Grow.refl _ _⟩
    · have e1 : hp.popL (hp.ahead lt) l = hp.sinkL (hp.ahead lt) ((hp.swapL l 0 n).take n) 0 := by
        unfold hp.popL; rw [HM.out]; rfl
      rw [e1]
      refine HH5.out.of_block (fun k hk => ?_) fun e he a ha => ?_
      · have hk' : k ≠ w.heap.size := by
          rw [hG] at hk
          simp at hk
          omega
        rw [Below.heap_setCell _ _ _ _ hk']
      · have := HW0.out e (hp_pop_sub he (by rw [HM.out]; omega)) a ha
        rw [Below.heap_setCell _ _ _ _ (show a.block ≠ w.heap.size by omega)]

end Go.Proofs.Ytbmfaffnbjmipaa.cu
