/- heap of texts: Push walked. · heap of texts: Len, Peek, Pop walked. · heap of cursors: Replace walked. · heap of texts: New, Words; the less; what the heap answers, told of the list in the order of coming in. -/
import Derived.Test.YtgeabmmicofanaaGreatDoorBuSpLaw33
import Derived.Test.YtgeabmmicofanaaGreatDoorBuSpLaw03
import Derived.Deep.RegionLaw
import Derived.WalkLawsBesides
set_option linter.unusedSimpArgs false
set_option linter.unusedVariables false
namespace Go.Proofs.YtgeabmmicofanaaGreatDoor.cu
open Go.RowKit

theorem info_entI : (Tryz.prog.info? tEntC).map (fun i => (i.zero, i.size, i.bytes)) = some (some (.agg #[.slice none 0 0, .int .i64 0]), 2, 32) := by kernel_rfl

theorem entI_oneCell (a : Cur) (z : Int) : ∀ u ∈ (#[.slice a.a a.n a.c, .int .i64 z] : Array Value).toList, u.oneCell' = true := by
  intro u hu
  simp only [List.mem_cons, List.not_mem_nil, or_false] at hu
  rcases hu with rfl | rfl <;> rfl

/-- One entry more at the end of the list, the list stored back. -/
theorem push_run {w : World} {b : Nat} {f : Value} {l : List (Cur × Nat)} {turns : Nat} {v : Value} (h : HeapI w b f l turns v) (e : Cur × Nat) (hlv : Live w e.1) (hnb : ∀ a, e.1.a = some a → a.block ∉ b :: rowOf v) (z : Int) (hz : z = (e.2 : Int)) (hn : l.length ≤ 1099511627776) :
    ∃ ao cap w2, (Builtin.append_ #[108, 108] 108 #[v, .slice (some ⟨w.heap.size, 0, none⟩) 1 1]).run Tryz.prog (w.alloc (.cells #[.slice e.1.a e.1.n e.1.c, .int .i64 z] tEntC)) = .ok (.slice ao (l.length + 1) cap) w2 ∧
      w2.cell? ⟨b, 1, none⟩ = some v ∧ w2.frozen? ⟨b, 1, none⟩ = false ∧ HeapI (w2.setCell ⟨b, 1, none⟩ (.slice ao (l.length + 1) cap)) b f (l ++ [e]) turns (.slice ao (l.length + 1) cap) ∧
      Upd (b :: rowOf v) w (w2.setCell ⟨b, 1, none⟩ (.slice ao (l.length + 1) cap)) ∧ Grow w (b :: rowOf v) (b :: rowOf (.slice ao (l.length + 1) cap)) := by
  subst hz
  obtain ⟨ao, cap, w2, h1, h2, h3, _, h5, h6, h7, h8⟩ := field_push_run (P := Tryz.prog) 108 108 tEntC Tryz.underlying108 info_entI rfl (by decide) h.1 (o := 1) (v := v) rfl (by decide) h.2.1
    (C := #[.slice e.1.a e.1.n e.1.c, .int .i64 e.2]) (m := 1) rfl (entI_oneCell _ _) (by decide) (by unfold maxLen; omega) (by omega)
  exact ⟨ao, cap, w2, h1, h2, h3, ⟨h5, by simpa [flatI] using h6, LiveL.snoc (h.2.2.grow h7 h8 (fun e he => h.base e he)) (hlv.block fun a ha => h7.block _ (hlv.lt a ha) (hnb a ha)) fun a ha hm => (h8 _ hm).elim (hnb a ha) fun h9 => by have := hlv.lt a ha; omega⟩, h7, h8⟩

theorem enters_enter : ∀ xs w, (callFunc 61 xs).run Tryz.prog w = .ok (.enter 61 xs) w :=
  enters_fn Tryz.func61 (by kernel_rfl) rfl

/-- Cursors as cells. -/
def cellsC (xs : List Cur) : List Value := xs.map fun x => .slice x.a x.n x.c
theorem cur_at {w : World} {v : Value} {n : Nat} {xs : List Cur} (h : RdRow w v n 1 (cellsC xs)) {i : Nat} (hi : i < xs.length) :
    ∃ b off cap, v = .slice (some ⟨b, off, none⟩) n cap ∧ w.cell? ⟨b, off + i, none⟩ = some (.slice (xs.getD i default).a (xs.getD i default).n (xs.getD i default).c) := by
  obtain ⟨_, a, cap, rfl, _, _, hc⟩ := h
  obtain ⟨b, off, rfl, h0⟩ := hc i (.slice (xs.getD i default).a (xs.getD i default).n (xs.getD i default).c) (by simp [cellsC, List.getD_eq_getElem?_getD, hi])
  exact ⟨b, off, cap, rfl, h0⟩

/-- Pushed one after another. -/
def pushL (R : Cur × Nat → Cur × Nat → Bool) : List (Cur × Nat) → Nat → List Cur → List (Cur × Nat)
  | l, _, [] => l
  | l, n, x :: xs => pushL R (hp.riseL R (l ++ [(x, n + 1)]) l.length) (n + 1) xs
theorem pushL_holds {lt : Cur → Cur → Bool} (hlt : hp.Ord lt) : ∀ (xs : List Cur) (l : List (Cur × Nat)) (n : Nat) (L : List Cur), hp.Holds lt l n L → hp.Holds lt (pushL (hp.ahead lt) l n xs) (n + xs.length) (L ++ xs)
  | [], l, n, L, h => by simpa [pushL] using h
  | x :: xs, l, n, L, h => by
    have := pushL_holds hlt xs _ _ _ (h.push hlt x)
    rw [pushL]
    simpa [Nat.add_assoc, Nat.add_comm 1] using this

theorem rise_at {w : World} {b : Nat} {fl : FuncId} {lt : Cur → Cur → Bool} (hL : LessI fl lt) {l : List (Cur × Nat)} {turns : Nat} {v : Value} (h : HeapI w b (.func (.func fl) #[] #[]) l turns v) {i : Nat} (hi : i < l.length) (hn : l.length ≤ 4611686018427387904) (zi : Int) (ei : zi = i) :
    Calls Tryz.prog 62 #[.pointer (some ⟨b, 0, none⟩), .int .i64 zi] w fun e w' => e = .returned (.tuple #[]) ∧ HeapI w' b (.func (.func fl) #[] #[]) (hp.riseL (hp.ahead lt) l i) turns v ∧ Upd (b :: rowOf v) w w' := by
  subst ei; exact rise_calls hL h hi hn

/-- The loop of Push: k items are in. -/
def PushAt (w : World) (b : Nat) (f : Value) (R : Cur × Nat → Cur × Nat → Bool) (l0 : List (Cur × Nat)) (t0 : Nat) (v0 : Value) (xs : List Cur) (k : Nat) (wr : World) : Prop :=
  k ≤ xs.length ∧ ∃ l v, HeapI wr b f l (t0 + k) v ∧ l.length = l0.length + k ∧ pushL R l (t0 + k) (xs.drop k) = pushL R l0 t0 xs ∧ Upd (b :: rowOf v0) w wr ∧ Grow w (b :: rowOf v0) (b :: rowOf v)

set_option maxRecDepth 100000 in
set_option maxHeartbeats 3200000 in
theorem Push_calls {w : World} {b : Nat} {fl : FuncId} {lt : Cur → Cur → Bool} (hL : LessI fl lt) {l : List (Cur × Nat)} {turns : Nat} {v : Value} (h : HeapI w b (.func (.func fl) #[] #[]) l turns v)
    {xs : List Cur} {vx : Value} (hx : RdRow w vx xs.length 1 (cellsC xs)) (hdx : ∀ k off c, vx = .slice (some ⟨k, off, none⟩) xs.length c → xs ≠ [] → k ∉ b :: rowOf v) (hxl : ∀ x ∈ xs, Live w x ∧ ∀ a, x.a = some a → a.block ∉ b :: rowOf v) (hn : l.length + xs.length ≤ 1099511627776) (ht : turns + xs.length ≤ 1099511627776) :
    Calls Tryz.prog 39 #[.pointer (some ⟨b, 0, none⟩), vx] w fun e w' => e = .returned (.tuple #[]) ∧ ∃ v', HeapI w' b (.func (.func fl) #[] #[]) (pushL (hp.ahead lt) l turns xs) (turns + xs.length) v' ∧ Upd (b :: rowOf v) w w' ∧ Grow w (b :: rowOf v) (b :: rowOf v') := by
  obtain ⟨a, cap, rfl, hc1, hc2⟩ := hx.shape
  unfold maxLen at hc2
  have h0 : PushAt w b (.func (.func fl) #[] #[]) (hp.ahead lt) l turns v xs 0 w := ⟨Nat.zero_le _, l, v, h, rfl, rfl, Upd.refl _ _, Grow.refl _ _⟩
  have HX := Lib.hid hx
  have HDX := Lib.hid hdx
  have HXL := Lib.hid hxl
  clear h hx hdx hxl
  go_enter Tryz.func39, Tryz.ntmps39
  (repeat' (first | (go_big_may; fail) | go_values | go_skip | go_guarded | go_step | go_upon | go_back | dsimp only))
  go_loopw [10] (fun x wr => ∃ k : Nat, x = .int .i64 k ∧ PushAt w b (.func (.func fl) #[] #[]) (hp.ahead lt) l turns v xs k wr) (fun x _ => xs.length - (intOf x).toNat)
  case atStart => exact ⟨0, rfl, h0⟩
  case round =>
    obtain ⟨k, rfl, hk, lr, vr, hh, hlen, hgo, hup, hgr⟩ := hrel
    clear h0
    by_cases hlt : k < xs.length
    · obtain ⟨bx, off, cp, hsl, hx0⟩ := cur_at HX.out hlt
      cases hsl
      have hbx : bx < w.heap.size := World.block_lt_of_cell? w _ hx0
      have hnx : bx ∉ b :: rowOf v := HDX.out bx off cap rfl (by rintro rfl; simp at hlt)
      have y0 : wr.cell? ⟨bx, off + k, none⟩ = some (.slice (xs.getD k default).a (xs.getD k default).n (xs.getD k default).c) := by
        rw [World.cell?_of_block (w := w) (hup.block bx hbx hnx)]; exact hx0
      have hdrop : xs.drop k = xs.getD k default :: xs.drop (k + 1) := by
        rw [List.drop_eq_getElem_cons hlt]; simp [List.getD_eq_getElem?_getD, hlt]
      rw [hdrop] at hgo
      have hxk := HXL.out (xs.getD k default) (by rw [List.getD_eq_getElem?_getD, List.getElem?_eq_getElem hlt]; exact List.getElem_mem hlt)
      generalize xs.getD k default = x at *
      have hlv1 : Live wr x := hxk.1.block fun a ha => hup.block _ (hxk.1.lt a ha) (hxk.2 a ha)
      have hnb1 : ∀ a, x.a = some a → a.block ∉ b :: rowOf vr := fun a ha hm => by
        rcases hgr _ hm with h9 | h9
        · exact hxk.2 a ha h9
        · have := hxk.1.lt a ha; omega
      have HLV := Lib.hid hlv1
      have HNB := Lib.hid hnb1
      clear hxk hlv1 hnb1
      have HG := Lib.hid hgo
      have HN := Lib.hid hlen
      have hll : lr.length ≤ 1099511627776 := by omega
      have hbs := lt_of_heap hh.1
      have hbw : bx < wr.heap.size := by have := hup.size; omega
      clear hgo hlen hdrop hx0
      have hi1 : (0 : Int) ≤ k := by omega
      have hi2 : (k : Int) < xs.length := by omega
      have htk : turns + k < 9223372036854775807 := by omega
      (repeat' (first | (go_big_may; fail) | go_values | go_skip | go_guarded | go_step | go_upon | go_back | dsimp only))
      have hba : Below wr.heap.size wr (wr.alloc (.cells #[.slice x.a x.n x.c] 75)) := (Below.refl _ _).alloc (Nat.le_refl _) _
      have hh0 := hh.below hba
      have hu0 := hup.trans (Upd.of_below hba []) (Grow.nil _ _)
      have hlv2 := HLV.out.below hba
      have z0 : (wr.alloc (.cells #[.slice x.a x.n x.c] 75)).cell? ⟨wr.heap.size, 0, none⟩ = some (.slice x.a x.n x.c) := by rw [World.cell?_alloc_at _ _ _ _ rfl]; rfl
      generalize wr.alloc (.cells #[.slice x.a x.n x.c] 75) = W0 at *
      generalize hps : wr.heap.size = p at z0 ⊢
      have HLV2 := Lib.hid hlv2
      clear hps hba hh hup y0 hbw hbs HLV hlv2
      have c1 := hh0.facts.c1
      have HH0 := Lib.hid hh0
      have HU0 := Lib.hid hu0
      have HGR := Lib.hid hgr
      clear hh0 hu0 hgr
      go_region_law (first | (refine step_append_run rfl _ _ 108 rfl _ _ rfl rfl hrun ?_) | (refine step_call_fn rfl 61 _ _ rfl enters_enter [.pointer (some ⟨b, 0, none⟩), x.v] rfl ?_; refine (enter_calls (h := HH0.out.drew) x htk).mono ?_; rintro e w1 ⟨rfl, hh1, hu1⟩; dsimp only; obtain ⟨ao, cp2, w2, hrun, d1, e1, hh3, hu3, hg3⟩ := push_run hh1 (x, turns + k + 1) (HLV2.out.drew.upd hu1 fun a ha hm => HNB.out a ha (by simp at hm; simp [hm])) HNB.out ((turns : Int) + k + 1) (by simp) hll; dsimp only at hrun; have c1w := hh1.facts.c1; have hbw1 := lt_of_heap hh1.1; have HH3 := Lib.hid hh3; have HU1 := Lib.hid hu1; have HU3 := Lib.hid hu3; have HG3 := Lib.hid hg3; clear hh1 hh3 hu1 hu3 hg3))
      all_goals
        have hh3 := HH3.out
        have hu3 := HU3.out
        have hg3 := HG3.out
        have hu1 := HU1.out
        clear HH3 HU3 HG3 HU1 HH0 c1 c1w hrun d1 e1
        generalize w2.setCell ⟨b, 1, none⟩ (.slice ao (lr.length + 1) cp2) = W3 at *
        have c1 := hh3.facts.c1
        have HH3 := Lib.hid hh3
        have HU3 := Lib.hid hu3
        have HG3 := Lib.hid hg3
        have HU1 := Lib.hid hu1
        clear hh3 hu3 hg3 hu1
        (repeat' (first | (go_big_may; fail) | go_values | go_skip | go_guarded | go_step | go_upon | go_back | dsimp only))
        refine (rise_at hL HH3.out (i := lr.length) (by simp) (by simp; omega) _ rfl).mono ?_
        rintro e w4 ⟨rfl, hh4, hu4⟩
        (repeat' (first | (go_big_may; fail) | go_values | go_skip | go_guarded | go_step | go_upon | go_back | dsimp only))
        go_roundw
        case rel =>
          refine ⟨k + 1, by go_num, hlt, _, _, hh4, ?_, HG.out, ?_, ?_⟩
          · rw [hp.riseL_length]; have := HN.out; simp; omega
          · exact ((HU0.out.trans HU1.out.of_drew Grow.head).trans HU3.out (HGR.out.trans (Grow.refl _ _) (Nat.le_refl _))).trans hu4 (HGR.out.trans HG3.out (Nat.le_trans HU0.out.size HU1.out.size))
          · exact HGR.out.trans HG3.out (Nat.le_trans HU0.out.size HU1.out.size)
        case measure => simp [intOf] <;> omega
    · have hke : k = xs.length := by omega
      subst hke
      have hd : xs.drop xs.length = [] := by simp
      rw [hd] at hgo
      (repeat' (first | (go_big_may; fail) | go_values | go_skip | go_guarded | go_step | go_upon | go_back | dsimp only))
      go_end0
      exact ⟨rfl, vr, by rw [← hgo]; exact hh, hup, hgr⟩

end Go.Proofs.YtgeabmmicofanaaGreatDoor.cu
namespace Go.Proofs.YtgeabmmicofanaaGreatDoor.cu
open Go.RowKit

set_option maxHeartbeats 400000 in
theorem Len_calls {w : World} {b : Nat} {f : Value} {l : List (Cur × Nat)} {turns : Nat} {v : Value} (h : HeapI w b f l turns v) :
    Calls Tryz.prog 63 #[.pointer (some ⟨b, 0, none⟩)] w fun e w' => e = .returned (.int .i64 l.length) ∧ w = w' := by
  have c1 := h.facts.c1
  obtain ⟨ao, cap, hv, _, _⟩ := (RdRow.of_own h.2.1).shape
  rw [hv] at c1
  clear h hv
  go_enter Tryz.func63, Tryz.ntmps63
  (repeat' (first | (go_big_may; fail) | go_values | go_skip | go_guarded | go_step | go_upon | go_back | dsimp only))
  go_ret
  exact ⟨rfl, rfl⟩
/-- A text and a bool as a result. -/
abbrev itB (r : Cur × Bool) : Value := .tuple #[r.1.v, .bool r.2]
def peekR (l : List (Cur × Nat)) : Cur × Bool := if l = [] then (default, false) else ((l.getD 0 default).1, true)

set_option maxHeartbeats 800000 in
theorem Peek_calls {w : World} {b : Nat} {f : Value} {l : List (Cur × Nat)} {turns : Nat} {v : Value} (h : HeapI w b f l turns v) :
    Calls Tryz.prog 40 #[.pointer (some ⟨b, 0, none⟩)] w fun e w' => e = .returned (itB (peekR l)) ∧ Below w.heap.size w w' := by
  have hb := lt_of_heap h.1
  by_cases hl : l = []
  · subst hl
    have HL := Lib.hid (Len_calls (h.below ((Below.refl _ _).alloc (Nat.le_refl _) (.cells #[.slice none 0 0] 75))))
    clear h
    go_enter Tryz.func40, Tryz.ntmps40
    (repeat' (first | (go_big_may; fail) | go_values | go_skip | go_guarded | go_step | go_upon | go_back | dsimp only))
    refine HL.out.mono ?_
    rintro e w' ⟨rfl, rfl⟩
    (repeat' (first | (go_big_may; fail) | go_values | go_skip | go_guarded | go_step | go_upon | go_back | dsimp only))
    exact bodyPost_ret (v := itB (default, false)) (by simp [results, Tryz.results40, go_sem]; exact ⟨rfl, rfl, rfl⟩) rfl ⟨rfl, ((Below.refl _ _).alloc (Nat.le_refl _) _).alloc (by simp) _⟩
  · obtain ⟨g, cap, cur, rfl, hg, hn, hc, hs, ht⟩ := h.row hl
    have hlen : 0 < l.length := List.length_pos_iff.2 hl
    obtain ⟨i0, i1⟩ := row_cells hg ht hlen
    have hp : peekR l = ((l.getD 0 default).1, true) := by unfold peekR; rw [if_neg hl]
    rw [hp]
    have c1 := h.facts.c1
    have hgs := lt_of_heap hg
    have hne : ((l.length : Int) == 0) = false := by rw [beq_eq_false_iff_ne]; omega
    have HL := Lib.hid (Len_calls (h.below ((Below.refl _ _).alloc (Nat.le_refl _) (.cells #[.slice none 0 0] 75))))
    generalize l.getD 0 default = x at *
    simp only [Nat.zero_mul, Nat.zero_add] at i0 i1
    clear h hg ht hs hl hp
    go_enter Tryz.func40, Tryz.ntmps40
    (repeat' (first | (go_big_may; fail) | go_values | go_skip | go_guarded | go_step | go_upon | go_back | dsimp only))
    refine HL.out.mono ?_
    rintro e w' ⟨rfl, rfl⟩
    (repeat' (first | (go_big_may; fail) | go_values | go_skip | go_guarded | go_step | go_upon | go_back | dsimp only))
    exact bodyPost_ret (v := itB (x.1, true)) (by simp [results, Tryz.results40, go_sem]) rfl ⟨rfl, (Below.refl _ _).alloc (Nat.le_refl _) _⟩

/-- The last entry cleared, the list one shorter. -/
def cutW (w : World) (b g n cap : Nat) : World :=
  ((w.setCell ⟨g, n * 2, none⟩ (.slice none 0 0)).setCell ⟨g, n * 2 + 1, none⟩ (.int .i64 0)).setCell ⟨b, 1, none⟩ (.slice (some ⟨g, 0, none⟩) n cap)

theorem flatI_take (l : List (Cur × Nat)) (n : Nat) : flatI (l.take n) = (flatI l).take (n * 2) := by
  induction l generalizing n with
  | nil => simp [flatI]
  | cons e l ih =>
    cases n with
    | zero => simp [flatI]
    | succ n =>
      have h1 : flatI (e :: l) = entI e ++ flatI l := by simp [flatI]
      have h2 : flatI (e :: l.take n) = entI e ++ flatI (l.take n) := by simp [flatI]
      rw [List.take_succ_cons, h1, h2, ih, show (n + 1) * 2 = 2 + n * 2 from by omega, List.take_append, List.take_of_length_le (l := entI e) (by simp)]
      congr 2
      simp

theorem cutW_heap {w : World} {b g n cap : Nat} {f : Value} {l : List (Cur × Nat)} {turns : Nat} (h : HeapI w b f l turns (.slice (some ⟨g, 0, none⟩) l.length cap)) (hn : n < l.length) :
    HeapI (cutW w b g n cap) b f (l.take n) turns (.slice (some ⟨g, 0, none⟩) n cap) ∧ Upd (b :: rowOf (.slice (some ⟨g, 0, none⟩) l.length cap)) w (cutW w b g n cap) := by
  have hne : l ≠ [] := by intro e; subst e; simp at hn
  obtain ⟨g', cap', cur, hv, hg, hnc, hc, hs, ht⟩ := h.row hne
  cases hv
  have hgb : g ≠ b := fun e => h.ne (by rw [mem_rowOf]; simp [Value.ownBlock, e])
  have hl : (l.take n).length = n := by rw [List.length_take]; omega
  have hgm : g ∈ b :: rowOf (.slice (some ⟨g, 0, none⟩) l.length cap) := by simp [rowOf, Value.ownBlock]
  have hmt : ∀ e ∈ l.take n, e ∈ l := fun e he => List.mem_of_mem_take he
  have hupd : Upd (b :: rowOf (.slice (some ⟨g, 0, none⟩) l.length cap)) w (cutW w b g n cap) := (((Upd.refl _ w).setCell (p := ⟨g, n * 2, none⟩) (.inl hgm) _).setCell (p := ⟨g, n * 2 + 1, none⟩) (.inl hgm) _).setCell (p := ⟨b, 1, none⟩) (.inl (by simp)) _
  refine ⟨⟨?_, ?_, ((h.2.2.own hupd).sub hmt).keep (by simp [rowOf, Value.ownBlock])⟩, hupd⟩
  · unfold cutW
    refine heap_setCell (o := 1) (cs := #[f, .slice (some ⟨g, 0, none⟩) l.length cap, .int .i64 turns]) (T := tHeapC) ?_ _
    iterate 2 rw [Below.heap_setCell _ _ _ _ (fun e => hgb e.symm)]
    exact h.1
  · refine ⟨by rw [flatI_length], .inr ⟨g, cap, (cur.setIfInBounds (n * 2) (.slice none 0 0)).setIfInBounds (n * 2 + 1) (.int .i64 0), by rw [hl], Nat.zero_le _, ?_, by omega, hc, by simpa using hs, ?_⟩⟩
    · unfold cutW
      rw [Below.heap_setCell _ _ _ _ hgb]
      exact heap_setCell (heap_setCell hg _) _
    · rw [hl, flatI_take, ← ht]
      apply List.ext_getElem?
      intro k
      simp only [List.getElem?_take, Array.getElem?_toList, Array.getElem?_setIfInBounds]
      by_cases hk : k < n * 2
      · rw [if_pos hk, if_neg (by omega), if_neg (by omega), if_pos hk, if_pos (by omega)]
      · rw [if_neg hk, if_neg hk]

theorem sink_at {w : World} {b : Nat} {fl : FuncId} {lt : Cur → Cur → Bool} (hL : LessI fl lt) {l : List (Cur × Nat)} {turns : Nat} {v : Value} (h : HeapI w b (.func (.func fl) #[] #[]) l turns v) (hn : l.length ≤ 4611686018427387) (z : Int) (hz : z = 0) :
    Calls Tryz.prog 64 #[.pointer (some ⟨b, 0, none⟩), .int .i64 z] w fun e w' => e = .returned (.tuple #[]) ∧ HeapI w' b (.func (.func fl) #[] #[]) (hp.sinkL (hp.ahead lt) l 0) turns v ∧ Upd (b :: rowOf v) w w' := by
  subst hz
  refine sink_calls hL h ?_ (Nat.zero_le _) hn
  by_cases hl : l = []
  · exact .inr hl
  · exact .inl (List.length_pos_iff.2 hl)

theorem clear_run {w : World} {g o c : Nat} {a0 a1 : Value} (h0 : w.cell? ⟨g, o, none⟩ = some a0) (h1 : w.cell? ⟨g, o + 1, none⟩ = some a1) (hf : ∀ k, w.frozen? ⟨g, k, none⟩ = false) :
    (Builtin.clear_ #[108] 0 #[.slice (some ⟨g, o, none⟩) 1 c]).run Tryz.prog w = .ok (.tuple #[]) ((w.setCell ⟨g, o, none⟩ (.slice none 0 0)).setCell ⟨g, o + 1, none⟩ (.int .i64 0)) := by
  have hz : (zeroValue tEntC).run Tryz.prog w = .ok (.agg #[.slice none 0 0, .int .i64 0]) w := by kernel_rfl
  have hzc : (Builtin.zeroCells #[.slice none 0 0, .int .i64 0] 1).toList = [.slice none 0 0, .int .i64 0] := by kernel_rfl
  simp [Builtin.clear_, run_underlying Tryz.underlying108, hz, hzc, storeCells, go_sem, h0, h1, hf]

/-- What is left behind a pop was there. -/
theorem hp_pop_sub {R : Cur × Nat → Cur × Nat → Bool} {l : List (Cur × Nat)} {n : Nat} {e : Cur × Nat} (he : e ∈ hp.sinkL R ((hp.swapL l 0 n).take n) 0) (hn : n < l.length) : e ∈ l := by
  have h1 : e ∈ (hp.swapL l 0 n).take n := (hp.sinkL_perm R ((hp.swapL l 0 n).take n) 0 (by by_cases h0 : (hp.swapL l 0 n).take n = []; exact .inr h0; exact .inl (List.length_pos_iff.2 h0))).mem_iff.1 he
  have h2 := List.mem_of_mem_take h1
  exact (hp.swapL_perm (by omega) hn).mem_iff.1 h2
/-- A variable of the call's own, behind calls that leave it alone. -/
theorem slot_kept {w W W' : World} {a : Value} {T : TypeId} {fp : List Nat} (hW : W.heap[w.heap.size]? = some (.cells #[a] T (0, 0))) (hu : Upd fp W W') (hf : w.heap.size ∉ fp) : W'.heap[w.heap.size]? = some (.cells #[a] T (0, 0)) := by
  rw [hu.block _ (lt_of_heap hW) hf]; exact hW
theorem slot_facts {W : World} {k : Nat} {a : Value} {T : TypeId} (h : W.heap[k]? = some (.cells #[a] T (0, 0))) : W.cell? ⟨k, 0, none⟩ = some a ∧ W.frozen? ⟨k, 0, none⟩ = false ∧ k < W.heap.size := by
  refine ⟨by simp [World.cell?, h], by simp [World.frozen?, h], lt_of_heap h⟩

/-- What Pop leaves. -/
def popR (R : Cur × Nat → Cur × Nat → Bool) (l : List (Cur × Nat)) : List (Cur × Nat) := if l = [] then [] else hp.popL R l

set_option maxRecDepth 100000 in
set_option maxHeartbeats 3200000 in
theorem Pop_calls {w : World} {b : Nat} {fl : FuncId} {lt : Cur → Cur → Bool} (hL : LessI fl lt) {l : List (Cur × Nat)} {turns : Nat} {v : Value} (h : HeapI w b (.func (.func fl) #[] #[]) l turns v) (hn : l.length ≤ 1099511627776) :
    Calls Tryz.prog 42 #[.pointer (some ⟨b, 0, none⟩)] w fun e w' => e = .returned (itB (peekR l)) ∧ ∃ v', HeapI w' b (.func (.func fl) #[] #[]) (popR (hp.ahead lt) l) turns v' ∧ Upd (b :: rowOf v) w w' ∧ Grow w (b :: rowOf v) (b :: rowOf v') := by
  have hba : Below w.heap.size w (w.alloc (.cells #[.slice none 0 0] 75)) := (Below.refl _ _).alloc (Nat.le_refl _) _
  have hh := h.below hba
  by_cases hl : l = []
  · subst hl
    have hP := Peek_calls hh
    rw [show peekR [] = (default, false) from rfl] at hP
    have HP := Lib.hid hP
    have H := Lib.hid h
    clear h hP
    rw [show peekR [] = (default, false) from rfl, show popR (hp.ahead lt) [] = [] from rfl]
    go_enter Tryz.func42, Tryz.ntmps42
    (repeat' (first | (go_big_may; fail) | go_values | go_skip | go_guarded | go_step | go_upon | go_back | dsimp only))
    refine HP.out.mono ?_
    rintro e w1 ⟨rfl, hb1⟩
    have hs1 := slot_kept (w := w) (heap_alloc_new w _) (Upd.of_below hb1 []) (by simp)
    obtain ⟨z0, y0, hsz⟩ := slot_facts hs1
    have HB := Lib.hid (hba.trans (hb1.mono hba.size))
    clear hh hba hb1 hs1
    (repeat' (first | (go_big_may; fail) | go_values | go_skip | go_guarded | go_step | go_upon | go_back | dsimp only))
    have hu := (((Upd.of_below HB.out []).setCell (p := ⟨w.heap.size, 0, none⟩) (.inr (Nat.le_refl _)) (.slice none 0 0)).alloc (.cells #[.slice none 0 0] 75))
    refine bodyPost_ret (v := itB (default, false)) (by simp [results, Tryz.results42, go_sem, z0, hsz]) rfl ⟨rfl, v, H.out.upd (fp := []) hu (by simp) (by simp), hu.mono (by simp), Grow.refl _ _⟩
  · have hlen : 0 < l.length := List.length_pos_iff.2 hl
    have hP := Peek_calls hh
    have hpk : peekR l = ((l.getD 0 default).1, true) := by unfold peekR; rw [if_neg hl]
    rw [hpk] at hP ⊢
    have hpop : popR (hp.ahead lt) l = hp.popL (hp.ahead lt) l := by unfold popR; rw [if_neg hl]
    rw [hpop]
    have HP := Lib.hid hP
    have H := Lib.hid h
    obtain ⟨g, cap, cur, hv, hg, hnc, hc, hs, ht⟩ := h.row hl
    subst hv
    have hc0 := hc
    unfold maxLen at hc
    generalize (l.getD 0 default).1 = x at *
    have HW0 := Lib.hid (fun e (he : e ∈ l) a (ha : e.1.a = some a) => (h.2.2 e he).1.lt a ha)
    clear hP hpk h hg hs ht hpop
    generalize hml : l.length = m at *
    obtain ⟨n, rfl⟩ : ∃ n, m = n + 1 := ⟨m - 1, by omega⟩
    have HM := Lib.hid hml
    have hbs := lt_of_heap H.out.1
    have hgs := H.out.lt g (by simp [rowOf, Value.ownBlock])
    have hcn : ¬ cap = n := by omega
    clear hml
    go_enter Tryz.func42, Tryz.ntmps42
    (repeat' (first | (go_big_may; fail) | go_values | go_skip | go_guarded | go_step | go_upon | go_back | dsimp only))
    refine HP.out.mono ?_
    rintro e w1 ⟨rfl, hb1⟩
    have hs1 := slot_kept (w := w) (heap_alloc_new w _) (Upd.of_below hb1 []) (by simp)
    have hh1 := (hh.below hb1).below ((Below.refl _ _).alloc (Nat.le_refl _) (.cells #[.slice x.a x.n x.c] 75))
    have hu1 := (Upd.of_below (hba.trans (hb1.mono hba.size)) []).alloc (.cells #[.slice x.a x.n x.c] 75)
    have c1 := hh1.facts.c1
    have HB := Lib.hid (hba.trans (hb1.mono hba.size))
    have HH1 := Lib.hid hh1
    have HU1 := Lib.hid hu1
    have hbw1 := lt_of_heap hh1.1
    have hsz1 := lt_of_heap hs1
    have HS1 := Lib.hid hs1
    clear hh hh1 hu1 hs1 hba hb1
    (repeat' (first | (go_big_may; fail) | go_values | go_skip | go_guarded | go_step | go_upon | go_back | dsimp only))
    have hx1 := heap_alloc_new w1 (.cells #[.slice x.a x.n x.c] 75)
    have hs1 : (w1.alloc (.cells #[.slice x.a x.n x.c] 75)).heap[w.heap.size]? = some (.cells #[.slice none 0 0] 75 (0, 0)) := by
      rw [heap_alloc_old _ _ hsz1]; exact HS1.out
    have hxs : w.heap.size ≤ w1.heap.size := HB.out.size
    generalize w1.alloc (.cells #[.slice x.a x.n x.c] 75) = Wa at *
    generalize w1.heap.size = p at *
    have HX1 := Lib.hid hx1
    have HS2 := Lib.hid hs1
    clear hx1 hs1 HS1 HB hbw1
    refine (swap_at HH1.out (i := 0) (j := n) (by rw [HM.out]; omega) (by rw [HM.out]; omega) _ _ rfl rfl).mono ?_
    rintro e w2 ⟨rfl, hh2, hu2⟩
    have hne2 : hp.swapL l 0 n ≠ [] := by intro e; have := congrArg List.length e; rw [hp.swapL_length, HM.out] at this; simp at this
    obtain ⟨g', cap', cur, hv, hg, _, _, hs, ht⟩ := hh2.row hne2
    rw [hp.swapL_length, HM.out] at hv
    cases hv
    obtain ⟨j0, j1⟩ := row_cells hg ht (i := n) (by rw [hp.swapL_length, HM.out]; omega)
    have k0 : ∀ k, w2.frozen? ⟨g, k, none⟩ = false := fun k => by simp [World.frozen?, hg]
    have c1' := hh2.facts.c1
    have f1' := hh2.facts.f1
    have hgb : g ≠ b := fun e => hh2.ne (by rw [mem_rowOf]; simp [Value.ownBlock, e])
    have HH2 := Lib.hid hh2
    have HU2 := Lib.hid hu2
    clear hh2 hu2 hg hs ht c1 hne2
    (repeat' (first | (go_big_may; (with_reducible (show wpList _ _ _ ({ dst := _, op := Op.call { callee := Callee.builtin Builtin.clear, args := _, argTypes := _ }, type := _, pos := _, after := _, guard := _ } :: _) _ _); go_must (refine wpList_clear rfl _ _ rfl (.slice (some ⟨g, n * 2, none⟩) 1 (cap - n)) rfl (clear_run j0 j1 k0) ?_))) | go_values | go_skip | go_guarded | go_step | go_upon | go_back | dsimp only))
    have hl2 : (hp.swapL l 0 n).length = n + 1 := by rw [hp.swapL_length, HM.out]
    have hh2 := HH2.out
    rw [← hl2] at hh2
    obtain ⟨hh3, hu3⟩ := cutW_heap hh2 (n := n) (by omega)
    rw [hl2] at hu3
    refine (sink_at hL hh3 (by rw [List.length_take]; omega) _ rfl).mono ?_
    rintro e w5 ⟨rfl, hh5, hu5⟩
    have hG : ∀ m c, rowOf (.slice (some ⟨g, 0, none⟩) m c) = [g] := fun m c => by simp [rowOf, Value.ownBlock]
    rw [hG] at hu3 hu5
    have hu2 := HU2.out
    rw [hG] at hu2
    have huA := (hu2.trans hu3 (Grow.refl _ _)).trans hu5 (Grow.refl _ _)
    have hx5 : w5.heap[p]? = some (.cells #[.slice x.a x.n x.c] 75 (0, 0)) := by
      rw [huA.block p (lt_of_heap HX1.out) (by simp; omega)]; exact HX1.out
    have hs5 : w5.heap[w.heap.size]? = some (.cells #[.slice none 0 0] 75 (0, 0)) := by
      rw [huA.block _ (lt_of_heap HS2.out) (by simp; omega)]; exact HS2.out
    obtain ⟨x0, _, _⟩ := slot_facts hx5
    obtain ⟨z0, y0, hsz⟩ := slot_facts hs5
    have huW : Upd (b :: [g]) w w5 := (HU1.out.mono (fp' := b :: [g]) (by simp)).trans huA (Grow.refl _ _)
    have HH5 := Lib.hid hh5
    have HUW := Lib.hid huW
    clear hh2 hh3 hu3 hu5 hu2 huA hx5 hs5 hh5 huW
    (repeat' (first | (go_big_may; fail) | go_values | go_skip | go_guarded | go_step | go_upon | go_back | dsimp only))
    have huF := HUW.out.setCell (p := ⟨w.heap.size, 0, none⟩) (.inr (Nat.le_refl _)) (.slice x.a x.n x.c)
    refine bodyPost_ret (v := itB (x, true)) (by simp [results, Tryz.results42, go_sem, z0]) rfl ⟨rfl, .slice (some ⟨g, 0, none⟩) n cap, ?_, by rw [hG]; exact huF, by rw [hG, hG]; exact Grow.refl _ _⟩
    · have e1 : hp.popL (hp.ahead lt) l = hp.sinkL (hp.ahead lt) ((hp.swapL l 0 n).take n) 0 := by
        unfold hp.popL; rw [HM.out]; rfl
      rw [e1]
      refine HH5.out.of_block (fun k hk => ?_) fun e he a ha => ?_
      · have hk' : k ≠ w.heap.size := by
          rw [hG] at hk
          simp at hk
          omega
        rw [Below.heap_setCell _ _ _ _ hk']
      · have := HW0.out e (hp_pop_sub he (by rw [HM.out]; omega)) a ha
        rw [Below.heap_setCell _ _ _ _ (show a.block ≠ w.heap.size by omega)]

end Go.Proofs.YtgeabmmicofanaaGreatDoor.cu
namespace Go.Proofs.YtgeabmmicofanaaGreatDoor.cu
open Go.RowKit

/-- Another entry at the root. -/
def setW (w : World) (g : Nat) (e : Cur × Nat) : World :=
  (w.setCell ⟨g, 0, none⟩ (.slice e.1.a e.1.n e.1.c)).setCell ⟨g, 1, none⟩ (.int .i64 e.2)

theorem setW_heap {w : World} {b g cap : Nat} {f : Value} {l : List (Cur × Nat)} {turns : Nat} (h : HeapI w b f l turns (.slice (some ⟨g, 0, none⟩) l.length cap)) (hne : l ≠ []) (e : Cur × Nat) (hlv : Live w e.1) (hnb : ∀ a, e.1.a = some a → a.block ∉ b :: rowOf (.slice (some ⟨g, 0, none⟩) l.length cap)) :
    HeapI (setW w g e) b f (l.set 0 e) turns (.slice (some ⟨g, 0, none⟩) l.length cap) ∧ Upd (b :: rowOf (.slice (some ⟨g, 0, none⟩) l.length cap)) w (setW w g e) := by
  obtain ⟨g', cap', cur, hv, hg, hnc, hc, hs, ht⟩ := h.row hne
  cases hv
  have hgb : g ≠ b := fun e => h.ne (by rw [mem_rowOf]; simp [Value.ownBlock, e])
  have hgm : g ∈ b :: rowOf (.slice (some ⟨g, 0, none⟩) l.length cap) := by simp [rowOf, Value.ownBlock]
  have hupd : Upd (b :: rowOf (.slice (some ⟨g, 0, none⟩) l.length cap)) w (setW w g e) := ((Upd.refl _ w).setCell (p := ⟨g, 0, none⟩) (.inl hgm) _).setCell (p := ⟨g, 1, none⟩) (.inl hgm) _
  refine ⟨⟨?_, ?_, fun x hx => ?_⟩, hupd⟩
  rotate_left
  rotate_left
  · rcases mem_set hx with h1 | h1
    · exact (h.2.2.own hupd) x h1
    · subst h1; exact ⟨hlv.upd hupd hnb, hnb⟩
  · unfold setW
    iterate 2 rw [Below.heap_setCell _ _ _ _ (fun e => hgb e.symm)]
    exact h.1
  · refine ⟨by rw [flatI_length], .inr ⟨g, cap, (cur.setIfInBounds 0 (.slice e.1.a e.1.n e.1.c)).setIfInBounds 1 (.int .i64 e.2), by rw [List.length_set], Nat.zero_le _, ?_, by rw [List.length_set]; exact hnc, hc, by simpa using hs, ?_⟩⟩
    · unfold setW
      exact heap_setCell (heap_setCell hg _) _
    · obtain ⟨a, l', rfl⟩ := List.exists_cons_of_ne_nil hne
      have e1 : flatI (a :: l') = entI a ++ flatI l' := by simp [flatI]
      have e2 : flatI ((a :: l').set 0 e) = entI e ++ flatI l' := by simp [flatI]
      rw [e2, List.length_set]
      apply List.ext_getElem?
      intro k
      have hk := congrArg (fun x => x[k]?) ht
      simp only [e1] at hk
      simp only [List.length_cons] at hk hs hnc ⊢
      simp only [List.getElem?_take, Array.getElem?_toList, Array.getElem?_setIfInBounds, Array.size_setIfInBounds] at hk ⊢
      match k with
      | 0 => simp; rintro rfl; simp at hs; omega
      | 1 => simp; omega
      | k + 2 =>
        rw [if_neg (by omega : ¬ 1 = k + 2), if_neg (by omega : ¬ 0 = k + 2), hk]
        simp

theorem c3_facts {w : World} {b g cap : Nat} {f : Value} {l : List (Cur × Nat)} {turns : Nat} (h : HeapI w b f l turns (.slice (some ⟨g, 0, none⟩) l.length cap)) (hne : l ≠ []) :
    (∃ z0 z1, w.cell? ⟨g, 0, none⟩ = some z0 ∧ w.cell? ⟨g, 1, none⟩ = some z1) ∧ ∀ k, w.frozen? ⟨g, k, none⟩ = false := by
  obtain ⟨g', cap', cur, hv, hg, hnc, hc, hs, ht⟩ := h.row hne
  cases hv
  obtain ⟨i0, i1⟩ := row_cells hg ht (List.length_pos_iff.2 hne)
  simp only [Nat.zero_mul, Nat.zero_add] at i0 i1
  exact ⟨⟨_, _, i0, i1⟩, fun k => by simp [World.frozen?, hg]⟩

set_option maxRecDepth 100000 in
set_option maxHeartbeats 1600000 in
theorem Replace_full {w : World} {b : Nat} {fl : FuncId} {lt : Cur → Cur → Bool} (hL : LessI fl lt) {l : List (Cur × Nat)} {turns : Nat} {v : Value} (h : HeapI w b (.func (.func fl) #[] #[]) l turns v) (hl : l ≠ []) (x : Cur) (hlv : Live w x) (hnb : ∀ a, x.a = some a → a.block ∉ b :: rowOf v) (hn : l.length ≤ 1099511627776) (ht : turns ≤ 1099511627776) :
    Calls Tryz.prog 41 #[.pointer (some ⟨b, 0, none⟩), x.v] w fun e w' => e = .returned (itB ((l.getD 0 default).1, true)) ∧ HeapI w' b (.func (.func fl) #[] #[]) (hp.sinkL (hp.ahead lt) (l.set 0 (x, turns + 1)) 0) (turns + 1) v ∧ Upd (b :: rowOf v) w w' := by
  have hba : Below w.heap.size w ((w.alloc (.cells #[.slice x.a x.n x.c] 75)).alloc (.cells #[.slice none 0 0] 75)) := ((Below.refl _ _).alloc (Nat.le_refl _) _).alloc (by simp) _
  have hx0 : ((w.alloc (.cells #[.slice x.a x.n x.c] 75)).alloc (.cells #[.slice none 0 0] 75)).heap[w.heap.size]? = some (.cells #[.slice x.a x.n x.c] 75 (0, 0)) := by
    rw [heap_alloc_old _ _ (by simp)]; exact heap_alloc_new _ _
  have hq0 : ((w.alloc (.cells #[.slice x.a x.n x.c] 75)).alloc (.cells #[.slice none 0 0] 75)).heap[w.heap.size + 1]? = some (.cells #[.slice none 0 0] 75 (0, 0)) := by
    have := heap_alloc_new (w.alloc (.cells #[.slice x.a x.n x.c] 75)) (.cells #[.slice none 0 0] 75)
    simpa using this
  have hh0 := h.below hba
  have hlt := h.lt
  have HLV := Lib.hid hlv
  have HNB := Lib.hid hnb
  have HLE := Lib.hid (fun e (he : e ∈ l) a (ha : e.1.a = some a) => (h.2.2 e he).1.lt a ha)
  have HLX := Lib.hid hlv.lt
  clear hlv hnb
  obtain ⟨g, cap, cur, hv, hy1, hnc, hc, hy2, hy3⟩ := h.row hl
  clear hy1 hy2 hy3
  subst hv
  unfold maxLen at hc
  have hlen : 0 < l.length := List.length_pos_iff.2 hl
  have hP := Peek_calls hh0
  have hpk : peekR l = ((l.getD 0 default).1, true) := by unfold peekR; rw [if_neg hl]
  rw [hpk] at hP
  generalize (l.getD 0 default).1 = y at *
  have HP := Lib.hid hP
  have HH0 := Lib.hid hh0
  have HLT := Lib.hid hlt
  have HB0 := Lib.hid hba
  have HX0 := Lib.hid hx0
  have HQ0 := Lib.hid hq0
  have hts : turns < 9223372036854775807 := by omega
  have hi1 : (0 : Int) < l.length := by omega
  clear h hh0 hP hpk hlt hba hx0 hq0
  go_enter Tryz.func41, Tryz.ntmps41
  (repeat' (first | (go_big_may; fail) | go_values | go_skip | go_guarded | go_step | go_upon | go_back | dsimp only))
  refine HP.out.mono ?_
  rintro e w1 ⟨rfl, hb1⟩
  have hbw := HB0.out.trans (hb1.mono HB0.out.size)
  have hx1 := (hb1.block _ (lt_of_heap HX0.out)).trans HX0.out
  have hq1 := (hb1.block _ (lt_of_heap HQ0.out)).trans HQ0.out
  have hh1 := HH0.out.below hb1
  have HH1 := Lib.hid hh1
  have HX1 := Lib.hid hx1
  have HQ1 := Lib.hid hq1
  have HBW := Lib.hid hbw
  clear hb1 hx1 hq1 hh1 hbw HB0 HX0 HQ0 HH0 HP
  (repeat' (first | (go_big_may; fail) | go_values | go_skip | go_guarded | go_step | go_upon | go_back | dsimp only))
  have hba1 : Below w1.heap.size w1 (w1.alloc (.cells #[.slice y.a y.n y.c] 75)) := (Below.refl _ _).alloc (Nat.le_refl _) _
  have hx2 := (hba1.block _ (lt_of_heap HX1.out)).trans HX1.out
  have hq2 := (hba1.block _ (lt_of_heap HQ1.out)).trans HQ1.out
  have hp2 := heap_alloc_new w1 (.cells #[.slice y.a y.n y.c] 75)
  have hh2 := HH1.out.below hba1
  have hB2 := HBW.out.trans (hba1.mono HBW.out.size)
  have hlv2 : Live _ x := HLV.out.below hB2
  have HLV2 := Lib.hid hlv2
  clear hlv2
  have hpl : w.heap.size ≤ w1.heap.size := HBW.out.size
  clear hba1 HX1 HQ1 HH1 HBW
  generalize w1.alloc (.cells #[.slice y.a y.n y.c] 75) = W2 at *
  generalize w1.heap.size = p at *
  obtain ⟨x0, _, hxs⟩ := slot_facts hx2
  have c1 := hh2.facts.c1
  have hbs := lt_of_heap hh2.1
  have HH2 := Lib.hid hh2
  have HQ2 := Lib.hid hq2
  have HP2 := Lib.hid hp2
  have HB2 := Lib.hid hB2
  clear hh2 hq2 hp2 hB2 hx2
  go_region_law (refine step_call_fn rfl 61 _ _ rfl enters_enter [.pointer (some ⟨b, 0, none⟩), x.v] rfl ?_; refine (enter_calls (h := HH2.out.drew) x hts).mono ?_; rintro e w3 ⟨rfl, hh3, hu3⟩; dsimp only; obtain ⟨⟨z0, z1, k0, k1⟩, kf⟩ := c3_facts hh3 hl; have c1w := hh3.facts.c1; have hbw3 := lt_of_heap hh3.1; have HH3 := Lib.hid hh3; have HU3 := Lib.hid hu3; clear hh3 hu3)
  all_goals
    obtain ⟨hh4, hu4⟩ := setW_heap HH3.out hl (x, turns + 1) (HLV2.out.upd (Upd.of_drew HU3.out) fun a ha hm => HNB.out a ha (by simp at hm; simp [hm])) HNB.out
    have hl4 : (l.set 0 (x, turns + 1)).length = l.length := List.length_set
    have hcast : setW w3 g (x, turns + 1) = (w3.setCell ⟨g, 0, none⟩ (.slice x.a x.n x.c)).setCell ⟨g, 1, none⟩ (.int .i64 ((turns : Int) + 1)) := by simp [setW]
    rw [← hcast]
    have HH4 := Lib.hid hh4
    have HU4 := Lib.hid hu4
    clear hcast hh4 hu4 c1 c1w k0 k1 kf x0
    generalize setW w3 g (x, turns + 1) = W4 at *
    (repeat' (first | (go_big_may; fail) | go_values | go_skip | go_guarded | go_step | go_upon | go_back | dsimp only))
    refine (sink_at hL HH4.out (by omega) _ rfl).mono ?_
    rintro e w5 ⟨rfl, hh5, hu5⟩
    have hG : rowOf (.slice (some ⟨g, 0, none⟩) l.length cap) = [g] := by simp [rowOf, Value.ownBlock]
    have hu3 := Upd.of_drew HU3.out
    have hu4 := HU4.out
    rw [hG] at hu4 hu5
    have huA : Upd (b :: [g]) W2 w5 := ((hu3.mono (by simp)).trans hu4 (Grow.refl _ _)).trans hu5 (Grow.refl _ _)
    have hnf : ∀ k, w.heap.size ≤ k → k ∉ b :: [g] := fun k hk hm => by
      have := HLT.out k (by rw [hG]; exact hm)
      omega
    have hp5 := (huA.block p (lt_of_heap HP2.out) (hnf _ hpl)).trans HP2.out
    have hq5 := (huA.block _ (lt_of_heap HQ2.out) (hnf _ (by omega))).trans HQ2.out
    obtain ⟨p0, _, hps⟩ := slot_facts hp5
    obtain ⟨z0, y0, hqs⟩ := slot_facts hq5
    have HU := Lib.hid ((Upd.of_below HB2.out (b :: [g])).trans huA (Grow.refl _ _))
    have hqn := hnf (w.heap.size + 1) (by omega)
    have HH5 := Lib.hid hh5
    have HQN := Lib.hid hqn
    have HG := Lib.hid hG
    clear hu3 hu4 huA hnf hp5 hq5 hh5 hqn hu5 hG
    (repeat' (first | (go_big_may; fail) | go_values | go_skip | go_guarded | go_step | go_upon | go_back | dsimp only))
    refine bodyPost_ret (v := itB (y, true)) (by simp [results, Tryz.results41, go_sem, z0]) rfl ⟨rfl, ?_, ?_⟩
    · refine HH5.out.of_block (fun k hk => ?_) fun e he a ha => ?_
      · have hkn : k ≠ w.heap.size + 1 := fun e => HQN.out (by rw [← e, ← HG.out]; exact hk)
        rw [Below.heap_setCell _ _ _ _ hkn]
      · have he2 : e ∈ l.set 0 (x, turns + 1) := (hp.sinkL_perm _ _ 0 (by rw [List.length_set]; exact .inl hlen)).mem_iff.1 he
        have hab : a.block < w.heap.size := by
          rcases mem_set he2 with h1 | h1
          · exact HLE.out e h1 a ha
          · subst h1; exact HLX.out a ha
        rw [Below.heap_setCell _ _ _ _ (show a.block ≠ w.heap.size + 1 by omega)]
    · rw [HG.out]
      exact HU.out.setCell (p := ⟨w.heap.size + 1, 0, none⟩) (.inr (by simp)) _

end Go.Proofs.YtgeabmmicofanaaGreatDoor.cu
namespace Go.Proofs.YtgeabmmicofanaaGreatDoor.cu
open Go.RowKit

abbrev fLess : FuncId := 37
def ltB (x y : Cur) : Bool := Op.bytesLess x.key y.key

theorem less_asymm : ∀ x y : List UInt8, Op.bytesLess x y = true → Op.bytesLess y x = false
  | [], [], h => by simp [Op.bytesLess] at h
  | _ :: _, [], h => by simp [Op.bytesLess] at h
  | [], _ :: _, _ => by simp [Op.bytesLess]
  | a :: x, b :: y, h => by
    simp only [Op.bytesLess, Bool.or_eq_true, decide_eq_true_eq, Bool.and_eq_true, beq_iff_eq, Bool.or_eq_false_iff, decide_eq_false_iff_not, Bool.and_eq_false_imp] at h ⊢
    rcases h with h | ⟨rfl, h⟩
    · rw [UInt8.lt_iff_toNat_lt] at h ⊢
      exact ⟨by omega, fun e => by subst e; omega⟩
    · exact ⟨by rw [UInt8.lt_iff_toNat_lt]; omega, fun _ => less_asymm x y h⟩
theorem less_neg : ∀ x y z : List UInt8, Op.bytesLess y x = false → Op.bytesLess z y = false → Op.bytesLess z x = false
  | [], _, z, _, _ => by simp [Op.bytesLess]
  | _ :: _, [], _, h, _ => by simp [Op.bytesLess] at h
  | _ :: _, _ :: _, [], _, k => by simp [Op.bytesLess] at k
  | a :: x, b :: y, c :: z, h, k => by
    simp only [Op.bytesLess, Bool.or_eq_false_iff, decide_eq_false_iff_not, Bool.and_eq_false_imp, beq_iff_eq] at h k ⊢
    obtain ⟨h1, h2⟩ := h
    obtain ⟨k1, k2⟩ := k
    rw [UInt8.lt_iff_toNat_lt] at h1 k1 ⊢
    refine ⟨by omega, fun e => ?_⟩
    subst e
    have e2 : b = c := UInt8.toNat_inj.1 (by omega)
    subst e2
    exact less_neg x y z (h2 rfl) (k2 rfl)
theorem ordB : hp.Ord ltB := ⟨fun _ _ h => less_asymm _ _ h, fun _ _ _ h k => less_neg _ _ _ h k⟩

theorem Live.head {w : World} {x : Cur} (h : Live w x) : ∃ g i, x.a = some ⟨g, i, none⟩ ∧ 0 < x.n ∧ x.n ≤ maxLen ∧ w.cell? ⟨g, i, none⟩ = some (.string ⟨x.key.toArray⟩) := by
  obtain ⟨g, i, h1, h2, h3, h4, h5, h6⟩ := h
  refine ⟨g, i, h1, h3, by omega, ?_⟩
  cases hl : x.left with
  | nil => rw [hl] at h2; simp at h2; omega
  | cons t l =>
    have := h6 0 t (by rw [hl]; rfl)
    simpa [Cur.key, hl] using this
set_option maxHeartbeats 800000 in
theorem Less_calls (x y : Cur) (w : World) (hx : Live w x) (hy : Live w y) : Calls Tryz.prog fLess #[x.v, y.v] w fun e w' => e = .returned (.bool (ltB x y)) ∧ Below w.heap.size w w' := by
  obtain ⟨g, i, xa, xn, xm, x0⟩ := hx.head
  obtain ⟨g', i', ya, yn, ym, y0⟩ := hy.head
  have hgs := World.block_lt_of_cell? w _ x0
  have hgs' := World.block_lt_of_cell? w _ y0
  unfold Cur.v
  rw [xa, ya]
  have hx1 : (0 : Int) < x.n := by omega
  have hy1 : (0 : Int) < y.n := by omega
  unfold ltB
  clear hx hy xa ya xm ym
  generalize x.key = kx at *
  generalize y.key = ky at *
  generalize x.n = nx at *
  generalize y.n = ny at *
  generalize x.c = cx at *
  generalize y.c = cy at *
  go_enter Tryz.func37, Tryz.ntmps37
  (repeat' (first | (go_big_may; fail) | go_values | go_skip | go_guarded | go_step | go_upon | go_back | dsimp only))
  go_quiet (fail)
  (repeat' (first | (go_big_may; fail) | go_values | go_skip | go_guarded | go_step | go_upon | go_back | dsimp only))
  go_ret
  exact ⟨rfl, (((Below.refl _ _).alloc (Nat.le_refl _) _).alloc (by simp) _).trans ((below_dW _ _).mono (by simp; omega))⟩
theorem enters_Less : ∀ args w, (callFunc fLess args).run Tryz.prog w = .ok (.enter fLess args) w := fun args w => enters_fn Tryz.func37 rfl rfl args w
theorem lessB : LessI fLess ltB := ⟨enters_Less, Less_calls, ordB⟩

/-- A new heap. -/
def NewH (w : World) (fl : FuncId) (lt : Cur → Cur → Bool) (xs : List Cur) (e : Ending) (w' : World) : Prop :=
  ∃ b v, e = .returned (.pointer (some ⟨b, 0, none⟩)) ∧ HeapI w' b (.func (.func fl) #[] #[]) (pushL (hp.ahead lt) [] 0 xs) xs.length v ∧ Upd [] w w' ∧ Grow w [] (b :: rowOf v)

theorem newH_end {w w' : World} {fl : FuncId} {lt : Cur → Cur → Bool} {xs : List Cur} {v : Value}
    (hh : HeapI w' w.heap.size (.func (.func fl) #[] #[]) (pushL (hp.ahead lt) [] 0 xs) (0 + xs.length) v)
    (hu : Upd (w.heap.size :: rowOf (.slice none 0 0)) (w.alloc (.cells #[.func (.func fl) #[] #[], .slice none 0 0, .int .i64 0] tHeapC)) w')
    (hg : Grow (w.alloc (.cells #[.func (.func fl) #[] #[], .slice none 0 0, .int .i64 0] tHeapC)) (w.heap.size :: rowOf (.slice none 0 0)) (w.heap.size :: rowOf v)) :
    NewH w fl lt xs (.returned (.pointer (some ⟨w.heap.size, 0, none⟩))) w' := by
  have hg0 : Grow w [] (w.heap.size :: rowOf (.slice none 0 0)) := fun k hk => by
    rcases List.mem_cons.1 hk with rfl | hk
    · exact .inr (Nat.le_refl _)
    · simp [rowOf, Value.ownBlock] at hk
  exact ⟨_, v, rfl, by simpa using hh, ((Upd.refl [] w).alloc _).trans hu hg0, hg0.trans hg (by simp)⟩

theorem newH_start (w : World) (f : Value) : HeapI (w.alloc (.cells #[f, .slice none 0 0, .int .i64 0] tHeapC)) w.heap.size f [] 0 (.slice none 0 0) :=
  ⟨heap_alloc_new w _, World.ownsRow_nil _ _ _ _, fun _ h => by simp at h⟩

set_option maxHeartbeats 800000 in
theorem New_calls {fl : FuncId} {lt : Cur → Cur → Bool} (hL : LessI fl lt) {w : World} :
    Calls Tryz.prog 36 #[.func (.func fl) #[] #[], .slice none 0 0] w (NewH w fl lt []) := by
  have HP := Lib.hid (Push_calls hL (newH_start w _) (xs := []) (vx := .slice none 0 0) (RdRow.of_own (World.ownsRow_nil (w.alloc (.cells #[.func (.func fl) #[] #[], .slice none 0 0, .int .i64 0] tHeapC)) 0 75 1)) (fun _ _ _ _ h => absurd rfl h) (by simp) (by simp) (by simp))
  have hrun : ∀ w : World, (binOp BinOp.eql 76 (.func (.func fl) #[] #[]) .nilFunc).run Tryz.prog w = .ok (.bool false) w := fun _ => by kernel_rfl
  go_enter Tryz.func36, Tryz.ntmps36
  (repeat' (first | (go_big_may; fail) | go_values | go_skip | go_guarded | go_step | go_upon | go_back | dsimp only))
  refine HP.out.mono ?_
  rintro e w1 ⟨rfl, v1, hh, hu, hg⟩
  have H := Lib.hid (newH_end hh hu hg)
  clear HP hh hu hg
  (repeat' (first | (go_big_may; fail) | go_values | go_skip | go_guarded | go_step | go_upon | go_back | dsimp only))
  go_ret
  exact H.out

/-- The place of the first of the least of L's first k. -/
def leastAt (lt : Cur → Cur → Bool) (L : List Cur) : Nat → Nat
  | 0 => 0
  | k + 1 => if lt (L.getD k default) (L.getD (leastAt lt L k) default) then k else leastAt lt L k
/-- What is left once the least is gone; all in their order. -/
def leftR (lt : Cur → Cur → Bool) (L : List Cur) : List Cur := L.eraseIdx (leastAt lt L L.length)
def firstR (lt : Cur → Cur → Bool) (L : List Cur) : Cur := L.getD (leastAt lt L L.length) default
theorem lt_irrefl {lt : Cur → Cur → Bool} (h : hp.Ord lt) (x : Cur) : lt x x = false := by
  cases hx : lt x x with
  | false => rfl
  | true => have := h.asymm _ _ hx; rw [hx] at this; exact this
theorem leastAt_lt (lt : Cur → Cur → Bool) (L : List Cur) : ∀ k, k ≠ 0 → leastAt lt L k < k
  | 0, h => absurd rfl h
  | k + 1, _ => by
    unfold leastAt
    by_cases h : lt (L.getD k default) (L.getD (leastAt lt L k) default) = true
    · rw [if_pos h]; omega
    · rw [if_neg h]
      by_cases hk : k = 0
      · subst hk; simp [leastAt]
      · have := leastAt_lt lt L k hk; omega
theorem leastAt_min {lt : Cur → Cur → Bool} (hlt : hp.Ord lt) (L : List Cur) : ∀ k, k ≠ 0 → (∀ j, j < k → lt (L.getD j default) (L.getD (leastAt lt L k) default) = false) ∧ (∀ j, j < leastAt lt L k → lt (L.getD (leastAt lt L k) default) (L.getD j default) = true)
  | 0, h => absurd rfl h
  | k + 1, _ => by
    by_cases hk : k = 0
    · subst hk
      have e : leastAt lt L 1 = 0 := by unfold leastAt; simp [leastAt]
      rw [e]
      have e0 : ∀ j, j < 0 + 1 → j = 0 := fun j hj => by omega
      exact ⟨fun j hj => (e0 j hj) ▸ lt_irrefl hlt _, fun j hj => absurd hj (Nat.not_lt_zero _)⟩
    · obtain ⟨h1, h2⟩ := leastAt_min hlt L k hk
      by_cases h : lt (L.getD k default) (L.getD (leastAt lt L k) default) = true
      · have e : leastAt lt L (k + 1) = k := by rw [leastAt]; exact if_pos h
        rw [e]
        have hj : ∀ j, j < k → lt (L.getD k default) (L.getD j default) = true := fun j hj => by
          cases hb : lt (L.getD k default) (L.getD j default) with
          | true => rfl
          | false =>
            have := hlt.neg (L.getD (leastAt lt L k) default) (L.getD j default) (L.getD k default) (h1 j hj) hb
            rw [h] at this; cases this
        refine ⟨fun j hj' => ?_, hj⟩
        by_cases e : j = k
        · subst e; exact lt_irrefl hlt _
        · exact hlt.asymm _ _ (hj j (by omega))
      · have e : leastAt lt L (k + 1) = leastAt lt L k := by rw [leastAt]; exact if_neg h
        rw [e]
        refine ⟨fun j hj => ?_, h2⟩
        by_cases e : j = k
        · subst e; simpa using h
        · exact h1 j (by omega)
theorem leastAt_is {lt : Cur → Cur → Bool} (hlt : hp.Ord lt) {L : List Cur} (h : L ≠ []) : hp.IsLeast lt L (leastAt lt L L.length) := by
  have hl : L.length ≠ 0 := by simpa using h
  exact ⟨leastAt_lt lt L _ hl, leastAt_min hlt L _ hl⟩

theorem holds_ne {lt : Cur → Cur → Bool} {h : List (Cur × Nat)} {n : Nat} {L : List Cur} (H : hp.Holds lt h n L) : h = [] ↔ L = [] := by
  rw [← List.length_eq_zero_iff, ← List.length_eq_zero_iff, H.length]
theorem holds_pop {lt : Cur → Cur → Bool} (hlt : hp.Ord lt) {h : List (Cur × Nat)} {n : Nat} {L : List Cur} (H : hp.Holds lt h n L) (hne : L ≠ []) :
    (h.getD 0 default).1 = firstR lt L ∧ hp.Holds lt (hp.popL (hp.ahead lt) h) n (leftR lt L) := by
  have hh : h ≠ [] := fun e => hne ((holds_ne H).1 e)
  obtain ⟨k, h1, h2, h3⟩ := H.pop hlt hh
  rw [h1.unique (leastAt_is hlt hne)] at h2 h3
  exact ⟨h2, h3⟩
theorem holds_peek {lt : Cur → Cur → Bool} (hlt : hp.Ord lt) {h : List (Cur × Nat)} {n : Nat} {L : List Cur} (H : hp.Holds lt h n L) : peekR h = if L = [] then (default, false) else (firstR lt L, true) := by
  unfold peekR
  by_cases hL : L = []
  · rw [if_pos ((holds_ne H).2 hL), if_pos hL]
  · rw [if_neg (fun e => hL ((holds_ne H).1 e)), if_neg hL, (holds_pop hlt H hL).1]
theorem holds_popR {lt : Cur → Cur → Bool} (hlt : hp.Ord lt) {h : List (Cur × Nat)} {n : Nat} {L : List Cur} (H : hp.Holds lt h n L) : hp.Holds lt (popR (hp.ahead lt) h) n (leftR lt L) := by
  unfold popR
  by_cases hL : L = []
  · rw [if_pos ((holds_ne H).2 hL)]
    subst hL
    exact hp.Holds.nil _ _
  · rw [if_neg (fun e => hL ((holds_ne H).1 e))]; exact (holds_pop hlt H hL).2
theorem leftR_length {lt : Cur → Cur → Bool} {L : List Cur} (h : L ≠ []) : (leftR lt L).length + 1 = L.length := by
  have hl : L.length ≠ 0 := by simpa using h
  have := leastAt_lt lt L _ hl
  unfold leftR; rw [List.length_eraseIdx, if_pos this]; omega
theorem holds_new {lt : Cur → Cur → Bool} (hlt : hp.Ord lt) (xs : List Cur) : hp.Holds lt (pushL (hp.ahead lt) [] 0 xs) xs.length xs := by
  have := pushL_holds hlt xs [] 0 [] (hp.Holds.nil lt 0)
  simpa using this

/-- A heap in block b that holds L. -/
def HeapH (w : World) (b : Nat) (fl : FuncId) (lt : Cur → Cur → Bool) (L : List Cur) (n : Nat) (v : Value) : Prop :=
  ∃ h, HeapI w b (.func (.func fl) #[] #[]) h n v ∧ hp.Holds lt h n L

theorem Pop_holds {fl : FuncId} {lt : Cur → Cur → Bool} (hL : LessI fl lt) {w : World} {b n : Nat} {L : List Cur} {v : Value} (h : HeapH w b fl lt L n v) (hn : L.length ≤ 1099511627776) :
    Calls Tryz.prog 42 #[.pointer (some ⟨b, 0, none⟩)] w fun e w' => e = .returned (itB (if L = [] then (default, false) else (firstR lt L, true))) ∧ ∃ v', HeapH w' b fl lt (leftR lt L) n v' ∧ Upd (b :: rowOf v) w w' ∧ Grow w (b :: rowOf v) (b :: rowOf v') := by
  obtain ⟨l, h1, h2⟩ := h
  refine (Pop_calls hL h1 (by rw [h2.length]; exact hn)).mono ?_
  rintro e w' ⟨rfl, v', h3, h4⟩
  exact ⟨by rw [holds_peek hL.ord h2], v', ⟨_, h3, holds_popR hL.ord h2⟩, h4⟩
theorem Push_holds {fl : FuncId} {lt : Cur → Cur → Bool} (hL : LessI fl lt) {w : World} {b n : Nat} {L : List Cur} {v : Value} (h : HeapH w b fl lt L n v)
    {xs : List Cur} {vx : Value} (hx : RdRow w vx xs.length 1 (cellsC xs)) (hdx : ∀ k off c, vx = .slice (some ⟨k, off, none⟩) xs.length c → xs ≠ [] → k ∉ b :: rowOf v) (hxl : ∀ x ∈ xs, Live w x ∧ ∀ a, x.a = some a → a.block ∉ b :: rowOf v) (hn : L.length + xs.length ≤ 1099511627776) (ht : n + xs.length ≤ 1099511627776) :
    Calls Tryz.prog 39 #[.pointer (some ⟨b, 0, none⟩), vx] w fun e w' => e = .returned (.tuple #[]) ∧ ∃ v', HeapH w' b fl lt (L ++ xs) (n + xs.length) v' ∧ Upd (b :: rowOf v) w w' ∧ Grow w (b :: rowOf v) (b :: rowOf v') := by
  obtain ⟨l, h1, h2⟩ := h
  refine (Push_calls hL h1 hx hdx hxl (by rw [h2.length]; exact hn) ht).mono ?_
  rintro e w' ⟨rfl, v', h3, h4⟩
  exact ⟨rfl, v', ⟨_, h3, pushL_holds hL.ord xs _ _ _ h2⟩, h4⟩

end Go.Proofs.YtgeabmmicofanaaGreatDoor.cu
