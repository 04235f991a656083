/- heap of texts: Push walked. -/
import Derived.Test.YtbmfaffnbjmipaaCuSink
import Derived.Test.YtbmfaffnbjmipaaField
import Derived.Deep.RegionLaw
namespace Go.Proofs.Ytbmfaffnbjmipaa.cu
open Go.RowKit

theorem info_entI : (Try.prog.info? tEntC).map (fun i => (i.zero, i.size, i.bytes)) = some (some (.agg #[.slice none 0 0, .int .i64 0]), 2, 32) := by kernel_rfl

theorem entI_oneCell (a : Cur) (z : Int) : ∀ u ∈ (#[.slice a.a a.n a.c, .int .i64 z] : Array Value).toList, u.oneCell' = true := by
  intro u hu
  simp only [List.mem_cons, List.not_mem_nil, or_false] at hu
  rcases hu with rfl | rfl <;> rfl

/-- One entry more at the end of the list, the list stored back. -/
theorem push_run {w : World} {b : Nat} {f : Value} {l : List (Cur × Nat)} {turns : Nat} {v : Value} (h : HeapI w b f l turns v) (e : Cur × Nat) (hlv : Live w e.1) (hnb : ∀ a, e.1.a = some a → a.block ∉ b :: rowOf v) (z : Int) (hz : z = (e.2 : Int)) (hn : l.length ≤ 1099511627776) :
    ∃ ao cap w2, (Builtin.append_ #[67, 67] 67 #[v, .slice (some ⟨w.heap.size, 0, none⟩) 1 1]).run Try.prog (w.alloc (.cells #[.slice e.1.a e.1.n e.1.c, .int .i64 z] tEntC)) = .ok (.slice ao (l.length + 1) cap) w2 ∧
      w2.cell? ⟨b, 1, none⟩ = some v ∧ w2.frozen? ⟨b, 1, none⟩ = false ∧ HeapI (w2.setCell ⟨b, 1, none⟩ (.slice ao (l.length + 1) cap)) b f (l ++ [e]) turns (.slice ao (l.length + 1) cap) ∧
      Upd (b :: rowOf v) w (w2.setCell ⟨b, 1, none⟩ (.slice ao (l.length + 1) cap)) ∧ Grow w (b :: rowOf v) (b :: rowOf (.slice ao (l.length + 1) cap)) := by
  subst hz
  obtain ⟨ao, cap, w2, h1, h2, h3, _, h5, h6, h7, h8⟩ := field_push_run (P := Try.prog) 67 67 tEntC Try.underlying67 info_entI rfl (by decide) h.1 (o := 1) (v := v) rfl (by decide) h.2.1
    (C := #[.slice e.1.a e.1.n e.1.c, .int .i64 e.2]) (m := 1) rfl (entI_oneCell _ _) (by decide) (by unfold maxLen; omega) (by omega)
  exact ⟨ao, cap, w2, h1, h2, h3, ⟨h5, by simpa [flatI] using h6, LiveL.snoc (h.2.2.grow h7 h8 (fun e he => h.base e he)) (hlv.block fun a ha => h7.block _ (hlv.lt a ha) (hnb a ha)) fun a ha hm => (h8 _ hm).elim (hnb a ha) fun h9 => by have := hlv.lt a ha; omega⟩, h7, h8⟩

theorem enters_enter : ∀ xs w, (callFunc 48 xs).run Try.prog w = .ok (.enter 48 xs) w :=
  enters_fn Try.func48 (by kernel_rfl) rfl

/-- Cursors as cells. -/
def cellsC (xs : List Cur) : List Value := xs.map fun x => .slice x.a x.n x.c
theorem cur_at {w : World} {v : Value} {n : Nat} {xs : List Cur} (h : RdRow w v n 1 (cellsC xs)) {i : Nat} (hi : i < xs.length) :
    ∃ b off cap, v = .slice (some ⟨b, off, none⟩) n cap ∧ w.cell? ⟨b, off + i, none⟩ = some (.slice (xs.getD i default).a (xs.getD i default).n (xs.getD i default).c) := by
  obtain ⟨_, a, cap, rfl, _, _, hc⟩ := h
  obtain ⟨b, off, rfl, h0⟩ := hc i (.slice (xs.getD i default).a (xs.getD i default).n (xs.getD i default).c) (by simp [cellsC, List.getD_eq_getElem?_getD, hi])
  exact ⟨b, off, cap, rfl, h0⟩

/-- Pushed one after another. -/
def pushL (R : Cur × Nat → Cur × Nat → Bool) : List (Cur × Nat) → Nat → List Cur → List (Cur × Nat)
  | l, _, [] => l
  | l, n, x :: xs => pushL R (hp.riseL R (l ++ [(x, n + 1)]) l.length) (n + 1) xs
theorem pushL_length (R : Cur × Nat → Cur × Nat → Bool) : ∀ (xs : List Cur) (l : List (Cur × Nat)) (n : Nat), (pushL R l n xs).length = l.length + xs.length
  | [], l, n => rfl
  | x :: xs, l, n => by rw [pushL, pushL_length R xs, hp.riseL_length]; simp; omega
theorem pushL_holds {lt : Cur → Cur → Bool} (hlt : hp.Ord lt) : ∀ (xs : List Cur) (l : List (Cur × Nat)) (n : Nat) (L : List Cur), hp.Holds lt l n L → hp.Holds lt (pushL (hp.ahead lt) l n xs) (n + xs.length) (L ++ xs)
  | [], l, n, L, h => by simpa [pushL] using h
  | x :: xs, l, n, L, h => by
    have := pushL_holds hlt xs _ _ _ (h.push hlt x)
    rw [pushL]
    simpa [Nat.add_assoc, Nat.add_comm 1] using this

theorem rise_at {w : World} {b : Nat} {fl : FuncId} {lt : Cur → Cur → Bool} (hL : LessI fl lt) {l : List (Cur × Nat)} {turns : Nat} {v : Value} (h : HeapI w b (.func (.func fl) #[] #[]) l turns v) {i : Nat} (hi : i < l.length) (hn : l.length ≤ 4611686018427387904) (zi : Int) (ei : zi = i) :
    Calls Try.prog 49 #[.pointer (some ⟨b, 0, none⟩), .int .i64 zi] w fun e w' => e = .returned (.tuple #[]) ∧ HeapI w' b (.func (.func fl) #[] #[]) (hp.riseL (hp.ahead lt) l i) turns v ∧ Upd (b :: rowOf v) w w' := by
  subst ei; exact rise_calls hL h hi hn

/-- The loop of Push: k items are in. -/
def PushAt (w : World) (b : Nat) (f : Value) (R : Cur × Nat → Cur × Nat → Bool) (l0 : List (Cur × Nat)) (t0 : Nat) (v0 : Value) (xs : List Cur) (k : Nat) (wr : World) : Prop :=
  k ≤ xs.length ∧ ∃ l v, HeapI wr b f l (t0 + k) v ∧ l.length = l0.length + k ∧ pushL R l (t0 + k) (xs.drop k) = pushL R l0 t0 xs ∧ Upd (b :: rowOf v0) w wr ∧ Grow w (b :: rowOf v0) (b :: rowOf v)

set_option maxRecDepth 100000 in
set_option maxHeartbeats 3200000 in
theorem Push_calls {w : World} {b : Nat} {fl : FuncId} {lt : Cur → Cur → Bool} (hL : LessI fl lt) {l : List (Cur × Nat)} {turns : Nat} {v : Value} (h : HeapI w b (.func (.func fl) #[] #[]) l turns v)
    {xs : List Cur} {vx : Value} (hx : RdRow w vx xs.length 1 (cellsC xs)) (hdx : ∀ k off c, vx = .slice (some ⟨k, off, none⟩) xs.length c → xs ≠ [] → k ∉ b :: rowOf v) (hxl : ∀ x ∈ xs, Live w x ∧ ∀ a, x.a = some a → a.block ∉ b :: rowOf v) (hn : l.length + xs.length ≤ 1099511627776) (ht : turns + xs.length ≤ 1099511627776) :
    Calls Try.prog 37 #[.pointer (some ⟨b, 0, none⟩), vx] w fun e w' => e = .returned (.tuple #[]) ∧ ∃ v', HeapI w' b (.func (.func fl) #[] #[]) (pushL (hp.ahead lt) l turns xs) (turns + xs.length) v' ∧ Upd (b :: rowOf v) w w' ∧ Grow w (b :: rowOf v) (b :: rowOf v') := by
  obtain ⟨a, cap, rfl, hc1, hc2⟩ := hx.shape
  unfold maxLen at hc2
  have h0 : PushAt w b (.func (.func fl) #[] #[]) (hp.ahead lt) l turns v xs 0 w := ⟨Nat.zero_le _, l, v, h, rfl, rfl, Upd.refl _ _, Grow.refl _ _⟩
  have HX := Lib.hid hx
  have HDX := Lib.hid hdx
  have HXL := Lib.hid hxl
  clear h hx hdx hxl
  go_enter Try.func37, Try.ntmps37
  (repeat' (first | (go_big_may; fail) | go_values | go_skip | go_guarded | go_step | go_upon | go_back | dsimp only))
  go_loopw [10] (fun x wr => ∃ k : Nat, x = .int .i64 k ∧ PushAt w b (.func (.func fl) #[] #[]) (hp.ahead lt) l turns v xs k wr) (fun x _ => xs.length - (intOf x).toNat)
  case atStart => exact ⟨0, rfl, h0⟩
  case round =>
    obtain ⟨k, rfl, hk, lr, vr, hh, hlen, hgo, hup, hgr⟩ := hrel
    clear h0
    by_cases hlt : k < xs.length
    · obtain ⟨bx, off, cp, hsl, hx0⟩ := cur_at HX.out hlt
      cases hsl
      have hbx : bx < w.heap.size := World.block_lt_of_cell? w _ hx0
      have hnx : bx ∉ b :: rowOf v := HDX.out bx off cap rfl (by rintro rfl; simp at hlt)
      have y0 : wr.cell? ⟨bx, off + k, none⟩ = some (.slice (xs.getD k default).a (xs.getD k default).n (xs.getD k default).c) := by
        rw [World.cell?_of_block (w := w) (hup.block bx hbx hnx)]; exact hx0
      have hdrop : xs.drop k = xs.getD k default :: xs.drop (k + 1) := by
        rw [List.drop_eq_getElem_cons hlt]; simp [List.getD_eq_getElem?_getD, hlt]
      rw [hdrop] at hgo
      have hxk := HXL.out (xs.getD k default) (by rw [List.getD_eq_getElem?_getD, List.getElem?_eq_getElem hlt]; exact List.getElem_mem hlt)
      generalize xs.getD k default = x at *
      have hlv1 : Live wr x := hxk.1.block fun a ha => hup.block _ (hxk.1.lt a ha) (hxk.2 a ha)
      have hnb1 : ∀ a, x.a = some a → a.block ∉ b :: rowOf vr := fun a ha hm => by
        rcases hgr _ hm with h9 | h9
        · exact hxk.2 a ha h9
        · have := hxk.1.lt a ha; omega
      have HLV := Lib.hid hlv1
      have HNB := Lib.hid hnb1
      clear hxk hlv1 hnb1
      have HG := Lib.hid hgo
      have HN := Lib.hid hlen
      have hll : lr.length ≤ 1099511627776 := by omega
      have hbs := lt_of_heap hh.1
      have hbw : bx < wr.heap.size := by have := hup.size; omega
      clear hgo hlen hdrop hx0
      have hi1 : (0 : Int) ≤ k := by omega
      have hi2 : (k : Int) < xs.length := by omega
      have htk : turns + k < 9223372036854775807 := by omega
      (repeat' (first | (go_big_may; fail) | go_values | go_skip | go_guarded | go_step | go_upon | go_back | dsimp only))
      have hba : Below wr.heap.size wr (wr.alloc (.cells #[.slice x.a x.n x.c] 54)) := (Below.refl _ _).alloc (Nat.le_refl _) _
      have hh0 := hh.below hba
      have hu0 := hup.trans (Upd.of_below hba []) (Grow.nil _ _)
      have hlv2 := HLV.out.below hba
      have z0 : (wr.alloc (.cells #[.slice x.a x.n x.c] 54)).cell? ⟨wr.heap.size, 0, none⟩ = some (.slice x.a x.n x.c) := by rw [World.cell?_alloc_at _ _ _ _ rfl]; rfl
      generalize wr.alloc (.cells #[.slice x.a x.n x.c] 54) = W0 at *
      generalize hps : wr.heap.size = p at z0 ⊢
      have HLV2 := Lib.hid hlv2
      clear hps hba hh hup y0 hbw hbs HLV hlv2
      have c1 := hh0.facts.c1
      have HH0 := Lib.hid hh0
      have HU0 := Lib.hid hu0
      have HGR := Lib.hid hgr
      clear hh0 hu0 hgr
      go_region_law (first | (refine step_append_run rfl _ _ 67 rfl _ _ rfl rfl hrun ?_) | (refine step_call_fn rfl 48 _ _ rfl enters_enter [.pointer (some ⟨b, 0, none⟩), x.v] rfl ?_; refine (enter_calls (h := HH0.out.drew) x htk).mono ?_; rintro e w1 ⟨rfl, hh1, hu1⟩; dsimp only; obtain ⟨ao, cp2, w2, hrun, d1, e1, hh3, hu3, hg3⟩ := push_run hh1 (x, turns + k + 1) (HLV2.out.drew.upd hu1 fun a ha hm => HNB.out a ha (by simp at hm; simp [hm])) HNB.out ((turns : Int) + k + 1) (by simp) hll; dsimp only at hrun; have c1w := hh1.facts.c1; have hbw1 := lt_of_heap hh1.1; have HH3 := Lib.hid hh3; have HU1 := Lib.hid hu1; have HU3 := Lib.hid hu3; have HG3 := Lib.hid hg3; clear hh1 hh3 hu1 hu3 hg3))
      all_goals
        have hh3 := HH3.out
        have hu3 := HU3.out
        have hg3 := HG3.out
        have hu1 := HU1.out
        clear HH3 HU3 HG3 HU1 HH0 c1 c1w hrun d1 e1
        generalize w2.setCell ⟨b, 1, none⟩ (.slice ao (lr.length + 1) cp2) = W3 at *
        have c1 := hh3.facts.c1
        have HH3 := Lib.hid hh3
        have HU3 := Lib.hid hu3
        have HG3 := Lib.hid hg3
        have HU1 := Lib.hid hu1
        clear hh3 hu3 hg3 hu1
        (repeat' (first | (go_big_may; fail) | go_values | go_skip | go_guarded | go_step | go_upon | go_back | dsimp only))
        refine (rise_at hL HH3.out (i := lr.length) (by simp) (by simp; omega) _ rfl).mono ?_
        rintro e w4 ⟨rfl, hh4, hu4⟩
        (repeat' (first | (go_big_may; fail) | go_values | go_skip | go_guarded | go_step | go_upon | go_back | dsimp only))
        go_roundw
        case rel =>
          refine ⟨k + 1, by go_num, hlt, _, _, hh4, ?_, HG.out, ?_, ?_⟩
          · rw [hp.riseL_length]; have := HN.out; simp; omega
          · exact ((HU0.out.trans HU1.out.of_drew Grow.head).trans HU3.out (HGR.out.trans (Grow.refl _ _) (Nat.le_refl _))).trans hu4 (HGR.out.trans HG3.out (Nat.le_trans HU0.out.size HU1.out.size))
          · exact HGR.out.trans HG3.out (Nat.le_trans HU0.out.size HU1.out.size)
        case measure => simp [intOf] <;> omega
    · have hke : k = xs.length := by omega
      subst hke
      have hd : xs.drop xs.length = [] := by simp
      rw [hd] at hgo
      (repeat' (first | (go_big_may; fail) | go_values | go_skip | go_guarded | go_step | go_upon | go_back | dsimp only))
      go_end0
      exact ⟨rfl, vr, by rw [← hgo]; exact hh, hup, hgr⟩

end Go.Proofs.Ytbmfaffnbjmipaa.cu
