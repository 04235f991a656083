/- HeapKeeps walked. -/
import Derived.Test.YtgahkodbjokgfaaHeapNewR
import Derived.ArgAppend
namespace Go.Proofs.Ytgahkodbjokgfaa
open Go.RowKit

theorem Drain_holds2 {fl : FuncId} {lt : It → It → Bool} (hL : LessI fl lt) {w : World} {b n : Nat} {L : List It} {v : Value} (h : HeapH w b fl lt L n v) (hn : L.length ≤ 1099511627776) :
    Calls Try.prog 16 #[.pointer (some ⟨b, 0, none⟩)] w fun e w' => ∃ vr, e = .returned vr ∧ Items w (drainR lt L.length L) vr w' ∧ ∃ v', HeapH w' b fl lt [] n v' ∧ Upd (b :: rowOf v) w w' ∧ Grow w (b :: rowOf v) (b :: rowOf v') ∧ (∀ k, vr.ownBlock = some k → k ∉ b :: rowOf v') ∧ ∀ a n c, vr = .slice a n c → c = n := by
  obtain ⟨l, h1, h2⟩ := h
  refine (Drain_calls2 hL h1 (by rw [h2.length]; exact hn)).mono ?_
  rintro e w' ⟨vr, rfl, h3, v', h4, h5, h6, h7, h8⟩
  rw [drain_eq hL.ord _ _ _ _ h2, h2.length] at h3
  exact ⟨vr, rfl, h3, v', ⟨_, h4, hp.Holds.nil _ _⟩, h5, h6, h7, h8⟩

/-- A heap in memory from B on. -/
structure HpB (w0 : World) (B : Nat) (wr : World) (b : Nat) (L : List It) (n : Nat) (v : Value) : Prop where
  heap : HeapH wr b fLess ltK L n v
  own : ∀ k ∈ b :: rowOf v, B ≤ k
  base : w0.heap.size ≤ B
  below : Below w0.heap.size w0 wr
section
variable {w0 wr w' : World} {B b : Nat} {L L' : List It} {n n' : Nat} {v v' : Value}
theorem HpB.size (h : HpB w0 B wr b L n v) : B ≤ wr.heap.size := by
  have h1 := h.own b (by simp)
  have h2 := h.heap.lt2 b (by simp)
  omega
theorem HpB.op (h : HpB w0 B wr b L n v) (hh : HeapH w' b fLess ltK L' n' v') (hu : Upd (b :: rowOf v) wr w') (hg : Grow wr (b :: rowOf v) (b :: rowOf v')) : HpB w0 B w' b L' n' v' :=
  ⟨hh, fun k hk => (hg k hk).elim (h.own k) (fun h1 => Nat.le_trans h.size h1), h.base, h.below.trans (hu.below (Nat.le_trans h.base h.size) fun k hk => Nat.le_trans h.base (h.own k hk))⟩
theorem HpB.later (h : HpB w0 B wr b L n v) (hb : Below wr.heap.size wr w') : HpB w0 B w' b L n v :=
  ⟨h.heap.below2 hb, h.own, h.base, h.below.trans (hb.mono h.below.size)⟩
/-- Something else is written, ahead of B. -/
theorem HpB.ahead (h : HpB w0 B wr b L n v) {fp : List Nat} (hu : Upd fp wr w') (hf : ∀ k ∈ fp, w0.heap.size ≤ k) (hd : ∀ k ∈ fp, k < B) : HpB w0 B w' b L n v :=
  ⟨h.heap.upd2 hu fun k hk hm => by have := h.own k hk; have := hd k hm; omega, h.own, h.base, h.below.trans (hu.below h.below.size hf)⟩
end

/-- A row that is read, away from some blocks. -/
def Awy (w : World) (v : Value) (xs : List It) (fp : List Nat) : Prop :=
  RdRow w v xs.length 2 (cellsI xs) ∧ ∀ k off c, v = .slice (some ⟨k, off, none⟩) xs.length c → cellsI xs ≠ [] → k ∉ fp
theorem Awy.op {w w' : World} {v : Value} {xs : List It} {fp fp' : List Nat} (h : Awy w v xs fp) (hu : Upd fp w w') (hg : Grow w fp fp') : Awy w' v xs fp' := by
  refine ⟨h.1.updated hu h.2, fun k off c e hne hm => ?_⟩
  rcases hg k hm with h1 | h1
  · exact h.2 k off c e hne h1
  · obtain ⟨_, a, cap, h2, _, _, hc⟩ := h.1
    obtain ⟨x, l, rfl⟩ := List.exists_cons_of_ne_nil (cellsI_ne hne)
    obtain ⟨b', off', e', h7⟩ := hc 0 _ (rfl : (cellsI (x :: l))[0]? = some (.int .i64 x.key))
    subst e'
    rw [e] at h2
    cases h2
    have h3 : k < w.heap.size := World.block_lt_of_cell? w ⟨k, off + 0, none⟩ h7
    omega
theorem Awy.below {w w' : World} {v : Value} {xs : List It} {fp : List Nat} (h : Awy w v xs fp) (hb : Below w.heap.size w w') : Awy w' v xs fp := ⟨h.1.below hb, h.2⟩

theorem four_oneCell (a b c d : Int) : ∀ u ∈ (#[Value.int .i64 a, .int .i64 b, .int .i64 c, .int .i64 d] : Array Value).toList, u.oneCell' = true := by
  intro u hu; simp at hu; rcases hu with rfl | rfl | rfl | rfl <;> rfl

/-- A block with room for m items. -/
def BoxN (w : World) (g m : Nat) : Prop := ∃ cur, w.heap[g]? = some (.cells cur 25 (0, 0)) ∧ m * 2 ≤ cur.size
theorem BoxN.cells {w : World} {g m : Nat} (h : BoxN w g m) {k : Nat} (hk : k < m) : (∃ x y, w.cell? ⟨g, k * 2, none⟩ = some x ∧ w.cell? ⟨g, k * 2 + 1, none⟩ = some y) ∧ ∀ j, w.frozen? ⟨g, j, none⟩ = false := by
  obtain ⟨cur, h1, h2⟩ := h
  refine ⟨⟨cur[k * 2], cur[k * 2 + 1], ?_, ?_⟩, fun j => by simp [World.frozen?, h1]⟩
  · simp [World.cell?, h1, Array.getElem?_eq_getElem (show k * 2 < cur.size by omega)]
  · simp [World.cell?, h1, Array.getElem?_eq_getElem (show k * 2 + 1 < cur.size by omega)]
theorem BoxN.set {w : World} {g m : Nat} (h : BoxN w g m) (o : Nat) (u : Value) : BoxN (w.setCell ⟨g, o, none⟩ u) g m := by
  obtain ⟨cur, h1, h2⟩ := h
  exact ⟨_, heap_setCell h1 u, by simpa using h2⟩
theorem BoxN.of_own {w : World} {B g n cap : Nat} {xs : List Value} (h : w.ownsRow B 25 2 (.slice (some ⟨g, 0, none⟩) n cap) n xs) : BoxN w g n := by
  rcases h.2 with ⟨h', _⟩ | ⟨g', cap', cur, h', hb, hg, hnc, hcm, hcs, htake⟩
  · simp at h'
  · cases h'
    exact ⟨cur, hg, by omega⟩
theorem BoxN.block {w w' : World} {g m : Nat} (h : BoxN w g m) (hb : w'.heap[g]? = w.heap[g]?) : BoxN w' g m := by
  obtain ⟨cur, h1, h2⟩ := h
  exact ⟨cur, by rw [hb]; exact h1, h2⟩

theorem own_some {w : World} {B : Nat} {e : TypeId} {size : Nat} {v : Value} {n : Nat} {xs : List Value} (h : w.ownsRow B e size v n xs) (hn : 0 < n) : ∃ g cap, v = .slice (some ⟨g, 0, none⟩) n cap ∧ B ≤ g ∧ n ≤ cap ∧ cap ≤ maxLen := by
  rcases h.2 with ⟨_, h0⟩ | ⟨g, cap, cur, hv, hb, _, h1, h2, _⟩
  · omega
  · exact ⟨g, cap, hv, hb, h1, h2⟩
theorem RdRow.front {w : World} {a : Option Addr} {m n cap : Nat} {xs ys : List Value} (h : RdRow w (.slice a m cap) m 2 (xs ++ ys)) (hx : xs.length = n * 2) (hn : n ≤ cap) : RdRow w (.slice a n cap) n 2 xs := by
  obtain ⟨_, a', cap', h2, _, h4, h5⟩ := h
  cases h2
  exact ⟨hx, a, cap, rfl, hn, h4, fun j u hu => h5 j u (by rw [List.getElem?_append_left (List.getElem?_eq_some_iff.1 hu).1]; exact hu)⟩
theorem NewR.of_own {w0 w1 : World} {xs : List It} {v : Value} (hown : w1.ownsRow w0.heap.size tRI 2 v xs.length (cellsI xs)) (hb : Below w0.heap.size w0 w1) : NewR w0 w1.heap.size xs v (w1.alloc (.cells #[v] tRH)) := by
  have hba : Below w1.heap.size w1 (w1.alloc (.cells #[v] tRH)) := (Below.refl _ _).alloc (Nat.le_refl _) _
  refine ⟨⟨heap_alloc_new _ _, ownsRow_mono0 (ownsRow_below hown hba)⟩, fun k hk => ?_, hb.trans (hba.mono hb.size)⟩
  rcases List.mem_cons.1 hk with rfl | hk
  · exact hb.size
  · exact (hown.lt k (mem_rowOf.1 hk)).1
theorem Awy.of_own {w : World} {B : Nat} {e : TypeId} {v : Value} {xs : List It} {fp : List Nat} (h : w.ownsRow B e 2 v xs.length (cellsI xs)) (hl : ∀ k ∈ fp, k < B) : Awy w v xs fp :=
  ⟨RdRow.of_own h, fun k off c e _ hm => by have h1 := (h.lt k (by rw [e]; rfl)).1; have := hl k hm; omega⟩

/-- What Drain answers as a block of its own. -/
structure Out (w0 : World) (v : Value) (xs : List It) (ao : Option Addr) (wr : World) : Prop where
  shape : v = .slice ao xs.length xs.length
  box : ∀ a, ao = some a → ∃ g, a = ⟨g, 0, none⟩ ∧ w0.heap.size ≤ g ∧ g < wr.heap.size ∧ BoxN wr g xs.length
  empty : ao = none → xs = []
theorem Out.of {w0 w1 : World} {v : Value} {xs : List It} (h : Items w0 xs v w1) (hc : ∀ a n c, v = .slice a n c → c = n) : ∃ ao, Out w0 v xs ao w1 := by
  obtain ⟨g, cap, cur, ⟨rfl, rfl⟩ | ⟨rfl, h1, h2, h3, h4, h5, h6⟩⟩ := h
  · exact ⟨none, rfl, by simp, fun _ => rfl⟩
  · have := hc _ _ _ rfl
    subst this
    exact ⟨some ⟨g, 0, none⟩, rfl, fun a e => by cases e; exact ⟨g, rfl, h1, lt_of_heap h2, cur, h2, h5⟩, fun e => by cases e⟩
theorem Out.block {w0 w1 w2 : World} {v : Value} {xs : List It} {ao : Option Addr} (h : Out w0 v xs ao w1) (hs : w1.heap.size ≤ w2.heap.size) (hb : ∀ g, ao = some ⟨g, 0, none⟩ → w2.heap[g]? = w1.heap[g]?) : Out w0 v xs ao w2 :=
  ⟨h.shape, fun a e => by
    obtain ⟨g, h1, h2, h3, h4⟩ := h.box a e
    exact ⟨g, h1, h2, Nat.lt_of_lt_of_le h3 hs, h4.block (hb g (by rw [e, h1]))⟩, h.empty⟩
theorem Out.upd {w0 w1 w2 : World} {v : Value} {xs : List It} {ao : Option Addr} (h : Out w0 v xs ao w1) {fp : List Nat} (hu : Upd fp w1 w2) (hd : ∀ k, v.ownBlock = some k → k ∉ fp) : Out w0 v xs ao w2 :=
  h.block hu.size fun g e => by
    obtain ⟨g', h1, _, h3, _⟩ := h.box _ e
    cases h1
    exact hu.block g h3 (hd g (by rw [h.shape, e]; rfl))
theorem Out.below {w0 w1 w2 : World} {v : Value} {xs : List It} {ao : Option Addr} (h : Out w0 v xs ao w1) (hb : Below w1.heap.size w1 w2) : Out w0 v xs ao w2 :=
  h.upd (Upd.of_below hb []) (by simp)
/-- The blocks of what was answered are away from the heap's, and stay so. -/
theorem off_grow {w : World} {v : Value} {fp fp' : List Nat} (h : ∀ k, v.ownBlock = some k → k ∉ fp) (hl : ∀ k, v.ownBlock = some k → k < w.heap.size) (hg : Grow w fp fp') : ∀ k, v.ownBlock = some k → k ∉ fp' := fun k hk hm => by
  rcases hg k hm with h1 | h1
  · exact h k hk h1
  · have := hl k hk; omega
theorem Out.lt {w0 w1 : World} {v : Value} {xs : List It} {ao : Option Addr} (h : Out w0 v xs ao w1) : ∀ k, v.ownBlock = some k → k < w1.heap.size := fun k hk => by
  rw [h.shape] at hk
  cases ao with
  | none => simp [Value.ownBlock] at hk
  | some a =>
    obtain ⟨g, h1, h2, h3, _⟩ := h.box a rfl
    subst h1
    simp only [Value.ownBlock, Option.some.injEq] at hk
    omega

theorem clip_olds {w : World} {ao : Option Addr} {N : Nat} (h : ∀ a, ao = some a → ∃ q, a = ⟨q, 0, none⟩ ∧ BoxN w q N) (he : ao = none → N = 0) :
    ∃ olds : List Value, olds.length = N * 2 ∧ ∀ (C : Array Value) (e : TypeId) b, ao = some b → ∀ j u, olds[j]? = some u → (w.alloc (.cells C e)).cell? (b.add j) = some u := by
  cases ao with
  | none => rw [he rfl]; exact ⟨[], rfl, fun C e b h => by cases h⟩
  | some a =>
    obtain ⟨q, rfl, cur, h1, h2⟩ := h a rfl
    refine ⟨cur.toList.take (N * 2), by simp; omega, fun C e b hb j u hu => ?_⟩
    cases hb
    have hj : j < N * 2 := by
      have := (List.getElem?_eq_some_iff.1 hu).1
      simp at this; omega
    rw [List.getElem?_take_of_lt hj] at hu
    rw [show (⟨q, 0, none⟩ : Addr).add j = ⟨q, j, none⟩ from by unfold Addr.add; split <;> simp_all]
    have := lt_of_heap h1
    simp only [World.cell?]
    rw [heap_alloc_old _ _ this, h1]
    simpa using hu
theorem new_cells (w : World) (C : Array Value) (e : TypeId) : ∀ j u, C.toList[j]? = some u → (w.alloc (.cells C e)).cell? ((⟨w.heap.size, 0, none⟩ : Addr).add j) = some u := by
  intro j u hu
  rw [show (⟨w.heap.size, 0, none⟩ : Addr).add j = ⟨w.heap.size, j, none⟩ from by unfold Addr.add; split <;> simp_all, World.cell?_alloc_at _ _ _ _ rfl]
  simpa using hu
theorem ownsRow_le {w : World} {B B' : Nat} (hB : B' ≤ B) {e : TypeId} {size : Nat} {v : Value} {n : Nat} {xs : List Value} (h : w.ownsRow B e size v n xs) : w.ownsRow B' e size v n xs := by
  refine ⟨h.1, ?_⟩
  rcases h.2 with hn | ⟨g, cap, cur, rfl, hb, rest⟩
  · exact .inl hn
  · exact .inr ⟨g, cap, cur, rfl, Nat.le_trans hB hb, rest⟩

set_option maxRecDepth 100000 in
set_option maxHeartbeats 3200000 in
theorem heapKeeps_walk (w : World) (items : List It) (v0 : Value) (rd0 : RdRow w v0 items.length 2 (cellsI items)) (hn0 : items.length ≤ 1048576) :
    Calls Try.prog 6 #[v0] w fun e w' => e = .returned (.bool true) ∧ Below w.heap.size w w' := by
  obtain ⟨a0, c0, hv0, hc0, hd0⟩ := rd0.shape
  unfold maxLen at hd0
  subst hv0
  have RD0 := Lib.hid rd0
  clear rd0
  go_enter Try.func6, Try.ntmps6
  (repeat' (first | (go_big_may; fail) | go_values | go_skip | go_guarded | go_step | go_upon | go_back | dsimp only))
  refine (wakes_calls _).mono ?_
  rintro e w1 ⟨rfl, hb1⟩
  have HB1 := Lib.hid hb1
  clear hb1
  (repeat' (first | (go_big_may; fail) | go_values | go_skip | go_guarded | go_step | go_upon | go_back | dsimp only))
  refine (twin_calls (RD0.out.below HB1.out) (by omega)).mono ?_
  rintro e w2 ⟨vt, rfl, hown2, hb2⟩
  have HB2 := Lib.hid hb2
  have hs2 := hb2.size
  clear hb2
  (repeat' (first | (go_big_may; (at_builtin; go_must (refine wpList_append_new2 rfl _ _ 22 25 rfl Try.underlying22 info_It rfl (by decide) rfl hown2 rfl (m := 2) rfl (four_oneCell _ _ _ _) hs2 (by unfold maxLen; omega) (by omega) ?_); intro vr w3 hown3 hg3 hbk; go_must (obtain ⟨g, cap, hv, hgB, hcap, hcm⟩ := own_some hown3 (by omega)); go_must (subst hv; unfold maxLen at hcm; have hcap2 : items.length ≤ cap := by omega); have HO3 := Lib.hid hown3; have HB3 := Lib.hid (grownOwn HB2.out hs2 hown2 hg3); clear hown3 hg3 hbk hown2 hs2)) | go_values | go_skip | go_guarded | go_step | go_upon | go_back | dsimp only))
  have hRc : cellsI items ++ [.int .i64 77, .int .i64 77, .int .i64 78, .int .i64 78] = cellsI (items ++ [⟨77, 77⟩, ⟨78, 78⟩]) := by simp [cellsI]
  have hRl : (items ++ [(⟨77, 77⟩ : It), ⟨78, 78⟩]).length = items.length + 2 := by simp
  have hown : w3.ownsRow w1.heap.size 25 2 (.slice (some ⟨g, 0, none⟩) (items.length + 2) cap) (items.length + 2) (cellsI (items ++ [⟨77, 77⟩, ⟨78, 78⟩])) := by rw [← hRc]; exact HO3.out
  have hgl := (hown.lt g rfl)
  have hgiv : RdRow w3 (.slice (some ⟨g, 0, none⟩) items.length cap) items.length 2 (cellsI items) := (RdRow.of_own HO3.out).front (cellsI_length items) hcap2
  have HOW := Lib.hid hown
  have HGIV := Lib.hid hgiv
  have HRL := Lib.hid hRl
  have hBw3 := HB1.out.trans (HB3.out.mono HB1.out.size)
  have HBW3 := Lib.hid hBw3
  clear hown hgiv hRc hRl hBw3
  refine (Items_holds HGIV.out (by omega)).mono ?_
  rintro e w4 ⟨b, vh, rfl, hh, hu, hg⟩
  have hb4 : Below w3.heap.size w3 w4 := hu.below (Nat.le_refl _) (by simp)
  have HP4 := Lib.hid (show HpB w w3.heap.size w4 b items items.length vh from ⟨hh, fun k hk => (hg k hk).elim (fun h => by cases h) id, HBW3.out.size, HBW3.out.trans (hb4.mono HBW3.out.size)⟩)
  have HOW4 := Lib.hid (ownsRow_below HOW.out hb4)
  have HGIV4 := Lib.hid (HGIV.out.below hb4)
  clear hh hu hg hb4 HOW HGIV HB3 HO3 HB2
  (repeat' (first | (go_big_may; fail) | go_values | go_skip | go_guarded | go_step | go_upon | go_back | dsimp only))
  refine (Push_holds lessK HP4.out.heap HGIV4.out (fun k off c e _ hm => by cases e; have := HP4.out.own _ hm; omega) (by omega) (by omega)).mono ?_
  rintro e w5 ⟨rfl, v5, hh5, hu5, hg5⟩
  have HP5 := Lib.hid (HP4.out.op hh5 hu5 hg5)
  have HOW5 := Lib.hid (ownsRow_block HOW4.out fun k hk => hu5.block k (HOW4.out.lt k hk).2 fun hm => by
    have e : g = k := by simpa [Value.ownBlock] using hk
    have := HP4.out.own k hm
    omega)
  clear hh5 hu5 hg5 HOW4 HGIV4 HP4
  (repeat' (first | (go_big_may; fail) | go_values | go_skip | go_guarded | go_step | go_upon | go_back | dsimp only))
  have hgl3 := hgl.2
  clear hgl
  go_loopw [33] (fun x wr => ∃ k : Nat, x = .int .i64 k ∧ k ≤ items.length ∧ HpB w w3.heap.size wr b (items ++ items) (items.length + items.length) v5 ∧ wr.ownsRow w1.heap.size 25 2 (.slice (some ⟨g, 0, none⟩) (items.length + 2) cap) (items.length + 2) (cellsI (items ++ [⟨77, 77⟩, ⟨78, 78⟩]))) (fun x _ => items.length - (intOf x).toNat)
  case atStart => exact ⟨0, rfl, Nat.zero_le _, HP5.out, HOW5.out⟩
  case round =>
    obtain ⟨k, rfl, hk, hp, ho⟩ := hrel
    clear HP5 HOW5
    have HP := Lib.hid hp
    have HO := Lib.hid ho
    have hk1 : (0 : Int) ≤ k := by omega
    by_cases hlt : k < items.length
    · obtain ⟨bx, ox, cx, hsl, x0, x1⟩ := (RD0.out.below hp.below).item (i := k) hlt
      cases hsl
      obtain ⟨by_, oy, cy, hsl, y0, y1⟩ := (RdRow.of_own ho).item (i := k) (by rw [HRL.out]; omega)
      cases hsl
      have hg0 : (items ++ [(⟨77, 77⟩ : It), ⟨78, 78⟩]).getD k default = items.getD k default := by
        simp only [List.getD_eq_getElem?_getD]; rw [List.getElem?_append_left hlt]
      rw [hg0] at y0 y1
      simp only [Nat.zero_add] at y0 y1
      generalize items.getD k default = y at *
      have hk2 : (k : Int) < items.length := by omega
      have hk3 : (k : Int) < items.length + 2 := by omega
      clear hp ho hg0
      (repeat' (first | (go_big_may; fail) | go_values | go_skip | go_guarded | go_step | go_upon | go_back | dsimp only))
      go_quiet (fail)
      (repeat' (first | (go_big_may; fail) | go_values | go_skip | go_guarded | go_step | go_upon | go_back | dsimp only))
      go_roundw
      case rel => exact ⟨k + 1, by simp, hlt, HP.out.later (below_dW _ _), ownsRow_below HO.out (below_dW _ _)⟩
      case measure => simp [intOf] <;> omega
    · obtain ⟨by_, oy, cy, hsl, y0, y1⟩ := (RdRow.of_own ho).item (i := items.length) (by rw [HRL.out]; omega)
      cases hsl
      obtain ⟨bz, oz, cz, hsl, z0, z1⟩ := (RdRow.of_own ho).item (i := items.length + 1) (by rw [HRL.out]; omega)
      cases hsl
      have hg0 : (items ++ [(⟨77, 77⟩ : It), ⟨78, 78⟩]).getD items.length default = ⟨77, 77⟩ := by simp
      have hg1 : (items ++ [(⟨77, 77⟩ : It), ⟨78, 78⟩]).getD (items.length + 1) default = ⟨78, 78⟩ := by
        simp [List.getD_eq_getElem?_getD]
      rw [hg0] at y0 y1
      rw [hg1] at z0 z1
      simp only [Nat.zero_add] at y0 y1 z0 z1
      have hbox := BoxN.of_own ho
      have HBOX := Lib.hid hbox
      have hgl := (ho.lt g rfl)
      have hk2 : (items.length : Int) < items.length + 2 := by omega
      have hk3 : (items.length : Int) + 1 < items.length + 2 := by omega
      clear hp ho hg0 hg1 hbox
      (repeat' (first | (go_big_may; fail) | go_values | go_skip | go_guarded | go_step | go_upon | go_back | dsimp only))
      obtain ⟨wo, rfl⟩ : ∃ wo : World, wo = wr := ⟨_, rfl⟩
      clear y0 y1 z0 z1 HO
      go_loopw [65] (fun x wr => ∃ k : Nat, x = .int .i64 k ∧ k ≤ items.length + 2 ∧ HpB w w3.heap.size wr b (items ++ items) (items.length + items.length) v5 ∧ BoxN wr g (items.length + 2)) (fun x _ => items.length + 2 - (intOf x).toNat)
      case atStart => exact ⟨0, rfl, Nat.zero_le _, HP.out, HBOX.out⟩
      case round =>
        obtain ⟨k, rfl, hk, hp, hbox⟩ := hrel
        clear HP HBOX
        by_cases hlt : k < items.length + 2
        · obtain ⟨⟨zx, zy, x0, x1⟩, xf⟩ := hbox.cells hlt
          have HP := Lib.hid hp
          have HBOX := Lib.hid hbox
          have hk1 : (0 : Int) ≤ k := by omega
          have hk2 : (k : Int) < items.length + 2 := by omega
          clear hp hbox
          (repeat' (first | (go_big_may; fail) | go_values | go_skip | go_guarded | go_step | go_upon | go_back | dsimp only))
          go_roundw
          case rel =>
            refine ⟨k + 1, by simp, hlt, ?_, (HBOX.out.set _ _).set _ _⟩
            exact HP.out.ahead (fp := [g]) (((Upd.refl _ _).setCell (.inl (by simp)) _).setCell (.inl (by simp)) _) (fun q hq => by simp at hq; have := HB1.out.size; omega) (fun q hq => by simp at hq; omega)
          case measure => simp [intOf] <;> omega
        · have HP := Lib.hid hp
          clear hp hbox
          (repeat' (first | (go_big_may; fail) | go_values | go_skip | go_guarded | go_step | go_upon | go_back | dsimp only))
          refine (ref_calls (RD0.out.below HP.out.below) (by omega)).mono ?_
          rintro e w7 ⟨vr, rfl, hown7, hb7⟩
          obtain ⟨ar, cr, hvr, _, _⟩ := (RdRow.of_own hown7).shape
          subst hvr
          have HN8 := Lib.hid (NewR.of_own hown7 hb7)
          clear hown7 hb7
          (repeat' (first | (go_big_may; fail) | go_values | go_skip | go_guarded | go_step | go_upon | go_back | dsimp only))
          refine (ref_calls (RD0.out.below (HP.out.later HN8.out.below).below) (by omega)).mono ?_
          rintro e w9 ⟨vr9, rfl, hown9, hb9⟩
          have hap9 := own_apart (l := items) hown9 (fp := w7.heap.size :: rowOf (.slice ar items.length cr)) (fun k hk => HN8.out.ref.lt k hk)
          have HN9 := Lib.hid (show NewR wr w7.heap.size items (.slice ar items.length cr) w9 from ⟨HN8.out.ref.below hb9, HN8.out.own, HN8.out.below.trans (hb9.mono HN8.out.below.size)⟩)
          have HO9 := Lib.hid hown9
          have HAP9 := Lib.hid hap9
          clear hown9 hb9 hap9 HN8
          (repeat' (first | (go_big_may; fail) | go_values | go_skip | go_guarded | go_step | go_upon | go_back | dsimp only))
          refine (rPush_calls HN9.out.ref (RdRow.of_own HO9.out) HAP9.out (by omega)).mono ?_
          rintro e w10 ⟨rfl, rv10, hh10, hu10, hg10⟩
          have HN10 := Lib.hid (HN9.out.step hh10 hu10 hg10)
          clear hh10 hu10 hg10 HN9 HO9 HAP9
          (repeat' (first | (go_big_may; fail) | go_values | go_skip | go_guarded | go_step | go_upon | go_back | dsimp only))
          refine (rDrain_calls HN10.out.ref (by simp; omega)).mono ?_
          rintro e w11 ⟨vw, rfl, hown11, rv11, hh11, _, hu11, hg11⟩
          have hb611 : Below wr.heap.size wr w11 := HN10.out.below.trans (hu11.below HN10.out.below.size HN10.out.own)
          have HP11 := Lib.hid (HP.out.later hb611)
          have hw11 : w.heap.size ≤ w11.heap.size := HP11.out.below.size
          have hll : (items ++ items).length = items.length + items.length := by simp
          have hdl := drainR_length ltK (items ++ items)
          have hown : w11.ownsRow w10.heap.size tRI 2 vw (drainR ltK (items ++ items).length (items ++ items)).length (cellsI (drainR ltK (items ++ items).length (items ++ items))) := by rw [hdl]; exact hown11
          have HW11 := Lib.hid (Awy.of_own hown (fp := b :: rowOf v5) fun k hk => by have := HP.out.heap.lt2 k hk; have := HN10.out.below.size; omega)
          have hwl : ∀ k, vw.ownBlock = some k → k < w11.heap.size := fun k hk => (hown.lt k hk).2
          have HWL := Lib.hid hwl
          clear hown11 hh11 hu11 hg11 hb611 hown hwl HN10 HP
          (repeat' (first | (go_big_may; fail) | go_values | go_skip | go_guarded | go_step | go_upon | go_back | dsimp only))
          refine (Drain_holds2 lessK HP11.out.heap (by rw [hll]; omega)).mono ?_
          rintro e w12 ⟨va, rfl, hi12, v12, hh12, hu12, hg12, hdis12, hclip12⟩
          have HP12 := Lib.hid (HP11.out.op hh12 hu12 hg12)
          have HW12 := Lib.hid (HW11.out.op hu12 hg12)
          generalize hD : drainR ltK (items ++ items).length (items ++ items) = D at *
          have HD := Lib.hid hD
          obtain ⟨ao, hout⟩ := Out.of hi12 hclip12
          have HA12 := Lib.hid (show Awy w12 va D (b :: rowOf v12) from ⟨hi12.rd, fun k off c e _ hm => hdis12 k (by rw [e]; rfl) hm⟩)
          have HOUT := Lib.hid hout
          have HOFF := Lib.hid hdis12
          have HNW : ∀ k, va.ownBlock = some k → w11.heap.size ≤ k := fun k hk => by
            rw [hout.shape] at hk
            cases ao with
            | none => simp [Value.ownBlock] at hk
            | some a =>
              obtain ⟨q, h1, h2, _⟩ := hout.box a rfl
              subst h1
              simp only [Value.ownBlock, Option.some.injEq] at hk
              omega
          have HNW := Lib.hid HNW
          have hs1112 : w11.heap.size ≤ w12.heap.size := hu12.size
          clear hi12 hh12 hu12 hg12 hdis12 hclip12 hout HP11 HW11 hD
          (repeat' (first | (go_big_may; fail) | go_values | go_skip | go_guarded | go_step | go_upon | go_back | dsimp only))
          refine (twin_calls (RD0.out.below HP12.out.below) (by omega)).mono ?_
          rintro e w13 ⟨vt13, rfl, hown13, hb13⟩
          have hap13 := own_apart (l := items) hown13 (fp := b :: rowOf v12) (fun k hk => HP12.out.heap.lt2 k hk)
          have HP13 := Lib.hid (HP12.out.later hb13)
          have HW13 := Lib.hid (HW12.out.below hb13)
          have HA13 := Lib.hid (HA12.out.below hb13)
          have HOUT13 := Lib.hid (HOUT.out.below hb13)
          have HO13 := Lib.hid hown13
          have HAP13 := Lib.hid hap13
          clear hown13 hb13 hap13 HP12 HW12 HA12 HOUT
          (repeat' (first | (go_big_may; fail) | go_values | go_skip | go_guarded | go_step | go_upon | go_back | dsimp only))
          refine (Push_holds lessK HP13.out.heap (RdRow.of_own HO13.out) HAP13.out (by simp; omega) (by omega)).mono ?_
          rintro e w14 ⟨rfl, v14, hh14, hu14, hg14⟩
          have HP14 := Lib.hid (HP13.out.op hh14 hu14 hg14)
          have HW14 := Lib.hid (HW13.out.op hu14 hg14)
          have HA14 := Lib.hid (HA13.out.op hu14 hg14)
          have HOUT14 := Lib.hid (HOUT13.out.upd hu14 HOFF.out)
          have HOFF14 := Lib.hid (off_grow HOFF.out HOUT13.out.lt hg14)
          clear hh14 hu14 hg14 HP13 HW13 HA13 HOUT13 HOFF HO13 HAP13
          (repeat' (first | (go_big_may; fail) | go_values | go_skip | go_guarded | go_step | go_upon | go_back | dsimp only))
          refine (twin_calls (RD0.out.below HP14.out.below) (by omega)).mono ?_
          rintro e w15 ⟨vt15, rfl, hown15, hb15⟩
          have hap15 := own_apart (l := items) hown15 (fp := b :: rowOf v14) (fun k hk => HP14.out.heap.lt2 k hk)
          have HP15 := Lib.hid (HP14.out.later hb15)
          have HW15 := Lib.hid (HW14.out.below hb15)
          have HA15 := Lib.hid (HA14.out.below hb15)
          have HOUT15 := Lib.hid (HOUT14.out.below hb15)
          have HO15 := Lib.hid hown15
          have HAP15 := Lib.hid hap15
          clear hown15 hb15 hap15 HP14 HW14 HA14 HOUT14
          (repeat' (first | (go_big_may; fail) | go_values | go_skip | go_guarded | go_step | go_upon | go_back | dsimp only))
          refine (Push_holds lessK HP15.out.heap (RdRow.of_own HO15.out) HAP15.out (by simp; omega) (by omega)).mono ?_
          rintro e w16 ⟨rfl, v16, hh16, hu16, hg16⟩
          rw [List.nil_append] at hh16
          have HP16 := Lib.hid (HP15.out.op hh16 hu16 hg16)
          have HW16 := Lib.hid (HW15.out.op hu16 hg16)
          have HA16 := Lib.hid (HA15.out.op hu16 hg16)
          have HOUT16 := Lib.hid (HOUT15.out.upd hu16 HOFF14.out)
          have HOFF16 := Lib.hid (off_grow HOFF14.out HOUT15.out.lt hg16)
          clear hh16 hu16 hg16 HP15 HW15 HA15 HOUT15 HOFF14 HO15 HAP15
          (repeat' (first | (go_big_may; fail) | go_values | go_skip | go_guarded | go_step | go_upon | go_back | dsimp only))
          refine (Drain_holds lessK HP16.out.heap (by rw [hll]; omega)).mono ?_
          rintro e w17 ⟨vb, rfl, hi17, v17, hh17, hu17, hg17⟩
          rw [HD.out] at hi17
          have HP17 := Lib.hid (HP16.out.op hh17 hu17 hg17)
          have HW17 := Lib.hid (HW16.out.op hu17 hg17)
          have HA17 := Lib.hid (HA16.out.op hu17 hg17)
          have HOUT17 := Lib.hid (HOUT16.out.upd hu17 HOFF16.out)
          have HB17 := Lib.hid hi17.rd
          have hbn : ∀ k off c, vb = .slice (some ⟨k, off, none⟩) D.length c → cellsI D ≠ [] → w16.heap.size ≤ k := fun k off c e _ => by
            obtain ⟨q, cap', cur, ⟨h1, _⟩ | ⟨h1, h2, _⟩⟩ := hi17
            · rw [h1] at e; cases e
            · rw [h1] at e; cases e; exact h2
          have HBN := Lib.hid hbn
          have HLT16 := Lib.hid HOUT16.out.lt
          clear hh17 hu17 hg17 hi17 hbn HP16 HW16 HA16 HOUT16 HOFF16
          (repeat' (first | (go_big_may; fail) | go_values | go_skip | go_guarded | go_step | go_upon | go_back | dsimp only))
          refine (alike_calls HA17.out.1 HW17.out.1).mono ?_
          rintro e w18 ⟨rfl, hb18⟩
          have HP18 := Lib.hid (HP17.out.later hb18)
          have HW18 := Lib.hid (HW17.out.below hb18)
          have HOUT18 := Lib.hid (HOUT17.out.below hb18)
          have HB18 := Lib.hid (HB17.out.below hb18)
          clear hb18 HP17 HW17 HA17 HOUT17 HB17
          (repeat' (first | (go_big_may; fail) | go_values | go_skip | go_guarded | go_step | go_upon | go_back | dsimp only))
          refine (alike_calls HB18.out HW18.out.1).mono ?_
          rintro e w19 ⟨rfl, hb19⟩
          have HBW := Lib.hid (HP18.out.later hb19).below
          have HW19 := Lib.hid (HW18.out.1.below hb19)
          have hout19 := HOUT18.out.below hb19
          have HB19 := Lib.hid (HB18.out.below hb19)
          clear hb19 HP18 HW18 HOUT18 HB18
          have hva := hout19.shape
          subst hva
          have HOUT19 := Lib.hid hout19
          have hdn : D.length ≤ 2097152 := by omega
          clear hout19 hdl hll
          (repeat' (first | (go_big_may; fail) | go_values | go_skip | go_guarded | go_step | go_upon | go_back | dsimp only))
          have hqq : ∀ q, ao = some ⟨q, 0, none⟩ → (∀ k off c, vb = .slice (some ⟨k, off, none⟩) D.length c → cellsI D ≠ [] → k ∉ [q]) ∧ (∀ k off c, vw = .slice (some ⟨k, off, none⟩) D.length c → cellsI D ≠ [] → k ∉ [q]) ∧ w.heap.size ≤ q := fun q e => by
            subst e
            have h1 := HLT16.out q rfl
            have h2 := HNW.out q rfl
            refine ⟨fun k off c e hne hm => ?_, fun k off c e hne hm => ?_, by omega⟩
            · have := HBN.out k off c e hne
              simp at hm; omega
            · have := HWL.out k (by rw [e]; rfl)
              simp at hm; omega
          have HQQ := Lib.hid hqq
          have HBX := Lib.hid (show ∀ a, ao = some a → ∃ q, a = ⟨q, 0, none⟩ ∧ BoxN w19 q D.length from fun a e => by
            obtain ⟨q, h1, _, _, h4⟩ := HOUT19.out.box a e
            exact ⟨q, h1, h4⟩)
          have HEM := Lib.hid (show ao = none → D.length = 0 from fun e => by rw [HOUT19.out.empty e]; rfl)
          clear hqq HOUT19 HLT16 HNW HBN HWL
          go_loopw [107] (fun x wx => ∃ k : Nat, x = .int .i64 k ∧ k ≤ D.length ∧ RdRow wx vb D.length 2 (cellsI D) ∧ RdRow wx vw D.length 2 (cellsI D) ∧ (∀ a, ao = some a → ∃ q, a = ⟨q, 0, none⟩ ∧ BoxN wx q D.length) ∧ Below w.heap.size w wx) (fun x _ => D.length - (intOf x).toNat)
          case atStart => exact ⟨0, rfl, Nat.zero_le _, HB19.out, HW19.out, HBX.out, HBW.out⟩
          case round =>
            rename World => wx
            obtain ⟨k, rfl, hk, hrb, hrw, hbx, hbl⟩ := hrel
            clear HB19 HW19 HBX HBW
            have HRB := Lib.hid hrb
            have HRW := Lib.hid hrw
            have HBX := Lib.hid hbx
            have HBL := Lib.hid hbl
            by_cases hlt : k < D.length
            · obtain ⟨q, hq, hb⟩ : ∃ q, ao = some ⟨q, 0, none⟩ ∧ BoxN wx q D.length := by
                cases hao : ao with
                | none => have := HEM.out hao; omega
                | some a =>
                  obtain ⟨q, h1, h2⟩ := hbx a hao
                  exact ⟨q, by rw [h1], h2⟩
              subst hq
              obtain ⟨⟨zx, zy, x0, x1⟩, xf⟩ := hb.cells hlt
              have HB := Lib.hid hb
              have hk1 : (0 : Int) ≤ k := by omega
              have hk2 : (k : Int) < D.length := by omega
              clear hrb hrw hbx hbl hb
              (repeat' (first | (go_big_may; fail) | go_values | go_skip | go_guarded | go_step | go_upon | go_back | dsimp only))
              go_roundw
              case rel =>
                obtain ⟨h1, h2, h3⟩ := HQQ.out q rfl
                have hu : Upd [q] wx ((wx.setCell ⟨q, k * 2, none⟩ (.int .i64 5)).setCell ⟨q, k * 2 + 1, none⟩ (.int .i64 5)) := ((Upd.refl _ _).setCell (.inl (by simp)) _).setCell (.inl (by simp)) _
                exact ⟨k + 1, by simp, hlt, HRB.out.updated hu h1, HRW.out.updated hu h2, fun a e => by cases e; exact ⟨q, rfl, (HB.out.set _ _).set _ _⟩, HBL.out.trans (hu.below HBL.out.size fun j hj => by simp at hj; omega)⟩
              case measure => simp [intOf] <;> omega
            · clear hrb hrw hbx hbl
              (repeat' (first | (go_big_may; fail) | go_values | go_skip | go_guarded | go_step | go_upon | go_back | dsimp only))
              go_loopw [13, 116] (fun vg x wy => ∃ k : Nat, x = .int .i64 k ∧ k ≤ 20 ∧ Below wx.heap.size wx wy ∧ ((k = 0 ∧ vg = .slice ao D.length D.length) ∨ ∃ cs, wy.ownsRow wx.heap.size 25 2 vg (D.length + k) cs)) (fun _ x _ => 20 - (intOf x).toNat)
              case atStart => exact ⟨0, rfl, Nat.zero_le _, Below.refl _ _, .inl ⟨rfl, rfl⟩⟩
              case round =>
                rename World => wy
                obtain ⟨j, rfl, hj, hbb, hgr⟩ := hrel
                have HBB := Lib.hid hbb
                have hxy : wx.heap.size ≤ wy.heap.size := hbb.size
                by_cases hlt : j < 20
                · have hj1 : (0 : Int) ≤ j := by omega
                  have hj2 : (j : Int) < 20 := by omega
                  rcases hgr with ⟨rfl, rfl⟩ | ⟨cs, hown⟩
                  · obtain ⟨olds, hol, hoc⟩ := clip_olds (fun a e => by
                      obtain ⟨q, h1, h2⟩ := HBX.out a e
                      have h3 : q < wx.heap.size := by obtain ⟨cur, h4, _⟩ := h2; exact lt_of_heap h4
                      exact ⟨q, h1, h2.block (hbb.block q h3)⟩) HEM.out
                    have HOC := Lib.hid hoc
                    obtain ⟨i0, hi0, hz0, hz1, hz2⟩ := info_parts info_It
                    have HI := Lib.hid (And.intro hi0 (And.intro hz0 (And.intro hz1 hz2)))
                    have HEMM := Lib.hid (show ao = none → D.length = 0 ∧ D.length = 0 from fun e => ⟨HEM.out e, HEM.out e⟩)
                    have HOL := Lib.hid hol
                    clear hbb hoc hi0 hz0 hz1 hz2 hol
                    (repeat' (first | (go_big_may; (at_builtin; go_must (refine wpList_append_grows _ rfl _ _ 22 rfl 25 i0 _ 2 16 Try.underlying22 HI.out.1 HI.out.2.1 HI.out.2.2.1 HI.out.2.2.2 rfl (by decide) ao D.length D.length olds rfl HEMM.out HOL.out (HOC.out _ _) ⟨wy.heap.size, 0, none⟩ 1 1 [.int .i64 6, .int .i64 6] rfl rfl (new_cells _ _ _) (two_oneCell _ _) (by omega) (by unfold maxLen; omega) (by omega) ?_); intro vg2 w2 hown2 hg2; have HO2 := Lib.hid hown2; have HG2 := Lib.hid (World.grownBy.of_alloc hg2); clear hown2 hg2)) | go_values | go_skip | go_guarded | go_step | go_upon | go_back | dsimp only))
                    go_roundw
                    case rel =>
                      refine ⟨1, rfl, by omega, HBB.out.grown HG2.out hxy (fun k hk => by cases hk), .inr ⟨_, ownsRow_le (by simp; omega) HO2.out⟩⟩
                    case measure => simp [intOf]
                  · have hcl : D.length + j ≤ 3000000 := by omega
                    have HOWN := Lib.hid hown
                    clear hbb
                    (repeat' (first | (go_big_may; (at_builtin; go_must (refine wpList_append_new2 rfl _ _ 22 25 rfl Try.underlying22 info_It rfl (by decide) rfl hown rfl rfl (two_oneCell _ _) hxy (by unfold maxLen; omega) (by omega) ?_); intro vg2 w2 hown2 hg2 _; have HO2 := Lib.hid hown2; have HB2 := Lib.hid (grownOwn HBB.out hxy hown hg2); clear hown2 hg2 hown)) | go_values | go_skip | go_guarded | go_step | go_upon | go_back | dsimp only))
                    go_roundw
                    case rel => exact ⟨j + 1, by simp, by omega, HB2.out, .inr ⟨_, HO2.out⟩⟩
                    case measure => simp [intOf] <;> omega
                · obtain rfl : j = 20 := by omega
                  rcases hgr with ⟨h0, _⟩ | ⟨cs, hown⟩
                  · cases h0
                  · obtain ⟨q, cq, hq, _, _, _⟩ := own_some hown (by omega)
                    subst hq
                    have heq : (((D.length + 20 : Nat) : Int) == (D.length : Int) + 20) = true := by simp
                    have heq2 : ((D.length : Int) + 20 == (D.length : Int) + 20) = true := by simp
                    have HRB2 := Lib.hid (HRB.out.below hbb)
                    have HRW2 := Lib.hid (HRW.out.below hbb)
                    have HBL2 := Lib.hid (HBL.out.trans (hbb.mono HBL.out.size))
                    clear hown hbb HRB HRW HBL HBB
                    (repeat' (first | (go_big_may; fail) | go_values | go_skip | go_guarded | go_step | go_upon | go_back | dsimp only))
                    refine (alike_calls HRB2.out HRW2.out).mono ?_
                    rintro e w30 ⟨rfl, hb30⟩
                    have HB30 := Lib.hid (HBL2.out.trans (hb30.mono HBL2.out.size))
                    clear HRB2 HRW2 HBL2 hb30
                    (repeat' (first | (go_big_may; fail) | go_values | go_skip | go_guarded | go_step | go_upon | go_back | dsimp only))
                    go_ret
                    exact ⟨rfl, HB30.out⟩
end Go.Proofs.Ytgahkodbjokgfaa
