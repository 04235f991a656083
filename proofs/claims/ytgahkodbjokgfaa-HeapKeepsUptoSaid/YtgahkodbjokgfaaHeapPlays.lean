/- HeapPlays, HeapTwins, HeapNone walked. -/
import Derived.Test.YtgahkodbjokgfaaHeapStep
namespace Go.Proofs.Ytgahkodbjokgfaa
open Go.RowKit

/-- A call of a script: its kind, the slice's value, its items. -/
structure OpD where
  k : Int
  v : Value
  xs : List It
def cellsO (l : List OpD) : List Value := l.flatMap fun o => [.int .i64 o.k, o.v]
instance : Inhabited OpD := ⟨⟨0, .slice none 0 0, []⟩⟩

theorem cells2_get {α : Type} [Inhabited α] (f g : α → Value) (l : List α) (i : Nat) (hi : i < l.length) : (l.flatMap fun x => [f x, g x])[i * 2]? = some (f (l.getD i default)) ∧ (l.flatMap fun x => [f x, g x])[i * 2 + 1]? = some (g (l.getD i default)) := by
  induction l generalizing i with
  | nil => simp at hi
  | cons e l ih =>
    cases i with
    | zero => exact ⟨rfl, rfl⟩
    | succ i =>
      have := ih i (by simpa using hi)
      have h0 : (i + 1) * 2 = 2 + i * 2 := by omega
      have h1 : (i + 1) * 2 + 1 = 2 + (i * 2 + 1) := by omega
      have e1 : ((e :: l).flatMap fun x => [f x, g x]) = [f e, g e] ++ (l.flatMap fun x => [f x, g x]) := by simp
      rw [e1, h0, Nat.add_assoc 2]
      have h3 : ∀ k, ([f e, g e] ++ (l.flatMap fun x => [f x, g x]))[2 + k]? = (l.flatMap fun x => [f x, g x])[k]? := fun k => by
        rw [List.getElem?_append_right (by simp)]; simp
      simp only [h3, List.getD_cons_succ]
      exact this

/-- A script in memory. -/
structure OpsRow (w : World) (v : Value) (ops : List OpD) : Prop where
  row : RdRow w v ops.length 2 (cellsO ops)
  each : ∀ o ∈ ops, RdRow w o.v o.xs.length 2 (cellsI o.xs)
theorem OpsRow.below {w w' : World} {v : Value} {ops : List OpD} (h : OpsRow w v ops) (hb : Below w.heap.size w w') : OpsRow w' v ops :=
  ⟨h.row.below hb, fun o ho => (h.each o ho).below hb⟩
theorem OpsRow.get {w : World} {v : Value} {ops : List OpD} (h : OpsRow w v ops) {i : Nat} (hi : i < ops.length) :
    ∃ b off cap, v = .slice (some ⟨b, off, none⟩) ops.length cap ∧ w.cell? ⟨b, off + i * 2, none⟩ = some (.int .i64 (ops.getD i default).k) ∧ w.cell? ⟨b, off + i * 2 + 1, none⟩ = some (ops.getD i default).v ∧
      RdRow w (ops.getD i default).v (ops.getD i default).xs.length 2 (cellsI (ops.getD i default).xs) := by
  obtain ⟨g0, g1⟩ := cells2_get (fun o : OpD => .int .i64 o.k) (fun o => o.v) ops i hi
  obtain ⟨_, a, cap, rfl, _, _, hc⟩ := h.row
  obtain ⟨b, off, rfl, h0⟩ := hc _ _ g0
  obtain ⟨b', off', e, h1⟩ := hc _ _ g1
  cases e
  refine ⟨b, off, cap, rfl, h0, by rw [Nat.add_assoc]; exact h1, h.each _ ?_⟩
  rw [List.getD_eq_getElem?_getD, List.getElem?_eq_getElem hi]
  exact List.getElem_mem hi

/-- How many items come in with the first k calls. -/
def inFirst (ops : List OpD) (k : Nat) : Nat := ((ops.take k).map fun o => o.xs.length).sum
theorem inFirst_succ {ops : List OpD} {k : Nat} (h : k < ops.length) : inFirst ops (k + 1) = inFirst ops k + (ops.getD k default).xs.length := by
  unfold inFirst
  rw [List.take_add_one, List.getElem?_eq_getElem h, List.getD_eq_getElem?_getD, List.getElem?_eq_getElem h]
  simp only [Option.toList_some, List.map_append, List.sum_append, List.map_cons, List.map_nil, List.sum_cons, List.sum_nil, Nat.add_zero, Option.getD_some]
theorem inFirst_le (ops : List OpD) (k : Nat) : inFirst ops k ≤ inFirst ops ops.length := by
  unfold inFirst
  rw [List.take_length]
  conv => rhs; rw [← List.take_append_drop k ops]
  rw [List.map_append, List.sum_append]
  omega

/-- A pair in memory of the call's own. -/
structure PairB (w0 : World) (b : Nat) (v : Value) (rb : Nat) (rv : Value) (L : List It) (n : Nat) (wr : World) : Prop where
  pair : PairH wr b v rb rv L n L
  own : ∀ k ∈ fpP b v rb rv, w0.heap.size ≤ k
  below : Below w0.heap.size w0 wr
theorem PairB.step {w0 wr w' : World} {b : Nat} {v : Value} {rb : Nat} {rv v' rv' : Value} {L L' : List It} {n n' : Nat} (h : PairB w0 b v rb rv L n wr) (hs : PStep wr b v rb rv w' v' rv') (hp : PairH w' b v' rb rv' L' n' L') : PairB w0 b v' rb rv' L' n' w' :=
  ⟨hp, fun k hk => (hs.grow k hk).elim (h.own k) (fun h1 => Nat.le_trans h.below.size h1), h.below.trans (hs.upd.below h.below.size h.own)⟩
theorem PairB.later {w0 wr w' : World} {b : Nat} {v : Value} {rb : Nat} {rv : Value} {L : List It} {n : Nat} (h : PairB w0 b v rb rv L n wr) (hb : Below wr.heap.size wr w') : PairB w0 b v rb rv L n w' :=
  ⟨h.pair.below hb, h.own, h.below.trans (hb.mono h.below.size)⟩
/-- Beside a pair that takes a step. -/
theorem PairB.beside {w0 wr w' : World} {b : Nat} {v : Value} {rb : Nat} {rv : Value} {L : List It} {n : Nat} (h : PairB w0 b v rb rv L n wr) {fp : List Nat} (hu : Upd fp wr w') (hf : ∀ k ∈ fp, w0.heap.size ≤ k) (hd : ∀ k ∈ fpP b v rb rv, k ∉ fp) : PairB w0 b v rb rv L n w' :=
  ⟨h.pair.upd hu hd, h.own, h.below.trans (hu.below h.below.size hf)⟩
theorem RdRow.apart {w0 : World} {v : Value} {n size : Nat} {xs : List It} {fp : List Nat} (h : RdRow w0 v n size (cellsI xs)) (hf : ∀ k ∈ fp, w0.heap.size ≤ k) : ∀ k off c, v = .slice (some ⟨k, off, none⟩) n c → xs ≠ [] → k ∉ fp := by
  intro k off c e hne hm
  obtain ⟨_, a, cap, h2, _, _, hc⟩ := h
  obtain ⟨x, l, rfl⟩ := List.exists_cons_of_ne_nil hne
  obtain ⟨b', off', e', h7⟩ := hc 0 _ (rfl : (cellsI (x :: l))[0]? = some (.int .i64 x.key))
  subst e'
  rw [e] at h2
  cases h2
  have h1 : k < w0.heap.size := World.block_lt_of_cell? w0 ⟨k, off + 0, none⟩ h7
  have := hf k hm
  omega

/-- A new pair. -/
theorem PairB.new {w w1 w2 w3 : World} {xs : List It} {b : Nat} {v vr : Value} (hb1 : Below w.heap.size w w1) (hh : HeapH w2 b fLess ltK xs xs.length v) (hu : Upd [] w1 w2) (hg : Grow w1 [] (b :: rowOf v))
    (hown : w3.ownsRow w2.heap.size tRI 2 vr xs.length (cellsI xs)) (hb3 : Below w2.heap.size w2 w3) : PairB w b v w3.heap.size vr xs xs.length (w3.alloc (.cells #[vr] tRH)) := by
  have hba : Below w3.heap.size w3 (w3.alloc (.cells #[vr] tRH)) := (Below.refl _ _).alloc (Nat.le_refl _) _
  have hB2 : Below w.heap.size w w2 := hb1.trans (hu.below hb1.size (by simp))
  have hge : ∀ k ∈ b :: rowOf v, w.heap.size ≤ k := fun k hk => (hg k hk).elim (fun h => by cases h) (fun h => Nat.le_trans hb1.size h)
  refine ⟨⟨(hh.below2 hb3).below2 hba, ⟨heap_alloc_new _ _, ownsRow_mono0 (ownsRow_below hown hba)⟩, fun k hk hm => ?_⟩, fun k hk => ?_, (hB2.trans (hb3.mono hB2.size)).trans (hba.mono (Nat.le_trans hB2.size hb3.size))⟩
  · have h1 := hh.lt2 k hk
    rcases List.mem_cons.1 hm with rfl | hm
    · have := hb3.size; omega
    · have := (hown.lt k (mem_rowOf.1 hm)).1; omega
  · rcases List.mem_append.1 hk with hk | hk
    · exact hge k hk
    · rcases List.mem_cons.1 hk with rfl | hk
      · exact Nat.le_trans hB2.size hb3.size
      · exact Nat.le_trans hB2.size (hown.lt k (mem_rowOf.1 hk)).1

set_option maxRecDepth 100000 in
set_option maxHeartbeats 3200000 in
theorem heapPlays_walk (w : World) (start : List It) (v0 : Value) (rd0 : RdRow w v0 start.length 2 (cellsI start)) (hn0 : start.length ≤ 1048576) (ops : List OpD) (v1 : Value) (rd1 : OpsRow w v1 ops) (hn1 : ops.length ≤ 1048576) (hn2 : inFirst ops ops.length ≤ 1048576) :
    Calls Try.prog 8 #[v0, v1] w fun e w' => e = .returned (.bool true) ∧ Below w.heap.size w w' := by
  obtain ⟨a0, c0, hv0, hc0, hd0⟩ := rd0.shape
  obtain ⟨a1, c1, hv1, hc1, hd1⟩ := rd1.row.shape
  unfold maxLen at hd0 hd1
  subst hv0 hv1
  have RD0 := Lib.hid rd0
  have RD1 := Lib.hid rd1
  clear rd0 rd1
  go_enter Try.func8, Try.ntmps8
  (repeat' (first | (go_big_may; fail) | go_values | go_skip | go_guarded | go_step | go_upon | go_back | dsimp only))
  refine (twin_calls RD0.out (by omega)).mono ?_
  rintro e w1 ⟨vt, rfl, hown1, hb1⟩
  have HO1 := Lib.hid hown1
  have HB1 := Lib.hid hb1
  clear hown1 hb1
  (repeat' (first | (go_big_may; fail) | go_values | go_skip | go_guarded | go_step | go_upon | go_back | dsimp only))
  refine (Items_holds (RdRow.of_own HO1.out) (by omega)).mono ?_
  rintro e w2 ⟨b, vh, rfl, hh, hu, hg⟩
  have HB2 := Lib.hid (HB1.out.trans (hu.below HB1.out.size (by simp)))
  have HH := Lib.hid hh
  have HU := Lib.hid hu
  have HG := Lib.hid hg
  clear HO1 hh hu hg
  (repeat' (first | (go_big_may; fail) | go_values | go_skip | go_guarded | go_step | go_upon | go_back | dsimp only))
  refine (ref_calls (RD0.out.below HB2.out) (by omega)).mono ?_
  rintro e w3 ⟨vr, rfl, hown3, hb3⟩
  obtain ⟨ar, cr, hvr, _, _⟩ := (RdRow.of_own hown3).shape
  subst hvr
  have HPB := Lib.hid (PairB.new HB1.out HH.out HU.out HG.out hown3 hb3)
  clear hown3 hb3 HH HU HG HB1 HB2
  (repeat' (first | (go_big_may; fail) | go_values | go_skip | go_guarded | go_step | go_upon | go_back | dsimp only))
  refine (wakes_calls _).mono ?_
  rintro e w4 ⟨rfl, hb4⟩
  have HP4 := Lib.hid (HPB.out.later hb4)
  clear HPB hb4
  (repeat' (first | (go_big_may; fail) | go_values | go_skip | go_guarded | go_step | go_upon | go_back | dsimp only))
  generalize w3.heap.size = rb at *
  go_loopw [24] (fun x wr => ∃ k : Nat, x = .int .i64 k ∧ k ≤ ops.length ∧ ∃ v rv L n, PairB w b v rb rv L n wr ∧ L.length ≤ start.length + inFirst ops k ∧ n ≤ start.length + inFirst ops k) (fun x _ => ops.length - (intOf x).toNat)
  case atStart => exact ⟨0, rfl, Nat.zero_le _, vh, _, _, _, HP4.out, Nat.le_add_right _ _, Nat.le_add_right _ _⟩
  case round =>
    obtain ⟨k, rfl, hk, v, rv, L, n, hp, hl, hn⟩ := hrel
    clear HP4
    have hfl := inFirst_le ops k
    by_cases hlt : k < ops.length
    · obtain ⟨bx, off, cp, hsl, x0, x1, hx⟩ := (RD1.out.below hp.below).get hlt
      cases hsl
      obtain ⟨_, _, _, _, _, _, hxa⟩ := RD1.out.get hlt
      have his := inFirst_succ hlt
      have hfl2 := inFirst_le ops (k + 1)
      generalize ops.getD k default = o at *
      obtain ⟨ok, ov, oxs⟩ := o
      dsimp only at x0 x1 hx hxa his
      obtain ⟨ai, ci, hov, hi1, hi2⟩ := hx.shape
      have hap := RdRow.apart hxa hp.own
      subst hov
      have hba : Below wr.heap.size wr (wr.alloc (.cells #[.int .i64 ok, .slice ai oxs.length ci] tOp)) := (Below.refl _ _).alloc (Nat.le_refl _) _
      have HX := Lib.hid (hx.below hba)
      have HPB := Lib.hid (hp.later hba)
      have HAP := Lib.hid hap
      have HIS := Lib.hid his
      have hk1 : (0 : Int) ≤ k := by omega
      have hk2 : (k : Int) < ops.length := by omega
      have hl2 : L.length ≤ 10000000000 := by omega
      have hn2 : n ≤ 10000000000 := by omega
      have hx2 : oxs.length ≤ 10000000000 := by omega
      clear hx hxa hap his hba hp
      (repeat' (first | (go_big_may; fail) | go_values | go_skip | go_guarded | go_step | go_upon | go_back | dsimp only))
      refine (step_calls HPB.out.pair ok HX.out HAP.out hl2 hx2 hn2).mono ?_
      rintro e w5 ⟨rfl, v5, rv5, L5, n5, hp5, hs5, hl5, hn5⟩
      have HP5 := Lib.hid (HPB.out.step hs5 hp5)
      clear HPB HX HAP hp5 hs5 x0 x1
      (repeat' (first | (go_big_may; fail) | go_values | go_skip | go_guarded | go_step | go_upon | go_back | dsimp only))
      go_roundw
      case rel => exact ⟨k + 1, by simp, hlt, v5, rv5, L5, n5, HP5.out, by have := HIS.out; omega, by have := HIS.out; omega⟩
      case measure => simp [intOf] <;> omega
    · have HPB := Lib.hid hp
      have hl2 : L.length ≤ 1000000000 := by omega
      clear hp RD0 RD1
      (repeat' (first | (go_big_may; fail) | go_values | go_skip | go_guarded | go_step | go_upon | go_back | dsimp only))
      refine (Drain_holds lessK HPB.out.pair.heap (by omega)).mono ?_
      rintro e w5 ⟨va, rfl, hi, v5, hh5, hu5, hg5⟩
      obtain ⟨hs5, hp5⟩ := (PStep.refl wr b v rb rv).heap HPB.out.pair hh5 hu5 hg5
      have hap : ∀ k off c, va = .slice (some ⟨k, off, none⟩) (drainR ltK L.length L).length c → cellsI (drainR ltK L.length L) ≠ [] → k ∉ rb :: rowOf rv := fun k off c e _ hm => by
        obtain ⟨g, cap, cur, ⟨h1, _⟩ | ⟨h1, h2, _⟩⟩ := hi
        · rw [h1] at e; cases e
        · rw [h1] at e; cases e
          have := HPB.out.pair.lt _ (List.mem_append_right _ hm); omega
      have HS5 := Lib.hid hs5
      have HP5 := Lib.hid hp5
      have HRD := Lib.hid hi.rd
      have HAP := Lib.hid hap
      clear hh5 hu5 hg5 hs5 hp5 hi hap
      (repeat' (first | (go_big_may; fail) | go_values | go_skip | go_guarded | go_step | go_upon | go_back | dsimp only))
      refine (rDrain_calls HP5.out.ref (by omega)).mono ?_
      rintro e w6 ⟨vr6, rfl, hown, rv6, hh6, _, hu6, hg6⟩
      obtain ⟨hs6, hp6⟩ := HS5.out.ref HP5.out hh6 hu6 hg6
      have hr1 := HRD.out.updated hu6 HAP.out
      have hr2 : RdRow w6 vr6 (drainR ltK L.length L).length 2 (cellsI (drainR ltK L.length L)) := by rw [drainR_length]; exact RdRow.of_own hown
      have HP6 := Lib.hid hp6
      have HB6 := Lib.hid (HPB.out.step hs6 hp6).below
      have HR1 := Lib.hid hr1
      have HR2 := Lib.hid hr2
      clear hown hh6 hu6 hg6 hs6 hp6 hr1 hr2 HP5 HS5 HRD HAP
      (repeat' (first | (go_big_may; fail) | go_values | go_skip | go_guarded | go_step | go_upon | go_back | dsimp only))
      refine (alike_calls HR1.out HR2.out).mono ?_
      rintro e w7 ⟨rfl, hb7⟩
      have HP7 := Lib.hid (HP6.out.below hb7)
      have HB7 := Lib.hid (HB6.out.trans (hb7.mono HB6.out.size))
      clear HP6 HB6 HR1 HR2 hb7
      (repeat' (first | (go_big_may; fail) | go_values | go_skip | go_guarded | go_step | go_upon | go_back | dsimp only))
      refine (Len_holds HP7.out.heap).mono ?_
      rintro e w8 ⟨rfl, rfl⟩
      (repeat' (first | (go_big_may; fail) | go_values | go_skip | go_guarded | go_step | go_upon | go_back | dsimp only))
      go_ret
      exact ⟨rfl, HB7.out⟩
end Go.Proofs.Ytgahkodbjokgfaa
