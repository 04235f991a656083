/- heap: one call of a script, on the heap and on the reference's list. -/
import Derived.Test.YtgahkodbjokgfaaHeapRep
namespace Go.Proofs.Ytgahkodbjokgfaa
open Go.RowKit

/-- A heap that holds L beside a reference's list M. -/
structure PairH (w : World) (b : Nat) (v : Value) (rb : Nat) (rv : Value) (L : List It) (n : Nat) (M : List It) : Prop where
  heap : HeapH w b fLess ltK L n v
  ref : RefH w rb M rv
  dis : ∀ k ∈ b :: rowOf v, k ∉ rb :: rowOf rv
abbrev fpP (b : Nat) (v : Value) (rb : Nat) (rv : Value) : List Nat := (b :: rowOf v) ++ (rb :: rowOf rv)

theorem PairH.lt {w : World} {b : Nat} {v : Value} {rb : Nat} {rv : Value} {L : List It} {n : Nat} {M : List It} (h : PairH w b v rb rv L n M) : ∀ k ∈ fpP b v rb rv, k < w.heap.size := fun k hk => by
  rcases List.mem_append.1 hk with h1 | h1
  · exact h.heap.lt2 k h1
  · exact h.ref.lt k h1
theorem PairH.upd {fp : List Nat} {w w' : World} {b : Nat} {v : Value} {rb : Nat} {rv : Value} {L : List It} {n : Nat} {M : List It} (h : PairH w b v rb rv L n M) (hu : Upd fp w w') (hd : ∀ k ∈ fpP b v rb rv, k ∉ fp) : PairH w' b v rb rv L n M :=
  ⟨h.heap.upd2 hu fun k hk => hd k (List.mem_append_left _ hk), h.ref.upd hu fun k hk => hd k (List.mem_append_right _ hk), h.dis⟩
theorem PairH.below {w w' : World} {b : Nat} {v : Value} {rb : Nat} {rv : Value} {L : List It} {n : Nat} {M : List It} (h : PairH w b v rb rv L n M) (hb : Below w.heap.size w w') : PairH w' b v rb rv L n M :=
  h.upd (Upd.of_below hb []) (by simp)

/-- From w to w': the pair's blocks alone, and new ones. -/
structure PStep (w : World) (b : Nat) (v : Value) (rb : Nat) (rv : Value) (w' : World) (v' rv' : Value) : Prop where
  upd : Upd (fpP b v rb rv) w w'
  grow : Grow w (fpP b v rb rv) (fpP b v' rb rv')
theorem PStep.refl (w : World) (b : Nat) (v : Value) (rb : Nat) (rv : Value) : PStep w b v rb rv w v rv := ⟨Upd.refl _ _, Grow.refl _ _⟩
theorem PStep.below {w w1 w' : World} {b : Nat} {v : Value} {rb : Nat} {rv v' rv' : Value} (h : PStep w b v rb rv w1 v' rv') (hb : Below w1.heap.size w1 w') : PStep w b v rb rv w' v' rv' :=
  ⟨h.upd.trans (Upd.of_below hb []) (Grow.nil _ _), h.grow⟩
theorem PStep.heap {w w1 w' : World} {b : Nat} {v : Value} {rb : Nat} {rv v1 rv1 v' : Value} {L L' : List It} {n n' : Nat} {M : List It} (h : PStep w b v rb rv w1 v1 rv1) (hp : PairH w1 b v1 rb rv1 L n M)
    (hh : HeapH w' b fLess ltK L' n' v') (hu : Upd (b :: rowOf v1) w1 w') (hg : Grow w1 (b :: rowOf v1) (b :: rowOf v')) : PStep w b v rb rv w' v' rv1 ∧ PairH w' b v' rb rv1 L' n' M := by
  have hf : ∀ k ∈ b :: rowOf v1, k ∈ fpP b v1 rb rv1 := fun k hk => List.mem_append_left _ hk
  refine ⟨⟨h.upd.trans hu fun k hk => h.grow k (hf k hk), fun k hk => ?_⟩, hh, hp.ref.upd hu fun k hk hm => hp.dis k hm hk, fun k hk hm => ?_⟩
  · rcases List.mem_append.1 hk with h1 | h1
    · rcases hg k h1 with h2 | h2
      · exact h.grow k (hf k h2)
      · exact .inr (Nat.le_trans h.upd.size h2)
    · exact h.grow k (List.mem_append_right _ h1)
  · rcases hg k hk with h2 | h2
    · exact hp.dis k h2 hm
    · have := hp.ref.lt k hm; omega
theorem PStep.ref {w w1 w' : World} {b : Nat} {v : Value} {rb : Nat} {rv v1 rv1 rv' : Value} {L : List It} {n : Nat} {M M' : List It} (h : PStep w b v rb rv w1 v1 rv1) (hp : PairH w1 b v1 rb rv1 L n M)
    (hh : RefH w' rb M' rv') (hu : Upd (rb :: rowOf rv1) w1 w') (hg : Grow w1 (rb :: rowOf rv1) (rb :: rowOf rv')) : PStep w b v rb rv w' v1 rv' ∧ PairH w' b v1 rb rv' L n M' := by
  have hf : ∀ k ∈ rb :: rowOf rv1, k ∈ fpP b v1 rb rv1 := fun k hk => List.mem_append_right _ hk
  refine ⟨⟨h.upd.trans hu fun k hk => h.grow k (hf k hk), fun k hk => ?_⟩, hp.heap.upd2 hu fun k hk hm => hp.dis k hk hm, hh, fun k hk hm => ?_⟩
  · rcases List.mem_append.1 hk with h1 | h1
    · exact h.grow k (List.mem_append_left _ h1)
    · rcases hg k h1 with h2 | h2
      · exact h.grow k (hf k h2)
      · exact .inr (Nat.le_trans h.upd.size h2)
  · rcases hg k hm with h2 | h2
    · exact hp.dis k hk h2
    · have := hp.heap.lt2 k hk; omega

/-- A call of a script on a pair. -/
def StepPost (w : World) (b : Nat) (v : Value) (rb : Nat) (rv : Value) (L : List It) (n m : Nat) (e : Ending) (w' : World) : Prop :=
  e = .returned (.bool true) ∧ ∃ v' rv' L' n', PairH w' b v' rb rv' L' n' L' ∧ PStep w b v rb rv w' v' rv' ∧ L'.length ≤ L.length + m ∧ n' ≤ n + m

/-- A row of new memory is not of a pair that was there. -/
theorem own_apart {w' : World} {B : Nat} {e : TypeId} {size : Nat} {v : Value} {n : Nat} {xs : List Value} {l : List It} {fp : List Nat} (h : w'.ownsRow B e size v n xs) (hl : ∀ k ∈ fp, k < B) :
    ∀ k off c, v = .slice (some ⟨k, off, none⟩) n c → l ≠ [] → k ∉ fp := fun k off c e _ hm => by
  have h1 := (h.lt k (by rw [e]; rfl)).1
  have h2 := hl k hm
  omega
theorem RdRow.updated {fp : List Nat} {w w' : World} {v : Value} {n size : Nat} {cs : List Value} (h : RdRow w v n size cs) (hu : Upd fp w w') (hd : ∀ k off c, v = .slice (some ⟨k, off, none⟩) n c → cs ≠ [] → k ∉ fp) : RdRow w' v n size cs := by
  obtain ⟨h1, a, cap, h2, h3, h4, h5⟩ := h
  refine ⟨h1, a, cap, h2, h3, h4, fun j u hu' => ?_⟩
  obtain ⟨b, off, h6, h7⟩ := h5 j u hu'
  subst h6
  refine ⟨b, off, rfl, ?_⟩
  have hb := World.block_lt_of_cell? w ⟨b, off + j, none⟩ h7
  rw [World.cell?_of_block (w := w) (a := ⟨b, off + j, none⟩) (hu.block b hb (hd b off cap h2 (by rintro rfl; simp at hu')))]
  exact h7
theorem cellsI_ne {xs : List It} (h : cellsI xs ≠ []) : xs ≠ [] := by rintro rfl; exact h rfl

abbrev tOp : TypeId := 61
abbrev opV (k : Int) (v : Value) : Value := .agg #[.int .i64 k, v]

set_option maxRecDepth 100000 in
set_option maxHeartbeats 1600000 in
theorem step_push {w : World} {b : Nat} {v : Value} {rb : Nat} {rv : Value} {L : List It} {n : Nat} (hp : PairH w b v rb rv L n L) {xs : List It} {vi : Value} (hx : RdRow w vi xs.length 2 (cellsI xs))
    (hdx : ∀ k off c, vi = .slice (some ⟨k, off, none⟩) xs.length c → xs ≠ [] → k ∉ fpP b v rb rv) (hn : L.length + xs.length ≤ 1000000000000) (ht : n + xs.length ≤ 1000000000000) :
    Calls Try.prog 30 #[.pointer (some ⟨b, 0, none⟩), .pointer (some ⟨rb, 0, none⟩), opV 1 vi] w (StepPost w b v rb rv L n xs.length) := by
  obtain ⟨ai, ci, hv, hc1, hc2⟩ := hx.shape
  subst hv
  have hba : Below w.heap.size w (w.alloc (.cells #[.int .i64 1, .slice ai xs.length ci] tOp)) := (Below.refl _ _).alloc (Nat.le_refl _) _
  have hbox := heap_alloc_new w (.cells #[.int .i64 1, .slice ai xs.length ci] tOp)
  have HP0 := Lib.hid (hp.below hba)
  have HX0 := Lib.hid (hx.below hba)
  have HS0 := Lib.hid ((PStep.refl w b v rb rv).below hba)
  have hlt := hp.lt
  have hdx1 : ∀ k off c, (Value.slice ai xs.length ci) = .slice (some ⟨k, off, none⟩) xs.length c → cellsI xs ≠ [] → k ∉ b :: rowOf v := fun k off c e hne hm => hdx k off c e (cellsI_ne hne) (List.mem_append_left _ hm)
  have HDX := Lib.hid hdx1
  have HLT := Lib.hid hlt
  have HBOX := Lib.hid hbox
  clear hp hx hba hdx hlt hdx1 hbox
  go_enter Try.func30, Try.ntmps30
  (repeat' (first | (go_big_may; fail) | go_values | go_skip | go_guarded | go_step | go_upon | go_back | dsimp only))
  refine (twin_calls HX0.out (by omega)).mono ?_
  rintro e w1 ⟨vt, rfl, hown1, hb1⟩
  have HP1 := Lib.hid (HP0.out.below hb1)
  have HX1 := Lib.hid (HX0.out.below hb1)
  have HS1 := Lib.hid (HS0.out.below hb1)
  have HBOX1 := Lib.hid ((hb1.block _ (lt_of_heap HBOX.out)).trans HBOX.out)
  have hap := own_apart (l := xs) hown1 (fp := b :: rowOf v) (fun k hk => by have := HLT.out k (List.mem_append_left _ hk); simp; omega)
  have HO1 := Lib.hid hown1
  have HAP := Lib.hid hap
  clear hb1 HP0 HX0 HS0 HBOX hown1 hap
  (repeat' (first | (go_big_may; fail) | go_values | go_skip | go_guarded | go_step | go_upon | go_back | dsimp only))
  refine (Push_holds lessK HP1.out.heap (RdRow.of_own HO1.out) HAP.out (by omega) (by omega)).mono ?_
  rintro e w2 ⟨rfl, v2, hh2, hu2, hg2⟩
  obtain ⟨hs2, hp2⟩ := HS1.out.heap HP1.out hh2 hu2 hg2
  have hx2 := HX1.out.updated hu2 HDX.out
  have hbox2 := (hu2.block w.heap.size (lt_of_heap HBOX1.out) (fun hm => by have := HLT.out _ (List.mem_append_left _ hm); omega)).trans HBOX1.out
  obtain ⟨o0, o1, _, _, hos⟩ := slot_facts hbox2
  have HS2 := Lib.hid hs2
  have HP2 := Lib.hid hp2
  have HX2 := Lib.hid hx2
  clear HS1 HP1 HX1 HO1 HAP hh2 hu2 hg2 hs2 hp2 hx2 hbox2 HBOX1
  (repeat' (first | (go_big_may; fail) | go_values | go_skip | go_guarded | go_step | go_upon | go_back | dsimp only))
  refine (ref_calls HX2.out (by omega)).mono ?_
  rintro e w3 ⟨vr, rfl, hown3, hb3⟩
  have hap := own_apart (l := xs) hown3 (fp := rb :: rowOf rv) (fun k hk => HP2.out.lt k (List.mem_append_right _ hk))
  have HS3 := Lib.hid (HS2.out.below hb3)
  have HP3 := Lib.hid (HP2.out.below hb3)
  have HO3 := Lib.hid hown3
  have HAP := Lib.hid hap
  clear HS2 HP2 HX2 hown3 hap hb3
  (repeat' (first | (go_big_may; fail) | go_values | go_skip | go_guarded | go_step | go_upon | go_back | dsimp only))
  refine (rPush_calls HP3.out.ref (RdRow.of_own HO3.out) HAP.out (by omega)).mono ?_
  rintro e w4 ⟨rfl, rv4, hh4, hu4, hg4⟩
  obtain ⟨hs4, hp4⟩ := HS3.out.ref HP3.out hh4 hu4 hg4
  have HS4 := Lib.hid hs4
  have HP4 := Lib.hid hp4
  clear HS3 HP3 HO3 HAP hh4 hu4 hg4 hs4 hp4
  (repeat' (first | (go_big_may; fail) | go_values | go_skip | go_guarded | go_step | go_upon | go_back | dsimp only))
  go_ret
  exact ⟨rfl, v2, rv4, _, _, HP4.out, HS4.out, by simp, Nat.le_refl _⟩

theorem leftR_le (L : List It) : (leftR ltK L).length ≤ L.length := List.length_eraseIdx_le L _
theorem Peek_holds {w : World} {b n : Nat} {L : List It} {v : Value} (h : HeapH w b fLess ltK L n v) :
    Calls Try.prog 37 #[.pointer (some ⟨b, 0, none⟩)] w fun e w' => e = .returned (itB (if L = [] then (default, false) else (firstR ltK L, true))) ∧ Below w.heap.size w w' := by
  obtain ⟨l, h1, h2⟩ := h
  refine (Peek_calls h1).mono ?_
  rintro e w' ⟨rfl, h3⟩
  exact ⟨by rw [holds_peek ordK h2], h3⟩
theorem Len_holds {w : World} {b n : Nat} {L : List It} {v : Value} (h : HeapH w b fLess ltK L n v) :
    Calls Try.prog 31 #[.pointer (some ⟨b, 0, none⟩)] w fun e w' => e = .returned (.int .i64 L.length) ∧ w = w' := by
  obtain ⟨l, h1, h2⟩ := h
  have := Len_calls h1
  rwa [h2.length] at this

set_option maxRecDepth 100000 in
set_option maxHeartbeats 1600000 in
theorem step_pop {w : World} {b : Nat} {v : Value} {rb : Nat} {rv : Value} {L : List It} {n : Nat} (hp : PairH w b v rb rv L n L) (vi : Value) {ai : Option Addr} {li ci : Nat} (hvi : vi = .slice ai li ci) (m : Nat) (hn : L.length ≤ 1000000000000) :
    Calls Try.prog 30 #[.pointer (some ⟨b, 0, none⟩), .pointer (some ⟨rb, 0, none⟩), opV 2 vi] w (StepPost w b v rb rv L n m) := by
  subst hvi
  have hba : Below w.heap.size w (w.alloc (.cells #[.int .i64 2, .slice ai li ci] tOp)) := (Below.refl _ _).alloc (Nat.le_refl _) _
  have HP0 := Lib.hid (hp.below hba)
  have HS0 := Lib.hid ((PStep.refl w b v rb rv).below hba)
  clear hp hba
  have hle := leftR_le L
  have hP := Pop_holds lessK HP0.out.heap (by omega)
  have hR : ∀ w1 : World, RefH w1 rb L rv → Calls Try.prog 34 #[.pointer (some ⟨rb, 0, none⟩)] w1 fun e w' => e = .returned (itB (if L = [] then (default, false) else (firstR ltK L, true))) ∧ ∃ v', RefH w' rb (leftR ltK L) v' ∧ Upd (rb :: rowOf rv) w1 w' ∧ Grow w1 (rb :: rowOf rv) (rb :: rowOf v') := fun w1 h => rPop_calls h (by omega)
  generalize (if L = [] then (default, false) else (firstR ltK L, true) : It × Bool) = r at *
  generalize leftR ltK L = L' at *
  obtain ⟨x, ok⟩ := r
  have HP := Lib.hid hP
  have HR := Lib.hid hR
  clear hP hR
  go_enter Try.func30, Try.ntmps30
  (repeat' (first | (go_big_may; fail) | go_values | go_skip | go_guarded | go_step | go_upon | go_back | dsimp only))
  refine HP.out.mono ?_
  rintro e w1 ⟨rfl, v1, hh1, hu1, hg1⟩
  obtain ⟨hs1, hp1⟩ := HS0.out.heap HP0.out hh1 hu1 hg1
  have HS1 := Lib.hid hs1
  have HP1 := Lib.hid hp1
  clear hh1 hu1 hg1 hs1 hp1 HP HP0 HS0
  (repeat' (first | (go_big_may; fail) | go_values | go_skip | go_guarded | go_step | go_upon | go_back | dsimp only))
  have hba1 : Below w1.heap.size w1 (w1.alloc (.cells #[.int .i64 x.key, .int .i64 x.tag] 25)) := (Below.refl _ _).alloc (Nat.le_refl _) _
  have hx1 := heap_alloc_new w1 (.cells #[.int .i64 x.key, .int .i64 x.tag] 25)
  have hp2 := HP1.out.below hba1
  have hs2 := HS1.out.below hba1
  have hlx : w1.heap.size ∉ rb :: rowOf rv := fun hm => by have := HP1.out.lt _ (List.mem_append_right _ hm); omega
  generalize w1.alloc (.cells #[.int .i64 x.key, .int .i64 x.tag] 25) = W1 at *
  generalize w1.heap.size = p at *
  have HS2 := Lib.hid hs2
  have HP2 := Lib.hid hp2
  have HX1 := Lib.hid hx1
  clear hba1 hp2 hs2 hx1 HS1 HP1
  refine (HR.out _ HP2.out.ref).mono ?_
  rintro e w3 ⟨rfl, rv3, hh3, hu3, hg3⟩
  obtain ⟨hs3, hp3⟩ := HS2.out.ref HP2.out hh3 hu3 hg3
  have hx3 := (hu3.block _ (lt_of_heap HX1.out) hlx).trans HX1.out
  obtain ⟨x0, x1, _, _, hxs⟩ := slot_facts hx3
  have hba3 : Below w3.heap.size w3 (w3.alloc (.cells #[.int .i64 x.key, .int .i64 x.tag] tRI)) := (Below.refl _ _).alloc (Nat.le_refl _) _
  have HS3 := Lib.hid (hs3.below hba3)
  have HP3 := Lib.hid (hp3.below hba3)
  clear hh3 hu3 hg3 hs3 hp3 hx3 hba3 HS2 HP2 HX1 hlx HR
  cases ok <;>
  · (repeat' (first | (go_big_may; fail) | go_values | go_skip | go_guarded | go_step | go_upon | go_back | dsimp only))
    refine (like_same x _).mono ?_
    rintro e w5 ⟨rfl, hb5⟩
    have HS5 := Lib.hid (HS3.out.below hb5)
    have HP5 := Lib.hid (HP3.out.below hb5)
    clear HS3 HP3 hb5
    (repeat' (first | (go_big_may; fail) | go_values | go_skip | go_guarded | go_step | go_upon | go_back | dsimp only))
    go_ret
    exact ⟨rfl, v1, rv3, _, _, HP5.out, HS5.out, by omega, by omega⟩

set_option maxRecDepth 100000 in
set_option maxHeartbeats 1600000 in
theorem step_peek {w : World} {b : Nat} {v : Value} {rb : Nat} {rv : Value} {L : List It} {n : Nat} (hp : PairH w b v rb rv L n L) (vi : Value) {ai : Option Addr} {li ci : Nat} (hvi : vi = .slice ai li ci) (m : Nat) :
    Calls Try.prog 30 #[.pointer (some ⟨b, 0, none⟩), .pointer (some ⟨rb, 0, none⟩), opV 3 vi] w (StepPost w b v rb rv L n m) := by
  subst hvi
  have hba : Below w.heap.size w (w.alloc (.cells #[.int .i64 3, .slice ai li ci] tOp)) := (Below.refl _ _).alloc (Nat.le_refl _) _
  have HP0 := Lib.hid (hp.below hba)
  have HS0 := Lib.hid ((PStep.refl w b v rb rv).below hba)
  clear hp hba
  have hP := Peek_holds HP0.out.heap
  have hR : ∀ w1 : World, RefH w1 rb L rv → Calls Try.prog 47 #[.pointer (some ⟨rb, 0, none⟩)] w1 fun e w' => e = .returned (itB (if L = [] then (default, false) else (firstR ltK L, true))) ∧ Below w1.heap.size w1 w' := fun w1 h => rPeek_calls h
  generalize (if L = [] then (default, false) else (firstR ltK L, true) : It × Bool) = r at *
  obtain ⟨x, ok⟩ := r
  have HP := Lib.hid hP
  have HR := Lib.hid hR
  clear hP hR
  go_enter Try.func30, Try.ntmps30
  (repeat' (first | (go_big_may; fail) | go_values | go_skip | go_guarded | go_step | go_upon | go_back | dsimp only))
  refine HP.out.mono ?_
  rintro e w1 ⟨rfl, hb1⟩
  have hba1 : Below w1.heap.size w1 (w1.alloc (.cells #[.int .i64 x.key, .int .i64 x.tag] 25)) := (Below.refl _ _).alloc (Nat.le_refl _) _
  have HS1 := Lib.hid ((HS0.out.below hb1).below hba1)
  have HP1 := Lib.hid ((HP0.out.below hb1).below hba1)
  clear hb1 HP HP0 HS0 hba1
  (repeat' (first | (go_big_may; fail) | go_values | go_skip | go_guarded | go_step | go_upon | go_back | dsimp only))
  have hx1 := heap_alloc_new w1 (.cells #[.int .i64 x.key, .int .i64 x.tag] 25)
  generalize w1.alloc (.cells #[.int .i64 x.key, .int .i64 x.tag] 25) = W1 at *
  generalize w1.heap.size = p at *
  have HX1 := Lib.hid hx1
  clear hx1
  refine (HR.out _ HP1.out.ref).mono ?_
  rintro e w3 ⟨rfl, hb3⟩
  have hx3 := (hb3.block _ (lt_of_heap HX1.out)).trans HX1.out
  obtain ⟨x0, x1, _, _, hxs⟩ := slot_facts hx3
  have hba3 : Below w3.heap.size w3 (w3.alloc (.cells #[.int .i64 x.key, .int .i64 x.tag] tRI)) := (Below.refl _ _).alloc (Nat.le_refl _) _
  have HS3 := Lib.hid ((HS1.out.below hb3).below hba3)
  have HP3 := Lib.hid ((HP1.out.below hb3).below hba3)
  clear hb3 hx3 hba3 HS1 HP1 HX1 HR
  cases ok <;>
  · (repeat' (first | (go_big_may; fail) | go_values | go_skip | go_guarded | go_step | go_upon | go_back | dsimp only))
    refine (like_same x _).mono ?_
    rintro e w5 ⟨rfl, hb5⟩
    have HS5 := Lib.hid (HS3.out.below hb5)
    have HP5 := Lib.hid (HP3.out.below hb5)
    clear HS3 HP3 hb5
    (repeat' (first | (go_big_may; fail) | go_values | go_skip | go_guarded | go_step | go_upon | go_back | dsimp only))
    go_ret
    exact ⟨rfl, v, rv, _, _, HP5.out, HS5.out, by omega, by omega⟩

set_option maxRecDepth 100000 in
set_option maxHeartbeats 1600000 in
theorem step_other {w : World} {b : Nat} {v : Value} {rb : Nat} {rv : Value} {L : List It} {n : Nat} (hp : PairH w b v rb rv L n L) (vi : Value) {ai : Option Addr} {li ci : Nat} (hvi : vi = .slice ai li ci) (m : Nat) (k : Int)
    (h1 : k ≠ 1) (h2 : k ≠ 2) (h3 : k ≠ 3) (h4 : k ≠ 4) (h5 : k ≠ 5) (h6 : k ≠ 6) :
    Calls Try.prog 30 #[.pointer (some ⟨b, 0, none⟩), .pointer (some ⟨rb, 0, none⟩), opV k vi] w (StepPost w b v rb rv L n m) := by
  subst hvi
  have hba : Below w.heap.size w (w.alloc (.cells #[.int .i64 k, .slice ai li ci] tOp)) := (Below.refl _ _).alloc (Nat.le_refl _) _
  have HP0 := Lib.hid (hp.below hba)
  have HS0 := Lib.hid ((PStep.refl w b v rb rv).below hba)
  have e1 : (k == 1) = false := by simpa using h1
  have e2 : (k == 2) = false := by simpa using h2
  have e3 : (k == 3) = false := by simpa using h3
  have e4 : (k == 4) = false := by simpa using h4
  have e5 : (k == 5) = false := by simpa using h5
  have e6 : (k == 6) = false := by simpa using h6
  clear hp hba h1 h2 h3 h4 h5 h6
  go_enter Try.func30, Try.ntmps30
  (repeat' (first | (go_big_may; fail) | go_values | go_skip | go_guarded | go_step | go_upon | go_back | dsimp only))
  go_ret
  exact ⟨rfl, v, rv, _, _, HP0.out, HS0.out, by omega, by omega⟩

set_option maxRecDepth 100000 in
set_option maxHeartbeats 1600000 in
theorem step_len {w : World} {b : Nat} {v : Value} {rb : Nat} {rv : Value} {L : List It} {n : Nat} (hp : PairH w b v rb rv L n L) (vi : Value) {ai : Option Addr} {li ci : Nat} (hvi : vi = .slice ai li ci) (m : Nat) :
    Calls Try.prog 30 #[.pointer (some ⟨b, 0, none⟩), .pointer (some ⟨rb, 0, none⟩), opV 5 vi] w (StepPost w b v rb rv L n m) := by
  subst hvi
  have hba : Below w.heap.size w (w.alloc (.cells #[.int .i64 5, .slice ai li ci] tOp)) := (Below.refl _ _).alloc (Nat.le_refl _) _
  have HP0 := Lib.hid (hp.below hba)
  have HS0 := Lib.hid ((PStep.refl w b v rb rv).below hba)
  clear hp hba
  have hq : ∀ nq, Calls Try.prog 31 #[.pointer (some ⟨b, 0, none⟩)] ((w.alloc (.cells #[.int .i64 5, .slice ai li ci] tOp)).drewN nq) fun e w' => e = .returned (.int .i64 L.length) ∧ w' = (w.alloc (.cells #[.int .i64 5, .slice ai li ci] tOp)).drewN nq := fun nq =>
    (Len_holds (HP0.out.heap.below2 (below_dW _ nq))).mono fun _ _ ⟨h1, h2⟩ => ⟨h1, h2.symm⟩
  have HQ := Lib.hid hq
  obtain ⟨ar, cr, hvr, hr1, hr2⟩ := HP0.out.ref.rd.shape
  subst hvr
  have c0 := HP0.out.ref.c0
  have heq : ((L.length : Int) == L.length) = true := by simp
  have hrb := HP0.out.ref.lt rb (by simp)
  unfold maxLen at hr2
  clear hq
  go_enter Try.func30, Try.ntmps30
  (repeat' (first | (go_big_may; fail) | go_values | go_skip | go_guarded | go_step | go_upon | go_back | dsimp only))
  go_quiet ((go_at_call 31; exact Calls.quiet_of_same (HQ.out _)))
  (repeat' (first | (go_big_may; fail) | go_values | go_skip | go_guarded | go_step | go_upon | go_back | dsimp only))
  go_ret
  exact ⟨rfl, v, _, _, _, HP0.out.below (below_dW _ _), HS0.out.below (below_dW _ _), by omega, by omega⟩

set_option maxRecDepth 100000 in
set_option maxHeartbeats 1600000 in
theorem step_drain {w : World} {b : Nat} {v : Value} {rb : Nat} {rv : Value} {L : List It} {n : Nat} (hp : PairH w b v rb rv L n L) (vi : Value) {ai : Option Addr} {li ci : Nat} (hvi : vi = .slice ai li ci) (m : Nat) (hn : L.length ≤ 1000000000000) :
    Calls Try.prog 30 #[.pointer (some ⟨b, 0, none⟩), .pointer (some ⟨rb, 0, none⟩), opV 6 vi] w (StepPost w b v rb rv L n m) := by
  subst hvi
  have hba : Below w.heap.size w (w.alloc (.cells #[.int .i64 6, .slice ai li ci] tOp)) := (Below.refl _ _).alloc (Nat.le_refl _) _
  have HP0 := Lib.hid (hp.below hba)
  have HS0 := Lib.hid ((PStep.refl w b v rb rv).below hba)
  clear hp hba
  go_enter Try.func30, Try.ntmps30
  (repeat' (first | (go_big_may; fail) | go_values | go_skip | go_guarded | go_step | go_upon | go_back | dsimp only))
  refine (Drain_holds lessK HP0.out.heap (by omega)).mono ?_
  rintro e w1 ⟨va, rfl, hi, v1, hh1, hu1, hg1⟩
  obtain ⟨hs1, hp1⟩ := HS0.out.heap HP0.out hh1 hu1 hg1
  have hrd := hi.rd
  have hap : ∀ k off c, va = .slice (some ⟨k, off, none⟩) (drainR ltK L.length L).length c → cellsI (drainR ltK L.length L) ≠ [] → k ∉ rb :: rowOf rv := fun k off c e _ hm => by
    obtain ⟨g, cap, cur, ⟨h1, _⟩ | ⟨h1, h2, _⟩⟩ := hi
    · rw [h1] at e; cases e
    · rw [h1] at e; cases e
      have := HP0.out.lt _ (List.mem_append_right _ hm); omega
  have HS1 := Lib.hid hs1
  have HP1 := Lib.hid hp1
  have HRD := Lib.hid hrd
  have HAP := Lib.hid hap
  clear hi hh1 hu1 hg1 hs1 hp1 HP0 HS0 hrd hap
  (repeat' (first | (go_big_may; fail) | go_values | go_skip | go_guarded | go_step | go_upon | go_back | dsimp only))
  refine (rDrain_calls HP1.out.ref (by omega)).mono ?_
  rintro e w2 ⟨vr, rfl, hown, rv2, hh2, _, hu2, hg2⟩
  obtain ⟨hs2, hp2⟩ := HS1.out.ref HP1.out hh2 hu2 hg2
  have hrd2 := HRD.out.updated hu2 HAP.out
  have hrr := RdRow.of_own hown
  rw [← drainR_length ltK L] at hrr
  have HS2 := Lib.hid hs2
  have HP2 := Lib.hid hp2
  have HR1 := Lib.hid hrd2
  have HR2 := Lib.hid hrr
  clear hown hh2 hu2 hg2 hs2 hp2 hrd2 hrr HS1 HP1 HRD HAP
  (repeat' (first | (go_big_may; fail) | go_values | go_skip | go_guarded | go_step | go_upon | go_back | dsimp only))
  rw [drainR_length] at HR1 HR2
  refine (alike_calls (xs := drainR ltK L.length L) (by rw [drainR_length]; exact HR1.out) (by rw [drainR_length]; exact HR2.out)).mono ?_
  rintro e w3 ⟨rfl, hb3⟩
  have HS3 := Lib.hid (HS2.out.below hb3)
  have HP3 := Lib.hid (HP2.out.below hb3)
  clear HS2 HP2 HR1 HR2 hb3
  (repeat' (first | (go_big_may; fail) | go_values | go_skip | go_guarded | go_step | go_upon | go_back | dsimp only))
  go_ret
  exact ⟨rfl, _, _, _, _, HP3.out, HS3.out, by simp, by omega⟩

set_option maxRecDepth 100000 in
set_option maxHeartbeats 1600000 in
theorem step_rep0 {w : World} {b : Nat} {v : Value} {rb : Nat} {rv : Value} {L : List It} {n : Nat} (hp : PairH w b v rb rv L n L) (vi : Value) {ai : Option Addr} {ci : Nat} (hvi : vi = .slice ai 0 ci) (m : Nat) :
    Calls Try.prog 30 #[.pointer (some ⟨b, 0, none⟩), .pointer (some ⟨rb, 0, none⟩), opV 4 vi] w (StepPost w b v rb rv L n m) := by
  subst hvi
  have hba : Below w.heap.size w (w.alloc (.cells #[.int .i64 4, .slice ai 0 ci] tOp)) := (Below.refl _ _).alloc (Nat.le_refl _) _
  have HP0 := Lib.hid (hp.below hba)
  have HS0 := Lib.hid ((PStep.refl w b v rb rv).below hba)
  clear hp hba
  go_enter Try.func30, Try.ntmps30
  (repeat' (first | (go_big_may; fail) | go_values | go_skip | go_guarded | go_step | go_upon | go_back | dsimp only))
  go_ret
  exact ⟨rfl, v, rv, _, _, HP0.out, HS0.out, by omega, by omega⟩

set_option maxRecDepth 100000 in
set_option maxHeartbeats 1600000 in
theorem step_rep {w : World} {b : Nat} {v : Value} {rb : Nat} {rv : Value} {L : List It} {n : Nat} (hp : PairH w b v rb rv L n L) {xs : List It} {vi : Value} (hx : RdRow w vi xs.length 2 (cellsI xs))
    (hdx : ∀ k off c, vi = .slice (some ⟨k, off, none⟩) xs.length c → xs ≠ [] → k ∉ fpP b v rb rv) (hne : xs ≠ []) (hn : L.length ≤ 100000000000) (hxn : xs.length ≤ 100000000000) (ht : n ≤ 100000000000) :
    Calls Try.prog 30 #[.pointer (some ⟨b, 0, none⟩), .pointer (some ⟨rb, 0, none⟩), opV 4 vi] w (StepPost w b v rb rv L n xs.length) := by
  obtain ⟨ai, ci, hv, hc1, hc2⟩ := hx.shape
  subst hv
  have hlen : 0 < xs.length := List.length_pos_iff.2 hne
  have hba : Below w.heap.size w (w.alloc (.cells #[.int .i64 4, .slice ai xs.length ci] tOp)) := (Below.refl _ _).alloc (Nat.le_refl _) _
  have hbox := heap_alloc_new w (.cells #[.int .i64 4, .slice ai xs.length ci] tOp)
  have HP0 := Lib.hid (hp.below hba)
  have hx0 := hx.below hba
  have HX0 := Lib.hid hx0
  have HS0 := Lib.hid ((PStep.refl w b v rb rv).below hba)
  have HLT := Lib.hid hp.lt
  have hdx1 : ∀ k off c, (Value.slice ai xs.length ci) = .slice (some ⟨k, off, none⟩) xs.length c → cellsI xs ≠ [] → k ∉ b :: rowOf v := fun k off c e hne hm => hdx k off c e (cellsI_ne hne) (List.mem_append_left _ hm)
  have HDX := Lib.hid hdx1
  have HBOX := Lib.hid hbox
  obtain ⟨bx, off, cp, hsl, y0, y1⟩ := hx.item (i := 0) hlen
  cases hsl
  have hbx : bx < w.heap.size := World.block_lt_of_cell? _ _ y0
  have hle := leftR_le L
  have hP := Replace_holds lessK HP0.out.heap (xs.getD 0 default) (by omega) (by omega)
  have hR : ∀ w1 : World, RefH w1 rb L rv → Calls Try.prog 49 #[.pointer (some ⟨rb, 0, none⟩), (xs.getD 0 default).v] w1 fun e w' => e = .returned (itB (if L = [] then (default, false) else (firstR ltK L, true))) ∧ ∃ v', RefH w' rb (leftR ltK L ++ [xs.getD 0 default]) v' ∧ Upd (rb :: rowOf rv) w1 w' ∧ Grow w1 (rb :: rowOf rv) (rb :: rowOf v') := fun w1 h => rReplace_calls h _ (by omega)
  generalize (if L = [] then (default, false) else (firstR ltK L, true) : It × Bool) = r at *
  generalize leftR ltK L = L' at *
  have hg0 : xs.getD 0 default = xs.getD 0 default := rfl
  generalize hz : xs.getD 0 default = z at *
  obtain ⟨x, ok⟩ := r
  have HP := Lib.hid hP
  have HR := Lib.hid hR
  have HZ := Lib.hid hz
  have hl1 : (0 : Int) < xs.length := by omega
  simp only [Nat.zero_mul, Nat.add_zero] at y0 y1
  clear hp hx hba hdx hdx1 hbox hP hR hg0 hz hx0 hne
  go_enter Try.func30, Try.ntmps30
  (repeat' (first | (go_big_may; fail) | go_values | go_skip | go_guarded | go_step | go_upon | go_back | dsimp only))
  refine HP.out.mono ?_
  rintro e w1 ⟨rfl, v1, hh1, hu1, hg1⟩
  obtain ⟨hs1, hp1⟩ := HS0.out.heap HP0.out hh1 hu1 hg1
  have hbox1 := (hu1.block w.heap.size (lt_of_heap HBOX.out) (fun hm => by have := HLT.out _ (List.mem_append_left _ hm); omega)).trans HBOX.out
  have hba1 : Below w1.heap.size w1 (w1.alloc (.cells #[.int .i64 x.key, .int .i64 x.tag] 25)) := (Below.refl _ _).alloc (Nat.le_refl _) _
  have hx1 := heap_alloc_new w1 (.cells #[.int .i64 x.key, .int .i64 x.tag] 25)
  have hxs1 := (HX0.out.updated hu1 HDX.out).below hba1
  have hbox2 := (hba1.block _ (lt_of_heap hbox1)).trans hbox1
  have HP2 := Lib.hid (hp1.below hba1)
  have HS2 := Lib.hid (hs1.below hba1)
  obtain ⟨o0, o1, _, _, hos⟩ := slot_facts hbox1
  have hlx : w1.heap.size ∉ rb :: rowOf rv := fun hm => by have := hp1.lt _ (List.mem_append_right _ hm); omega
  have HX1 := Lib.hid hx1
  have HXS1 := Lib.hid hxs1
  clear hh1 hu1 hg1 hs1 hp1 hbox1 hba1 hx1 hxs1 hbox2 HP HP0 HS0 HX0 HBOX y0 y1
  (repeat' (first | (go_big_may; fail) | go_values | go_skip | go_guarded | go_step | go_upon | go_back | dsimp only))
  refine (ref_calls HXS1.out (by omega)).mono ?_
  rintro e w3 ⟨vr, rfl, hown3, hb3⟩
  have hx3 := (hb3.block _ (lt_of_heap HX1.out)).trans HX1.out
  have HP3 := Lib.hid (HP2.out.below hb3)
  have HS3 := Lib.hid (HS2.out.below hb3)
  obtain ⟨br, offr, cpr, hsl, q0, q1⟩ := (RdRow.of_own hown3).item (i := 0) hlen
  subst hsl
  rw [HZ.out] at q0 q1
  simp only [Nat.zero_mul, Nat.add_zero] at q0 q1
  have HX3 := Lib.hid hx3
  generalize w1.heap.size = p at *
  clear hown3 hb3 hx3 HP2 HS2 HX1 HXS1
  (repeat' (first | (go_big_may; fail) | go_values | go_skip | go_guarded | go_step | go_upon | go_back | dsimp only))
  refine (HR.out _ HP3.out.ref).mono ?_
  rintro e w4 ⟨rfl, rv4, hh4, hu4, hg4⟩
  obtain ⟨hs4, hp4⟩ := HS3.out.ref HP3.out hh4 hu4 hg4
  have hx4 := (hu4.block _ (lt_of_heap HX3.out) hlx).trans HX3.out
  obtain ⟨x0, x1, _, _, hxs⟩ := slot_facts hx4
  have hba4 : Below w4.heap.size w4 (w4.alloc (.cells #[.int .i64 x.key, .int .i64 x.tag] tRI)) := (Below.refl _ _).alloc (Nat.le_refl _) _
  have HS4 := Lib.hid (hs4.below hba4)
  have HP4 := Lib.hid (hp4.below hba4)
  clear hh4 hu4 hg4 hs4 hp4 hx4 hba4 HS3 HP3 HX3 hlx HR q0 q1
  cases ok <;>
  · (repeat' (first | (go_big_may; fail) | go_values | go_skip | go_guarded | go_step | go_upon | go_back | dsimp only))
    refine (like_same x _).mono ?_
    rintro e w5 ⟨rfl, hb5⟩
    have HS5 := Lib.hid (HS4.out.below hb5)
    have HP5 := Lib.hid (HP4.out.below hb5)
    clear HS4 HP4 hb5
    (repeat' (first | (go_big_may; fail) | go_values | go_skip | go_guarded | go_step | go_upon | go_back | dsimp only))
    go_ret
    exact ⟨rfl, v1, rv4, _, _, HP5.out, HS5.out, by simp; omega, by omega⟩

/-- One call of a script. -/
theorem step_calls {w : World} {b : Nat} {v : Value} {rb : Nat} {rv : Value} {L : List It} {n : Nat} (hp : PairH w b v rb rv L n L) (k : Int) {xs : List It} {vi : Value} (hx : RdRow w vi xs.length 2 (cellsI xs))
    (hdx : ∀ k off c, vi = .slice (some ⟨k, off, none⟩) xs.length c → xs ≠ [] → k ∉ fpP b v rb rv) (hn : L.length ≤ 10000000000) (hxn : xs.length ≤ 10000000000) (ht : n ≤ 10000000000) :
    Calls Try.prog 30 #[.pointer (some ⟨b, 0, none⟩), .pointer (some ⟨rb, 0, none⟩), opV k vi] w (StepPost w b v rb rv L n xs.length) := by
  obtain ⟨ai, ci, hv, _, _⟩ := hx.shape
  by_cases h1 : k = 1
  · subst h1; exact step_push hp hx hdx (by omega) (by omega)
  by_cases h2 : k = 2
  · subst h2; exact step_pop hp vi hv _ (by omega)
  by_cases h3 : k = 3
  · subst h3; exact step_peek hp vi hv _
  by_cases h4 : k = 4
  · subst h4
    by_cases h0 : xs = []
    · subst h0; exact step_rep0 hp vi hv _
    · exact step_rep hp hx hdx h0 (by omega) (by omega) (by omega)
  by_cases h5 : k = 5
  · subst h5; exact step_len hp vi hv _
  by_cases h6 : k = 6
  · subst h6; exact step_drain hp vi hv _ (by omega)
  exact step_other hp vi hv _ k h1 h2 h3 h4 h5 h6
end Go.Proofs.Ytgahkodbjokgfaa
