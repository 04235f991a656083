/- HeapTwins walked. -/
import Derived.Test.YtgahkodbjokgfaaHeapPlays
namespace Go.Proofs.Ytgahkodbjokgfaa
open Go.RowKit

/-- Two pairs apart from one another. -/
structure TwoP (w0 : World) (b1 : Nat) (v1 : Value) (r1 : Nat) (u1 : Value) (L1 : List It) (n1 : Nat) (b2 : Nat) (v2 : Value) (r2 : Nat) (u2 : Value) (L2 : List It) (n2 : Nat) (wr : World) : Prop where
  one : PairB w0 b1 v1 r1 u1 L1 n1 wr
  two : PairB w0 b2 v2 r2 u2 L2 n2 wr
  dis : ∀ k ∈ fpP b1 v1 r1 u1, k ∉ fpP b2 v2 r2 u2
section
variable {w0 wr w' : World} {b1 : Nat} {v1 : Value} {r1 : Nat} {u1 : Value} {L1 : List It} {n1 : Nat} {b2 : Nat} {v2 : Value} {r2 : Nat} {u2 : Value} {L2 : List It} {n2 : Nat}
theorem TwoP.later (h : TwoP w0 b1 v1 r1 u1 L1 n1 b2 v2 r2 u2 L2 n2 wr) (hb : Below wr.heap.size wr w') : TwoP w0 b1 v1 r1 u1 L1 n1 b2 v2 r2 u2 L2 n2 w' :=
  ⟨h.one.later hb, h.two.later hb, h.dis⟩
theorem TwoP.step1 {v' u' : Value} {L' : List It} {n' : Nat} (h : TwoP w0 b1 v1 r1 u1 L1 n1 b2 v2 r2 u2 L2 n2 wr) (hs : PStep wr b1 v1 r1 u1 w' v' u') (hp : PairH w' b1 v' r1 u' L' n' L') : TwoP w0 b1 v' r1 u' L' n' b2 v2 r2 u2 L2 n2 w' :=
  ⟨h.one.step hs hp, h.two.beside hs.upd h.one.own (fun k hk hm => h.dis k hm hk), fun k hk hm => (hs.grow k hk).elim (fun h1 => h.dis k h1 hm) (fun h1 => by have := h.two.pair.lt k hm; omega)⟩
theorem TwoP.step2 {v' u' : Value} {L' : List It} {n' : Nat} (h : TwoP w0 b1 v1 r1 u1 L1 n1 b2 v2 r2 u2 L2 n2 wr) (hs : PStep wr b2 v2 r2 u2 w' v' u') (hp : PairH w' b2 v' r2 u' L' n' L') : TwoP w0 b1 v1 r1 u1 L1 n1 b2 v' r2 u' L' n' w' :=
  ⟨h.one.beside hs.upd h.two.own (fun k hk hm => h.dis k hk hm), h.two.step hs hp, fun k hk hm => (hs.grow k hm).elim (fun h1 => h.dis k hk h1) (fun h1 => by have := h.one.pair.lt k hk; omega)⟩
end

theorem items_apart {w w' : World} {D : List It} {v : Value} (hi : Items w D v w') {fp : List Nat} (hf : ∀ k ∈ fp, k < w.heap.size) : ∀ k off c, v = .slice (some ⟨k, off, none⟩) D.length c → cellsI D ≠ [] → k ∉ fp := fun k off c e _ hm => by
  obtain ⟨g, cap, cur, ⟨h1, _⟩ | ⟨h1, h2, _⟩⟩ := hi
  · rw [h1] at e; cases e
  · rw [h1] at e; cases e
    have := hf _ hm; omega

theorem inFirst_ge {ops : List OpD} {k : Nat} (h : ops.length ≤ k) : inFirst ops (k + 1) = inFirst ops k := by
  unfold inFirst; rw [List.take_of_length_le h, List.take_of_length_le (by omega)]
theorem inFirst_mono (ops : List OpD) (k : Nat) : inFirst ops k ≤ inFirst ops (k + 1) := by
  by_cases h : k < ops.length
  · rw [inFirst_succ h]; omega
  · rw [inFirst_ge (by omega)]; exact Nat.le_refl _

/-- The two pairs at the start. -/
theorem TwoP.start {w w1 w2 : World} {b1 b2 : Nat} {v1 v2 : Value} {x : It} (hh1 : HeapH w1 b1 fLess ltK [] 0 v1) (hu1 : Upd [] w w1) (hg1 : Grow w [] (b1 :: rowOf v1))
    (hh2 : HeapH w2 b2 fLess ltK [x] 1 v2) (hu2 : Upd [] (w1.alloc (.cells #[.int .i64 x.key, .int .i64 x.tag] 25)) w2) (hg2 : Grow (w1.alloc (.cells #[.int .i64 x.key, .int .i64 x.tag] 25)) [] (b2 :: rowOf v2)) :
    TwoP w b1 v1 w2.heap.size (.slice none 0 0) [] 0 b2 v2 (w2.heap.size + 2) (.slice (some ⟨w2.heap.size + 1, 0, none⟩) 1 1) [x] 1
      (((w2.alloc (.cells #[.slice none 0 0] tRH)).alloc (.cells #[.int .i64 x.key, .int .i64 x.tag] tRI)).alloc (.cells #[.slice (some ⟨w2.heap.size + 1, 0, none⟩) 1 1] tRH)) := by
  have hba1 : Below w1.heap.size w1 (w1.alloc (.cells #[.int .i64 x.key, .int .i64 x.tag] 25)) := (Below.refl _ _).alloc (Nat.le_refl _) _
  have hb12 : Below w1.heap.size w1 w2 := hba1.trans (hu2.below hba1.size (by simp))
  have hb23 : Below w2.heap.size w2 (((w2.alloc (.cells #[.slice none 0 0] tRH)).alloc (.cells #[.int .i64 x.key, .int .i64 x.tag] tRI)).alloc (.cells #[.slice (some ⟨w2.heap.size + 1, 0, none⟩) 1 1] tRH)) := (((Below.refl _ _).alloc (Nat.le_refl _) _).alloc (by simp) _).alloc (by simp; omega) _
  have hB1 : Below w.heap.size w w1 := hu1.below (Nat.le_refl _) (by simp)
  have hB2 : Below w.heap.size w w2 := hB1.trans (hb12.mono hB1.size)
  have hB3 := hB2.trans (hb23.mono hB2.size)
  have q0 : (((w2.alloc (.cells #[.slice none 0 0] tRH)).alloc (.cells #[.int .i64 x.key, .int .i64 x.tag] tRI)).alloc (.cells #[.slice (some ⟨w2.heap.size + 1, 0, none⟩) 1 1] tRH)).heap[w2.heap.size]? = some (.cells #[.slice none 0 0] tRH (0, 0)) := by
    rw [heap_alloc_old _ _ (by simp; omega), heap_alloc_old _ _ (by simp)]; exact heap_alloc_new _ _
  have q1 : (((w2.alloc (.cells #[.slice none 0 0] tRH)).alloc (.cells #[.int .i64 x.key, .int .i64 x.tag] tRI)).alloc (.cells #[.slice (some ⟨w2.heap.size + 1, 0, none⟩) 1 1] tRH)).heap[w2.heap.size + 1]? = some (.cells #[.int .i64 x.key, .int .i64 x.tag] tRI (0, 0)) := by
    rw [heap_alloc_old _ _ (by simp)]
    have := heap_alloc_new (w2.alloc (.cells #[.slice none 0 0] tRH)) (.cells #[.int .i64 x.key, .int .i64 x.tag] tRI)
    simpa using this
  have q2 : (((w2.alloc (.cells #[.slice none 0 0] tRH)).alloc (.cells #[.int .i64 x.key, .int .i64 x.tag] tRI)).alloc (.cells #[.slice (some ⟨w2.heap.size + 1, 0, none⟩) 1 1] tRH)).heap[w2.heap.size + 2]? = some (.cells #[.slice (some ⟨w2.heap.size + 1, 0, none⟩) 1 1] tRH (0, 0)) := by
    have := heap_alloc_new ((w2.alloc (.cells #[.slice none 0 0] tRH)).alloc (.cells #[.int .i64 x.key, .int .i64 x.tag] tRI)) (.cells #[.slice (some ⟨w2.heap.size + 1, 0, none⟩) 1 1] tRH)
    simpa using this
  have hl1 := (hh1.below2 hb12).lt2
  have hl1' := hh1.lt2
  have hl2 := hh2.lt2
  have hr1 : rowOf (.slice none 0 0) = [] := rfl
  have hr2 : rowOf (.slice (some ⟨w2.heap.size + 1, 0, none⟩) 1 1) = [w2.heap.size + 1] := rfl
  have hg1' : ∀ k ∈ b1 :: rowOf v1, w.heap.size ≤ k := fun k hk => (hg1 k hk).elim (fun h => by cases h) id
  have hg2' : ∀ k ∈ b2 :: rowOf v2, w1.heap.size + 1 ≤ k := fun k hk => (hg2 k hk).elim (fun h => by cases h) (fun h => by simpa using h)
  have hs1 := hB1.size
  have hs12 := hb12.size
  have two : ∀ k, k ∈ (w2.heap.size + 2) :: rowOf (.slice (some ⟨w2.heap.size + 1, 0, none⟩) 1 1) → k = w2.heap.size + 2 ∨ k = w2.heap.size + 1 := fun k hk => by rw [hr2] at hk; simpa using hk
  have one : ∀ k, k ∈ w2.heap.size :: rowOf (.slice none 0 0) → k = w2.heap.size := fun k hk => by rw [hr1] at hk; simpa using hk
  refine ⟨⟨⟨(hh1.below2 hb12).below2 hb23, ⟨q0, by simpa [cellsI] using World.ownsRow_nil _ _ _ _⟩, fun k hk hm => ?_⟩, fun k hk => ?_, hB3⟩, ⟨⟨hh2.below2 hb23, ⟨q2, ⟨rfl, .inr ⟨w2.heap.size + 1, 1, _, rfl, Nat.zero_le _, q1, Nat.le_refl _, by unfold maxLen; omega, rfl, rfl⟩⟩⟩, fun k hk hm => ?_⟩, fun k hk => ?_, hB3⟩, fun k hk hm => ?_⟩
  · have h1 := hl1 k hk
    have := one k hm; omega
  · rcases List.mem_append.1 hk with hk | hk
    · exact hg1' k hk
    · have := one k hk; omega
  · have h1 := hl2 k hk
    have := two k hm; omega
  · rcases List.mem_append.1 hk with hk | hk
    · have := hg2' k hk; omega
    · have := two k hk; omega
  · rcases List.mem_append.1 hk with hk | hk
    · have h1 := hl1' k hk
      rcases List.mem_append.1 hm with hm | hm
      · have := hg2' k hm; omega
      · have := two k hm; omega
    · have h1 := one k hk
      rcases List.mem_append.1 hm with hm | hm
      · have := hl2 k hm; omega
      · have := two k hm; omega

set_option maxRecDepth 100000 in
set_option maxHeartbeats 3200000 in
theorem heapTwins_walk (w : World) (o1 : List OpD) (v1 : Value) (rd1 : OpsRow w v1 o1) (hn1 : o1.length ≤ 1048576) (hm1 : inFirst o1 o1.length ≤ 1048576) (o2 : List OpD) (v2 : Value) (rd2 : OpsRow w v2 o2) (hn2 : o2.length ≤ 1048576) (hm2 : inFirst o2 o2.length ≤ 1048576) :
    Calls Try.prog 9 #[v1, v2] w fun e w' => e = .returned (.bool true) ∧ Below w.heap.size w w' := by
  obtain ⟨a1, c1, hv1, hc1, hd1⟩ := rd1.row.shape
  obtain ⟨a2, c2, hv2, hc2, hd2⟩ := rd2.row.shape
  unfold maxLen at hd1 hd2
  subst hv1 hv2
  have RD1 := Lib.hid rd1
  have RD2 := Lib.hid rd2
  clear rd1 rd2
  have hrd0 : RdRow w (.slice none 0 0) ([] : List It).length 2 (cellsI []) := ⟨rfl, none, 0, rfl, Nat.le_refl _, by simp [maxLen], fun j u hu => by simp [cellsI] at hu⟩
  have HRD0 := Lib.hid hrd0
  clear hrd0
  go_enter Try.func9, Try.ntmps9
  (repeat' (first | (go_big_may; fail) | go_values | go_skip | go_guarded | go_step | go_upon | go_back | dsimp only))
  refine (Items_holds HRD0.out (by simp)).mono ?_
  rintro e w1 ⟨b1, vh1, rfl, hh1, hu1, hg1⟩
  have HH1 := Lib.hid hh1
  have HU1 := Lib.hid hu1
  have HG1 := Lib.hid hg1
  clear hh1 hu1 hg1 HRD0
  (repeat' (first | (go_big_may; fail) | go_values | go_skip | go_guarded | go_step | go_upon | go_back | dsimp only))
  have hrd := RdRow.fresh w1 #[.int .i64 4, .int .i64 4] 25 1 2 rfl (by unfold maxLen; omega)
  refine (Items_holds (xs := [⟨4, 4⟩]) hrd (by decide)).mono ?_
  rintro e w2 ⟨b2, vh2, rfl, hh2, hu2, hg2⟩
  have HT := Lib.hid (TwoP.start (x := ⟨4, 4⟩) HH1.out HU1.out HG1.out hh2 hu2 hg2)
  clear hrd hh2 hu2 hg2 HH1 HU1 HG1
  (repeat' (first | (go_big_may; fail) | go_values | go_skip | go_guarded | go_step | go_upon | go_back | dsimp only))
  refine (wakes_calls _).mono ?_
  rintro e w3 ⟨rfl, hb3⟩
  have HT3 := Lib.hid (HT.out.later hb3)
  clear HT hb3
  (repeat' (first | (go_big_may; fail) | go_values | go_skip | go_guarded | go_step | go_upon | go_back | dsimp only))
  generalize hr1 : w2.heap.size = r1 at *
  go_loopw [9] (fun x wr => ∃ k : Nat, x = .int .i64 k ∧ k ≤ o1.length + o2.length ∧ ∃ v1 u1 L1 n1 v2 u2 L2 n2, TwoP w b1 v1 r1 u1 L1 n1 b2 v2 (r1 + 2) u2 L2 n2 wr ∧ (L1.length ≤ inFirst o1 k ∧ n1 ≤ inFirst o1 k ∧ L2.length ≤ 1 + inFirst o2 k ∧ n2 ≤ 1 + inFirst o2 k)) (fun x _ => o1.length + o2.length - (intOf x).toNat)
  case atStart => exact ⟨0, rfl, Nat.zero_le _, _, _, _, _, _, _, _, _, HT3.out, by simp, by simp, by simp, by simp⟩
  case round =>
    obtain ⟨k, rfl, hk, v1, u1, L1, n1, v2, u2, L2, n2, ht, hl1, hnn1, hl2, hnn2⟩ := hrel
    clear HT3
    have hf1 := inFirst_le o1 k
    have hf2 := inFirst_le o2 k
    have hfm1 := inFirst_mono o1 k
    have hfm2 := inFirst_mono o2 k
    have hk1 : (0 : Int) ≤ k := by omega
    by_cases h1 : k < o1.length
    · obtain ⟨bx1, off1, cp1, hsl, x01, x11, hx1⟩ := (RD1.out.below ht.one.below).get h1
      cases hsl
      obtain ⟨_, _, _, _, _, _, hxa1⟩ := RD1.out.get h1
      have his1 := inFirst_succ h1
      have hfl1 := inFirst_le o1 (k + 1)
      generalize o1.getD k default = o at *
      obtain ⟨ok1, ov1, oxs1⟩ := o
      dsimp only at x01 x11 hx1 hxa1 his1
      obtain ⟨ai1, ci1, hov, hi11, hi21⟩ := hx1.shape
      subst hov
      have hkk1 : (k : Int) < o1.length := by omega
      have HX1 := Lib.hid hx1
      have HAP1 := Lib.hid (RdRow.apart hxa1 ht.one.own)
      have HIS1 := Lib.hid his1
      have HT := Lib.hid ht
      have g1 : L1.length ≤ 10000000000 := by omega
      have g2 : n1 ≤ 10000000000 := by omega
      have g3 : oxs1.length ≤ 10000000000 := by omega
      clear hx1 hxa1 his1 ht
      (repeat' (first | (go_big_may; fail) | go_values | go_skip | go_guarded | go_step | go_upon | go_back | dsimp only))
      refine (step_calls HT.out.one.pair ok1 HX1.out HAP1.out g1 g3 g2).mono ?_
      rintro e w5 ⟨rfl, v1', u1', L1', n1', hp, hs, hl1', hn1'⟩
      have HT5 := Lib.hid (HT.out.step1 hs hp)
      clear hp hs HT HX1 HAP1 x01 x11
      by_cases h2 : k < o2.length
      · obtain ⟨bx2, off2, cp2, hsl, x02, x12, hx2⟩ := (RD2.out.below HT5.out.one.below).get h2
        cases hsl
        obtain ⟨_, _, _, _, _, _, hxa2⟩ := RD2.out.get h2
        have his2 := inFirst_succ h2
        have hfl2 := inFirst_le o2 (k + 1)
        generalize o2.getD k default = o at *
        obtain ⟨ok2, ov2, oxs2⟩ := o
        dsimp only at x02 x12 hx2 hxa2 his2
        obtain ⟨ai2, ci2, hov, hi12, hi22⟩ := hx2.shape
        subst hov
        have hkk2 : (k : Int) < o2.length := by omega
        have HX2 := Lib.hid hx2
        have HAP2 := Lib.hid (RdRow.apart hxa2 HT5.out.two.own)
        have HIS2 := Lib.hid his2
        have g1 : L2.length ≤ 10000000000 := by omega
        have g2 : n2 ≤ 10000000000 := by omega
        have g3 : oxs2.length ≤ 10000000000 := by omega
        clear hx2 hxa2 his2
        (repeat' (first | (go_big_may; fail) | go_values | go_skip | go_guarded | go_step | go_upon | go_back | dsimp only))
        refine (step_calls HT5.out.two.pair ok2 HX2.out HAP2.out g1 g3 g2).mono ?_
        rintro e w6 ⟨rfl, v2', u2', L2', n2', hp, hs, hl2', hn2'⟩
        have HT6 := Lib.hid (HT5.out.step2 hs hp)
        clear hp hs HT5 HX2 HAP2 x02 x12
        (repeat' (first | (go_big_may; fail) | go_values | go_skip | go_guarded | go_step | go_upon | go_back | dsimp only))
        go_roundw
        case rel => exact ⟨k + 1, by simp, by omega, _, _, _, _, _, _, _, _, HT6.out, by have := HIS1.out; omega, by have := HIS1.out; omega, by have := HIS2.out; omega, by have := HIS2.out; omega⟩
        case measure => simp [intOf] <;> omega
      · (repeat' (first | (go_big_may; fail) | go_values | go_skip | go_guarded | go_step | go_upon | go_back | dsimp only))
        go_roundw
        case rel => exact ⟨k + 1, by simp, by omega, _, _, _, _, _, _, _, _, HT5.out, by have := HIS1.out; omega, by have := HIS1.out; omega, by omega, by omega⟩
        case measure => simp [intOf] <;> omega
    · by_cases h2 : k < o2.length
      · obtain ⟨bx2, off2, cp2, hsl, x02, x12, hx2⟩ := (RD2.out.below ht.one.below).get h2
        cases hsl
        obtain ⟨_, _, _, _, _, _, hxa2⟩ := RD2.out.get h2
        have his2 := inFirst_succ h2
        have hfl2 := inFirst_le o2 (k + 1)
        generalize o2.getD k default = o at *
        obtain ⟨ok2, ov2, oxs2⟩ := o
        dsimp only at x02 x12 hx2 hxa2 his2
        obtain ⟨ai2, ci2, hov, hi12, hi22⟩ := hx2.shape
        subst hov
        have hkk2 : (k : Int) < o2.length := by omega
        have HX2 := Lib.hid hx2
        have HAP2 := Lib.hid (RdRow.apart hxa2 ht.two.own)
        have HIS2 := Lib.hid his2
        have HT := Lib.hid ht
        have g1 : L2.length ≤ 10000000000 := by omega
        have g2 : n2 ≤ 10000000000 := by omega
        have g3 : oxs2.length ≤ 10000000000 := by omega
        clear hx2 hxa2 his2 ht
        (repeat' (first | (go_big_may; fail) | go_values | go_skip | go_guarded | go_step | go_upon | go_back | dsimp only))
        refine (step_calls HT.out.two.pair ok2 HX2.out HAP2.out g1 g3 g2).mono ?_
        rintro e w6 ⟨rfl, v2', u2', L2', n2', hp, hs, hl2', hn2'⟩
        have HT6 := Lib.hid (HT.out.step2 hs hp)
        clear hp hs HT HX2 HAP2 x02 x12
        (repeat' (first | (go_big_may; fail) | go_values | go_skip | go_guarded | go_step | go_upon | go_back | dsimp only))
        go_roundw
        case rel => exact ⟨k + 1, by simp, by omega, _, _, _, _, _, _, _, _, HT6.out, by omega, by omega, by have := HIS2.out; omega, by have := HIS2.out; omega⟩
        case measure => simp [intOf] <;> omega
      · have HT := Lib.hid ht
        have g1 : L1.length ≤ 1000000000 := by omega
        have g2 : L2.length ≤ 1000000000 := by omega
        clear ht RD1 RD2
        (repeat' (first | (go_big_may; fail) | go_values | go_skip | go_guarded | go_step | go_upon | go_back | dsimp only))
        refine (Drain_holds lessK HT.out.one.pair.heap (by omega)).mono ?_
        rintro e w5 ⟨va, rfl, hi, v5, hh5, hu5, hg5⟩
        obtain ⟨hs5, hp5⟩ := (PStep.refl wr b1 v1 r1 u1).heap HT.out.one.pair hh5 hu5 hg5
        have hap := items_apart hi (fp := r1 :: rowOf u1) fun k hk => HT.out.one.pair.lt k (List.mem_append_right _ hk)
        have HB5 := Lib.hid (HT.out.two.beside hu5 (fun k hk => HT.out.one.own k (List.mem_append_left _ hk)) (fun k hk hm => HT.out.dis k (List.mem_append_left _ hm) hk))
        have HOW := Lib.hid HT.out.one.own
        have HDI := Lib.hid HT.out.dis
        have HP5 := Lib.hid hp5
        have HRD := Lib.hid hi.rd
        have HAP := Lib.hid hap
        clear hh5 hu5 hg5 hs5 hp5 hi hap HT
        (repeat' (first | (go_big_may; fail) | go_values | go_skip | go_guarded | go_step | go_upon | go_back | dsimp only))
        refine (rDrain_calls HP5.out.ref (by omega)).mono ?_
        rintro e w6 ⟨vr6, rfl, hown, rv6, hh6, _, hu6, hg6⟩
        have hr1 := HRD.out.updated hu6 HAP.out
        have hr2 : RdRow w6 vr6 (drainR ltK L1.length L1).length 2 (cellsI (drainR ltK L1.length L1)) := by rw [drainR_length]; exact RdRow.of_own hown
        have HB6 := Lib.hid (HB5.out.beside hu6 (fun k hk => HOW.out k (List.mem_append_right _ hk)) (fun k hk hm => HDI.out k (List.mem_append_right _ hm) hk))
        have HR1 := Lib.hid hr1
        have HR2 := Lib.hid hr2
        clear hown hh6 hu6 hg6 hr1 hr2 HP5 HRD HAP HB5 HOW HDI
        (repeat' (first | (go_big_may; fail) | go_values | go_skip | go_guarded | go_step | go_upon | go_back | dsimp only))
        refine (alike_calls HR1.out HR2.out).mono ?_
        rintro e w7 ⟨rfl, hb7⟩
        have HB7 := Lib.hid (HB6.out.later hb7)
        clear HB6 HR1 HR2 hb7
        (repeat' (first | (go_big_may; fail) | go_values | go_skip | go_guarded | go_step | go_upon | go_back | dsimp only))
        refine (Drain_holds lessK HB7.out.pair.heap (by omega)).mono ?_
        rintro e w8 ⟨va8, rfl, hi, v8, hh5, hu5, hg5⟩
        obtain ⟨hs5, hp5⟩ := (PStep.refl w7 b2 v2 (r1 + 2) u2).heap HB7.out.pair hh5 hu5 hg5
        have hap := items_apart hi (fp := (r1 + 2) :: rowOf u2) fun k hk => HB7.out.pair.lt k (List.mem_append_right _ hk)
        have HP5 := Lib.hid hp5
        have HS5 := Lib.hid hs5
        have HRD := Lib.hid hi.rd
        have HAP := Lib.hid hap
        clear hh5 hu5 hg5 hs5 hp5 hi hap
        (repeat' (first | (go_big_may; fail) | go_values | go_skip | go_guarded | go_step | go_upon | go_back | dsimp only))
        refine (rDrain_calls HP5.out.ref (by omega)).mono ?_
        rintro e w9 ⟨vr9, rfl, hown, rv9, hh6, _, hu6, hg6⟩
        obtain ⟨hs6, hp6⟩ := HS5.out.ref HP5.out hh6 hu6 hg6
        have hr1 := HRD.out.updated hu6 HAP.out
        have hr2 : RdRow w9 vr9 (drainR ltK L2.length L2).length 2 (cellsI (drainR ltK L2.length L2)) := by rw [drainR_length]; exact RdRow.of_own hown
        have HB9 := Lib.hid (HB7.out.step hs6 hp6).below
        have HR1 := Lib.hid hr1
        have HR2 := Lib.hid hr2
        clear hown hh6 hu6 hg6 hr1 hr2 HP5 HRD HAP HB7 hs6 hp6 HS5
        (repeat' (first | (go_big_may; fail) | go_values | go_skip | go_guarded | go_step | go_upon | go_back | dsimp only))
        refine (alike_calls HR1.out HR2.out).mono ?_
        rintro e w10 ⟨rfl, hb10⟩
        have HB10 := Lib.hid (HB9.out.trans (hb10.mono HB9.out.size))
        clear HB9 HR1 HR2 hb10
        (repeat' (first | (go_big_may; fail) | go_values | go_skip | go_guarded | go_step | go_upon | go_back | dsimp only))
        go_ret
        exact ⟨rfl, HB10.out⟩
end Go.Proofs.Ytgahkodbjokgfaa
