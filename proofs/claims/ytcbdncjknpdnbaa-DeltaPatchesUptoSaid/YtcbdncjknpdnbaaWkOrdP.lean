/- Words, their numbers and their order; no program. -/
import Derived.Test.YtcbdncjknpdnbaaTrie
import Derived.Test.YtcbdncjknpdnbaaOrdL
namespace Go.Proofs.Ytcbdncjknpdnbaa

/-- The rank over the edges. -/
def rE (t : Trie) (x : UInt8) (w : List UInt8) : Nat × Bool :=
  match stepE t x with
  | none => (lowE t x, false)
  | some c => (lowE t x + (rankT c w).1, (rankT c w).2)
theorem rE_none {t : Trie} {x : UInt8} {w : List UInt8} (h : stepE t x = none) : rE t x w = (lowE t x, false) := by unfold rE; rw [h]
theorem rE_some {t c : Trie} {x : UInt8} {w : List UInt8} (h : stepE t x = some c) : rE t x w = (lowE t x + (rankT c w).1, (rankT c w).2) := by unfold rE; rw [h]
theorem rankT_rE (t : Trie) (x : UInt8) (w : List UInt8) : rankT t (x :: w) = (finN t.final + (rE t x w).1, (rE t x w).2) := by
  cases h : stepE t x with
  | none => rw [rankT_none h, rE_none h]
  | some c => rw [rankT_some h, rE_some h]; simp [Nat.add_assoc]
theorem lowE_low {x : UInt8} : ∀ {t : Trie} {p : Int}, okE False t p → (x.toNat : Int) ≤ p → lowE t x = 0
  | .fin _, _, _, _ => rfl
  | .edge b c r, p, h, hp => by
    have h1 := h.1
    simp only [lowE]
    rw [if_neg (by omega), lowE_low h.2.2.2 (by omega)]
theorem lt_toNat {a b : UInt8} : (a < b) ↔ a.toNat < b.toNat := Iff.rfl
/-- The n-th word over the edges: its first byte; its rank. -/
theorem nthE_rank : ∀ (t : Trie) {p : Int} {n : Nat}, okE False t p → n < eN t → ∃ x w, nthE t n = x :: w ∧ p < x.toNat ∧ rE t x w = (n, true)
  | .fin _, _, _, _, h => absurd h (Nat.not_lt_zero _)
  | .edge b c r, p, n, hk, hn => by
    by_cases hc : n < cntT c
    · refine ⟨b, nthT c n, nthE_here hc, hk.1, ?_⟩
      have hT : rankT c (nthT c n) = (n, true) := by
        by_cases h0 : c.final = true ∧ n = 0
        · obtain ⟨hf, rfl⟩ := h0
          rw [nthT_done hf]
          simp [rankT, hf]
        · obtain ⟨h1, h2⟩ := eN_pos hc h0
          obtain ⟨x, w, e1, _, e3⟩ := nthE_rank c hk.2.2.1 h1
          rw [h2, e1, rankT_rE, e3]
          have := cntT_eN c
          have hle : finN c.final ≤ n := by
            cases hf : c.final with
            | false => exact Nat.zero_le _
            | true => have : n ≠ 0 := fun h => h0 ⟨hf, h⟩; show 1 ≤ n; omega
          simp only [Prod.mk.injEq, and_true]
          omega
      rw [rE_some (stepE_here rfl), hT]
      have : lowE (.edge b c r) b = 0 := by
        simp only [lowE]
        rw [if_neg (Nat.lt_irrefl _), lowE_low hk.2.2.2 (Int.le_refl _)]
      rw [this, Nat.zero_add]
    · rw [nthE_on hc]
      simp only [eN] at hn
      obtain ⟨x, w, e1, e2, e3⟩ := nthE_rank r hk.2.2.2 (n := n - cntT c) (by omega)
      have hb := hk.1
      have hlt : b.toNat < x.toNat := by omega
      have hne : b ≠ x := fun e => by subst e; omega
      refine ⟨x, w, e1, by omega, ?_⟩
      have hl : lowE (.edge b c r) x = cntT c + lowE r x := by simp only [lowE]; rw [if_pos hlt]
      cases h : stepE r x with
      | none => rw [rE_none h] at e3; simp at e3
      | some d =>
        rw [rE_some h] at e3
        rw [rE_some (by rw [stepE_on hne]; exact h), hl]
        simp only [Prod.mk.injEq] at e3 ⊢
        exact ⟨by omega, e3.2⟩
/-- The n-th word has the rank n. -/
theorem nthT_rank {t : Trie} {n : Nat} (hk : Good t) (hn : n < cntT t) : rankT t (nthT t n) = (n, true) := by
  by_cases h0 : t.final = true ∧ n = 0
  · obtain ⟨hf, rfl⟩ := h0
    rw [nthT_done hf]
    simp [rankT, hf]
  · obtain ⟨h1, h2⟩ := eN_pos hn h0
    obtain ⟨x, w, e1, _, e3⟩ := nthE_rank t hk h1
    rw [h2, e1, rankT_rE, e3]
    have hle : finN t.final ≤ n := by
      cases hf : t.final with
      | false => exact Nat.zero_le _
      | true => have : n ≠ 0 := fun h => h0 ⟨hf, h⟩; show 1 ≤ n; omega
    simp only [Prod.mk.injEq, and_true]
    omega
theorem accT_rank : ∀ (w : List UInt8) (t : Trie), (accT t w).1 = (rankT t w).2
  | [], t => rfl
  | x :: w, t => by
    cases h : stepE t x with
    | none => rw [accT_none h, rankT_none h]
    | some c => rw [accT_some h, rankT_some h]; exact accT_rank w c
theorem finN_le {t : Trie} {n : Nat} (h0 : ¬ (t.final = true ∧ n = 0)) : finN t.final ≤ n := by
  cases hf : t.final with
  | false => exact Nat.zero_le _
  | true => have : n ≠ 0 := fun h => h0 ⟨hf, h⟩; show 1 ≤ n; omega
/-- A text and the word of its rank. -/
theorem rank_nthE : ∀ (t : Trie) {p : Int} (x : UInt8) (w : List UInt8), okE False t p → ((rE t x w).2 = true → (rE t x w).1 < eN t ∧ nthE t (rE t x w).1 = x :: w) ∧ ((rE t x w).1 < eN t → Op.bytesLess (nthE t (rE t x w).1) (x :: w) = false)
  | .fin _, _, _, _, _ => ⟨fun h => by simp [rE, stepE] at h, fun h => absurd h (Nat.not_lt_zero _)⟩
  | .edge b c r, p, x, w, hk => by
    have hb := hk.1
    rcases Nat.lt_trichotomy b.toNat x.toNat with hlt | heq | hgt
    · have hne : b ≠ x := fun e => by subst e; omega
      have hl : lowE (.edge b c r) x = cntT c + lowE r x := by simp only [lowE]; rw [if_pos hlt]
      have he : rE (.edge b c r) x w = (cntT c + (rE r x w).1, (rE r x w).2) := by
        cases h : stepE r x with
        | none => rw [rE_none (by rw [stepE_on hne]; exact h), rE_none h, hl]
        | some d => rw [rE_some (by rw [stepE_on hne]; exact h), rE_some h, hl]; simp [Nat.add_assoc]
      obtain ⟨i1, i2⟩ := rank_nthE r x w hk.2.2.2
      rw [he]
      have hon : ∀ k, nthE (.edge b c r) (cntT c + k) = nthE r k := fun k => by rw [nthE_on (by omega), Nat.add_sub_cancel_left]
      simp only [eN, hon]
      exact ⟨fun h => ⟨by have := (i1 h).1; omega, (i1 h).2⟩, fun h => i2 (by omega)⟩
    · obtain rfl : b = x := UInt8.toNat_inj.1 heq
      have hl : lowE (.edge b c r) b = 0 := by
        simp only [lowE]
        rw [if_neg (Nat.lt_irrefl _), lowE_low hk.2.2.2 (Int.le_refl _)]
      have he : rE (.edge b c r) b w = ((rankT c w).1, (rankT c w).2) := by rw [rE_some (stepE_here rfl), hl, Nat.zero_add]
      have hT : ((rankT c w).2 = true → (rankT c w).1 < cntT c ∧ nthT c (rankT c w).1 = w) ∧ ((rankT c w).1 < cntT c → Op.bytesLess (nthT c (rankT c w).1) w = false) := by
        cases w with
        | nil =>
          refine ⟨fun h => ?_, fun _ => bl_nil _⟩
          have hf : c.final = true := h
          refine ⟨?_, nthT_done hf⟩
          show 0 < cntT c
          rw [cntT_eN, hf]
          show 0 < 1 + eN c
          omega
        | cons y w =>
          obtain ⟨i1, i2⟩ := rank_nthE c y w hk.2.2.1
          have hk1 := rankT_rE c y w
          have hnt : ∀ m, nthT c (finN c.final + m) = nthE c m := fun m => by
            cases hf : c.final with
            | true => show nthT c (1 + m) = _; rw [nthT_fin hf (by omega)]; congr 1; omega
            | false => show nthT c (0 + m) = _; rw [nthT_not hf, Nat.zero_add]
          rw [hk1, hnt, cntT_eN]
          exact ⟨fun h => ⟨by have := (i1 h).1; dsimp only; omega, (i1 h).2⟩, fun h => i2 (by dsimp only at h; omega)⟩
      rw [he]
      refine ⟨fun h => ?_, fun h => ?_⟩
      · obtain ⟨h1, h2⟩ := hT.1 h
        exact ⟨by simp only [eN]; omega, by rw [nthE_here h1, h2]⟩
      · by_cases hc : (rankT c w).1 < cntT c
        · rw [nthE_here hc, bl_cons]; exact hT.2 hc
        · rw [nthE_on hc]
          simp only [eN] at h
          obtain ⟨x', w', e1, e2, _⟩ := nthE_rank r hk.2.2.2 (n := (rankT c w).1 - cntT c) (by omega)
          rw [e1]
          exact bl_gt (by omega) _ _
    · have hne : b ≠ x := fun e => by subst e; omega
      have hs : stepE (.edge b c r) x = none := by rw [stepE_on hne]; exact stepE_low hk.2.2.2 (by omega)
      have hl : lowE (.edge b c r) x = 0 := by
        simp only [lowE]
        rw [if_neg (by omega), lowE_low hk.2.2.2 (by omega)]
      rw [rE_none hs, hl]
      refine ⟨fun h => by simp at h, fun h => ?_⟩
      obtain ⟨x', w', e1, _, _⟩ := nthE_rank (.edge b c r) hk (n := 0) h
      by_cases hc : 0 < cntT c
      · rw [nthE_here hc]
        exact bl_gt hgt _ _
      · rw [nthE_on hc]
        simp only [eN] at h
        obtain ⟨x', w', e1, e2, _⟩ := nthE_rank r hk.2.2.2 (n := 0 - cntT c) (by omega)
        rw [e1]
        exact bl_gt (by omega) _ _
theorem nthT_add (c : Trie) (m : Nat) : nthT c (finN c.final + m) = nthE c m := by
  cases hf : c.final with
  | true => show nthT c (1 + m) = _; rw [nthT_fin hf (by omega)]; congr 1; omega
  | false => show nthT c (0 + m) = _; rw [nthT_not hf, Nat.zero_add]
theorem rank_nthT {t : Trie} (hk : Good t) (w : List UInt8) : ((rankT t w).2 = true → (rankT t w).1 < cntT t ∧ nthT t (rankT t w).1 = w) ∧ ((rankT t w).1 < cntT t → Op.bytesLess (nthT t (rankT t w).1) w = false) := by
  cases w with
  | nil =>
    refine ⟨fun h => ?_, fun _ => bl_nil _⟩
    have hf : t.final = true := h
    refine ⟨?_, nthT_done hf⟩
    show 0 < cntT t
    rw [cntT_eN, hf]
    show 0 < 1 + eN t
    omega
  | cons y w =>
    obtain ⟨i1, i2⟩ := rank_nthE t y w hk
    rw [rankT_rE, nthT_add, cntT_eN]
    exact ⟨fun h => ⟨by have := (i1 h).1; dsimp only; omega, (i1 h).2⟩, fun h => i2 (by dsimp only at h; omega)⟩
/-- The words rise. -/
theorem nthE_rise : ∀ (t : Trie) {p : Int} {n m : Nat}, okE False t p → n < m → m < eN t → Op.bytesLess (nthE t n) (nthE t m) = true
  | .fin _, _, _, _, _, _, h => absurd h (Nat.not_lt_zero _)
  | .edge b c r, p, n, m, hk, hnm, hm => by
    by_cases hc : m < cntT c
    · rw [nthE_here (by omega), nthE_here hc, bl_cons]
      by_cases h0 : c.final = true ∧ n = 0
      · obtain ⟨hf, rfl⟩ := h0
        rw [nthT_done hf]
        obtain ⟨h1, h2⟩ := eN_pos hc (by rintro ⟨_, h⟩; omega)
        obtain ⟨x, w, e1, _, _⟩ := nthE_rank c hk.2.2.1 h1
        rw [h2, e1]
        rfl
      · obtain ⟨_, h2⟩ := eN_pos (n := n) (by omega : n < cntT c) h0
        obtain ⟨h3, h4⟩ := eN_pos hc (by rintro ⟨_, h⟩; omega)
        rw [h2, h4]
        have := finN_le h0
        exact nthE_rise c hk.2.2.1 (by omega) h3
    · simp only [eN] at hm
      rw [nthE_on hc]
      by_cases hcn : n < cntT c
      · rw [nthE_here hcn]
        obtain ⟨x, w, e1, e2, _⟩ := nthE_rank r hk.2.2.2 (n := m - cntT c) (by omega)
        rw [e1]
        exact bl_lt (by omega) _ _
      · rw [nthE_on hcn]
        exact nthE_rise r hk.2.2.2 (by omega) (by omega)
theorem nthT_rise {t : Trie} {n m : Nat} (hk : Good t) (hnm : n < m) (hm : m < cntT t) : Op.bytesLess (nthT t n) (nthT t m) = true := by
  obtain ⟨h3, h4⟩ := eN_pos hm (by rintro ⟨_, h⟩; omega)
  by_cases h0 : t.final = true ∧ n = 0
  · obtain ⟨hf, rfl⟩ := h0
    rw [nthT_done hf]
    obtain ⟨x, w, e1, _, _⟩ := nthE_rank t hk h3
    rw [h4, e1]
    rfl
  · obtain ⟨_, h2⟩ := eN_pos (n := n) (by omega : n < cntT t) h0
    rw [h2, h4]
    have := finN_le h0
    exact nthE_rise t hk (by omega) h3
/-- A piece of a row of values. -/
def seg {α : Type} (g : Nat → α) (k n : Nat) : List α := (List.range n).map fun i => g (k + i)
theorem seg_add {α : Type} (g : Nat → α) (k a b : Nat) : seg g k (a + b) = seg g k a ++ seg g (k + a) b := by
  unfold seg
  rw [List.range_add, List.map_append, List.map_map]
  congr 1
  exact List.map_congr_left fun i _ => by simp [Nat.add_assoc]
theorem seg_congr {α : Type} {g h : Nat → α} {k k' n n' : Nat} (hn : n = n') (e : ∀ i, i < n → g (k + i) = h (k' + i)) : seg g k n = seg h k' n' := by
  subst hn
  exact List.map_congr_left fun i hi => e i (List.mem_range.1 hi)
theorem seg_map {α β : Type} (f : α → β) (g : Nat → α) (k n : Nat) : (seg g k n).map f = seg (fun i => f (g i)) k n := by
  unfold seg
  rw [List.map_map]
  rfl
theorem seg_len {α : Type} (g : Nat → α) (k n : Nat) : (seg g k n).length = n := by simp [seg]
theorem seg_get {α : Type} (g : Nat → α) (k n i : Nat) (h : i < n) : (seg g k n)[i]? = some (g (k + i)) := by simp [seg, h]
/-- The rank over the edges, of any text. -/
def kE (t : Trie) : List UInt8 → Nat
  | [] => 0
  | x :: w => (rE t x w).1
theorem kE_low {t : Trie} {p : Int} {x : UInt8} {w : List UInt8} (h : okE False t p) (hp : (x.toNat : Int) ≤ p) : kE t (x :: w) = 0 := by
  show (rE t x w).1 = 0
  rw [rE_none (stepE_low h hp), lowE_low h hp]
theorem lE_seg : ∀ (t : Trie) {p : Int} (f : List UInt8), okE False t p → lE t f = seg (nthE t) (kE t f) (eN t - kE t f)
  | .fin _, _, f, _ => by
    simp only [lE, eN, Nat.zero_sub]
    rfl
  | .edge b c r, p, f, hk => by
    have hb := hk.1
    have hT : ∀ g, wT c g = seg (nthT c) (rankT c g).1 (cntT c - (rankT c g).1) := fun g => by
      have ih := lE_seg c g hk.2.2.1
      unfold wT
      rw [ih]
      cases g with
      | nil =>
        show headL c [] ++ seg (nthE c) 0 (eN c - 0) = seg (nthT c) 0 (cntT c - 0)
        rw [Nat.sub_zero, Nat.sub_zero, cntT_eN, seg_add]
        congr 1
        · cases hf : c.final with
          | true => rw [headL_yes hf]; show _ = [nthT c 0]; rw [nthT_done hf]
          | false => rw [headL_not (by rw [hf]; simp)]; rfl
        · exact seg_congr rfl fun i _ => by rw [← nthT_add, Nat.zero_add, Nat.zero_add]
      | cons x w =>
        rw [headL_not (by simp), rankT_rE, List.nil_append]
        refine seg_congr ?_ fun i _ => ?_
        · rw [cntT_eN]; show eN c - (rE c x w).1 = _; dsimp only; omega
        · rw [Nat.add_assoc, nthT_add]; rfl
    have hmap : ∀ g, (wT c g).map (b :: ·) = seg (nthE (.edge b c r)) (rankT c g).1 (cntT c - (rankT c g).1) := fun g => by
      rw [hT, seg_map]
      refine seg_congr rfl fun i hi => ?_
      rw [nthE_here (by omega)]
    have hr : ∀ k, seg (nthE r) k (eN r - k) = seg (nthE (.edge b c r)) (cntT c + k) (eN r - k) := fun k => seg_congr rfl fun i _ => by
      rw [nthE_on (by omega)]; congr 1; omega
    have ihr := fun f => lE_seg r f hk.2.2.2
    have hr0 : seg (nthE r) 0 (eN r) = seg (nthE (.edge b c r)) (cntT c) (eN r) := by have := hr 0; rw [Nat.sub_zero, Nat.add_zero] at this; exact this
    cases f with
    | nil =>
      rw [lE_some (nextF_nil b), hmap, ihr]
      show seg _ 0 (cntT c - 0) ++ seg (nthE r) 0 (eN r - 0) = seg _ 0 (eN (.edge b c r) - 0)
      rw [Nat.sub_zero, Nat.sub_zero, Nat.sub_zero, hr0]
      simp only [eN]
      rw [seg_add, Nat.zero_add]
    | cons x w =>
      rcases Nat.lt_trichotomy b.toNat x.toNat with hlt | heq | hgt
      · have hne : b ≠ x := fun e => by subst e; omega
        have hl : lowE (.edge b c r) x = cntT c + lowE r x := by simp only [lowE]; rw [if_pos hlt]
        have he : kE (.edge b c r) (x :: w) = cntT c + kE r (x :: w) := by
          show (rE (.edge b c r) x w).1 = cntT c + (rE r x w).1
          cases h : stepE r x with
          | none => rw [rE_none (by rw [stepE_on hne]; exact h), rE_none h, hl]
          | some d => rw [rE_some (by rw [stepE_on hne]; exact h), rE_some h, hl]; simp [Nat.add_assoc]
        rw [lE_none (nextF_low hlt), ihr, hr, he]
        exact seg_congr (by simp only [eN]; omega) fun _ _ => rfl
      · obtain rfl : b = x := UInt8.toNat_inj.1 heq
        have hl : lowE (.edge b c r) b = 0 := by
          simp only [lowE]
          rw [if_neg (Nat.lt_irrefl _), lowE_low hk.2.2.2 (Int.le_refl _)]
        have he : kE (.edge b c r) (b :: w) = (rankT c w).1 := by
          show (rE (.edge b c r) b w).1 = _
          rw [rE_some (stepE_here rfl), hl, Nat.zero_add]
        have hle := rankT_le w c
        rw [lE_some (nextF_eq rfl), hmap, ihr, kE_low hk.2.2.2 (Int.le_refl _), he, Nat.sub_zero, hr0]
        simp only [eN]
        rw [show cntT c + eN r - (rankT c w).1 = (cntT c - (rankT c w).1) + eN r from by omega, seg_add]
        congr 1
        exact seg_congr rfl fun _ _ => by congr 1; omega
      · have hne : b ≠ x := fun e => by subst e; omega
        have hs : stepE (.edge b c r) x = none := by rw [stepE_on hne]; exact stepE_low hk.2.2.2 (by omega)
        have hl : lowE (.edge b c r) x = 0 := by
          simp only [lowE]
          rw [if_neg (by omega), lowE_low hk.2.2.2 (by omega)]
        have he : kE (.edge b c r) (x :: w) = 0 := by
          show (rE (.edge b c r) x w).1 = _
          rw [rE_none hs, hl]
        rw [lE_some (nextF_high hgt), hmap, ihr, kE_low hk.2.2.2 (by omega), he, Nat.sub_zero, hr0]
        show seg _ 0 (cntT c - 0) ++ _ = _
        simp only [eN, Nat.sub_zero]
        rw [seg_add, Nat.zero_add]
/-- The words from a text on are those from its rank on. -/
theorem wT_seg {t : Trie} (hk : Good t) (f : List UInt8) : wT t f = seg (nthT t) (rankT t f).1 (cntT t - (rankT t f).1) := by
  unfold wT
  rw [lE_seg t f hk]
  cases f with
  | nil =>
    show headL t [] ++ seg (nthE t) 0 (eN t - 0) = seg (nthT t) 0 (cntT t - 0)
    rw [Nat.sub_zero, Nat.sub_zero, cntT_eN, seg_add]
    congr 1
    · cases hf : t.final with
      | true => rw [headL_yes hf]; show _ = [nthT t 0]; rw [nthT_done hf]
      | false => rw [headL_not (by rw [hf]; simp)]; rfl
    · exact seg_congr rfl fun i _ => by rw [← nthT_add, Nat.zero_add, Nat.zero_add]
  | cons x w =>
    rw [headL_not (by simp), rankT_rE, List.nil_append]
    refine seg_congr ?_ fun i _ => ?_
    · rw [cntT_eN]; show eN t - (rE t x w).1 = _; dsimp only; omega
    · rw [Nat.add_assoc, nthT_add]; rfl
theorem nthE_len : ∀ (t : Trie) (n : Nat), (nthE t n).length ≤ htT t
  | .fin _, _ => Nat.zero_le _
  | .edge b c r, n => by
    by_cases h : n < cntT c
    · rw [nthE_here h, List.length_cons]
      have hT : (nthT c n).length ≤ htT c := by
        by_cases h0 : c.final = true ∧ n = 0
        · obtain ⟨hf, rfl⟩ := h0
          rw [nthT_done hf]; exact Nat.zero_le _
        · rw [(eN_pos h h0).2]; exact nthE_len c _
      simp only [htT]; omega
    · rw [nthE_on h]
      have := nthE_len r (n - cntT c)
      simp only [htT]; omega
theorem nthT_len {t : Trie} {n : Nat} (h : n < cntT t) : (nthT t n).length ≤ htT t := by
  by_cases h0 : t.final = true ∧ n = 0
  · obtain ⟨hf, rfl⟩ := h0
    rw [nthT_done hf]; exact Nat.zero_le _
  · rw [(eN_pos h h0).2]; exact nthE_len t _
end Go.Proofs.Ytcbdncjknpdnbaa
