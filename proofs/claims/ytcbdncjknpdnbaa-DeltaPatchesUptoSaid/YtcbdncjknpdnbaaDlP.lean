/- delta: what differs between two lists that rise; turned; patched; no program. -/
import Derived.Test.YtcbdncjknpdnbaaOrdL
namespace Go.Proofs.Ytcbdncjknpdnbaa

/-- A change: a word, and whether it is taken out. -/
abbrev Chg := List UInt8 × Bool
/-- The words below x, put in; and what is left. -/
def lowL (x : List UInt8) (ys : List (List UInt8)) : List (List UInt8) := ys.takeWhile fun y => Op.bytesLess y x
def uppL (x : List UInt8) (ys : List (List UInt8)) : List (List UInt8) := ys.dropWhile fun y => Op.bytesLess y x
def puts (ys : List (List UInt8)) : List Chg := ys.map fun y => (y, false)
/-- What makes the second list of the first. -/
def diffL : List (List UInt8) → List (List UInt8) → List Chg
  | [], ys => puts ys
  | x :: xs, ys => puts (lowL x ys) ++ (match uppL x ys with
    | [] => (x, true) :: diffL xs []
    | y :: zs => if y = x then diffL xs zs else (x, true) :: diffL xs (y :: zs))
theorem low_upp (x : List UInt8) (ys : List (List UInt8)) : lowL x ys ++ uppL x ys = ys := List.takeWhile_append_dropWhile
theorem low_lt {x : List UInt8} {ys : List (List UInt8)} : ∀ y ∈ lowL x ys, LtW y x := fun y hy => by
  unfold lowL at hy
  induction ys with
  | nil => simp at hy
  | cons z zs ih =>
    rw [List.takeWhile_cons] at hy
    cases hz : Op.bytesLess z x with
    | true =>
      rw [hz] at hy
      simp only [if_true] at hy
      rcases List.mem_cons.1 hy with rfl | hy
      · exact hz
      · exact ih hy
    | false => rw [hz] at hy; simp at hy
theorem upp_head {x y : List UInt8} {ys zs : List (List UInt8)} (h : uppL x ys = y :: zs) : Op.bytesLess y x = false := by
  unfold uppL at h
  induction ys with
  | nil => simp at h
  | cons z ws ih =>
    rw [List.dropWhile_cons] at h
    cases hz : Op.bytesLess z x with
    | true => rw [hz] at h; exact ih (by simpa using h)
    | false => rw [hz] at h; simp at h; obtain ⟨rfl, _⟩ := h; exact hz
theorem upp_ge {x : List UInt8} {ys : List (List UInt8)} (hr : RisesL ys) : ∀ y ∈ uppL x ys, Op.bytesLess y x = false := fun y hy => by
  cases h : uppL x ys with
  | nil => rw [h] at hy; cases hy
  | cons z zs =>
    rw [h] at hy
    have h1 := upp_head h
    rcases List.mem_cons.1 hy with rfl | hy
    · exact h1
    · have h2 : RisesL (z :: zs) := by
        rw [← h]
        exact List.Pairwise.sublist (List.dropWhile_sublist _) hr
      have h3 := (List.pairwise_cons.1 h2).1 y hy
      cases hb : Op.bytesLess y x with
      | false => rfl
      | true => have := bl_trans h3 hb; rw [h1] at this; cases this
/-- What of the words differs. -/
def refD (xs ys : List (List UInt8)) : List Chg := ((mergeL xs ys).filter fun w => decide (w ∈ xs) != decide (w ∈ ys)).map fun w => (w, decide (w ∈ xs))
structure DSpec (xs ys : List (List UInt8)) (D : List Chg) : Prop where
  rises : RisesL (D.map Prod.fst)
  mem : ∀ w f, (w, f) ∈ D ↔ (f = true ∧ w ∈ xs ∧ w ∉ ys) ∨ (f = false ∧ w ∉ xs ∧ w ∈ ys)
theorem mem_puts {w : List UInt8} {f : Bool} {ys : List (List UInt8)} : (w, f) ∈ puts ys ↔ w ∈ ys ∧ f = false := by
  unfold puts
  rw [List.mem_map]
  constructor
  · rintro ⟨y, hy, e⟩; cases e; exact ⟨hy, rfl⟩
  · rintro ⟨h, rfl⟩; exact ⟨w, h, rfl⟩
theorem puts_fst (ys : List (List UInt8)) : (puts ys).map Prod.fst = ys := by simp [puts, Function.comp_def]
theorem diff_spec : ∀ {xs ys : List (List UInt8)}, RisesL xs → RisesL ys → DSpec xs ys (diffL xs ys)
  | [], ys, _, hy => ⟨by rw [diffL, puts_fst]; exact hy, fun w f => by rw [diffL, mem_puts]; simp [And.comm]⟩
  | x :: xs, ys, hx, hy => by
    obtain ⟨hx1, hx2⟩ := List.pairwise_cons.1 hx
    have hlo := low_lt (x := x) (ys := ys)
    have hup := upp_ge (x := x) hy
    have happ := low_upp x ys
    have hmy : ∀ w, w ∈ ys ↔ w ∈ lowL x ys ∨ w ∈ uppL x ys := fun w => by rw [← List.mem_append, happ]
    have hrl : RisesL (lowL x ys) := List.Pairwise.sublist (List.takeWhile_sublist _) hy
    have hru : RisesL (uppL x ys) := List.Pairwise.sublist (List.dropWhile_sublist _) hy
    have hlx : ∀ w ∈ lowL x ys, w ∉ x :: xs := fun w hw hm => by
      rcases List.mem_cons.1 hm with rfl | hm
      · exact LtW.ne (hlo _ hw) rfl
      · exact LtW.ne (bl_trans (hlo _ hw) (hx1 _ hm)) rfl
    -- a tail E above x, or x itself ahead of it
    have put : ∀ E : List Chg, RisesL (E.map Prod.fst) → (∀ p ∈ E, Op.bytesLess p.1 x = false) → RisesL ((puts (lowL x ys) ++ E).map Prod.fst) := fun E h1 h2 => by
      rw [List.map_append, puts_fst]
      refine List.pairwise_append.2 ⟨hrl, h1, fun a ha b hb => ?_⟩
      obtain ⟨p, hp, rfl⟩ := List.mem_map.1 hb
      exact LtW.le_of (hlo a ha) (h2 p hp)
    have below : ∀ {zs : List (List UInt8)} {D : List Chg}, DSpec xs zs D → (∀ z ∈ zs, LtW x z) → ∀ p ∈ D, LtW x p.1 := fun h1 h2 p hp => by
      rcases (h1.mem p.1 p.2).1 hp with ⟨_, h3, _⟩ | ⟨_, _, h3⟩
      · exact hx1 _ h3
      · exact h2 _ h3
    rw [diffL]
    cases hu : uppL x ys with
    | nil =>
      have ih := diff_spec hx2 (ys := []) List.Pairwise.nil
      have hb := below ih (by simp)
      refine ⟨put _ ?_ ?_, fun w f => ?_⟩
      · rw [List.map_cons]
        refine List.pairwise_cons.2 ⟨fun a ha => ?_, ih.rises⟩
        obtain ⟨p, hp, rfl⟩ := List.mem_map.1 ha
        exact hb p hp
      · intro p hp
        rcases List.mem_cons.1 hp with rfl | hp
        · exact bl_irrefl x
        · exact LtW.not (hb p hp)
      · have hmw := hmy w
        rw [hu] at hmw
        rw [List.mem_append, List.mem_cons, mem_puts, ih.mem, hmw]
        have hl := hlx w
        have hlow := hlo w
        simp only [List.mem_cons, List.not_mem_nil, or_false, not_false_eq_true, and_true, and_false, Prod.mk.injEq]
        constructor
        · rintro (⟨h1, rfl⟩ | ⟨rfl, rfl⟩ | ⟨rfl, h1⟩)
          · exact .inr ⟨rfl, fun h => hl h1 (List.mem_cons.2 h), h1⟩
          · exact .inl ⟨rfl, .inl rfl, fun h => LtW.ne (hlow h) rfl⟩
          · exact .inl ⟨rfl, .inr h1, fun h => hl h (List.mem_cons.2 (.inr h1))⟩
        · rintro (⟨rfl, h1 | h1, h2⟩ | ⟨rfl, h1, h2⟩)
          · exact .inr (.inl ⟨h1, rfl⟩)
          · exact .inr (.inr ⟨rfl, h1⟩)
          · exact .inl ⟨h2, rfl⟩
    | cons y zs =>
      have hru2 := hru
      rw [hu] at hru2
      obtain ⟨hz1, hz2⟩ := List.pairwise_cons.1 hru2
      have hyx := upp_head hu
      dsimp only
      by_cases e : y = x
      · subst e
        rw [if_pos rfl]
        have ih := diff_spec hx2 hz2
        have hb := below ih hz1
        refine ⟨put _ ih.rises fun p hp => LtW.not (hb p hp), fun w f => ?_⟩
        have hmw := hmy w
        rw [hu] at hmw
        rw [List.mem_append, mem_puts, ih.mem, hmw]
        have hl := hlx w
        have hlow := hlo w
        simp only [List.mem_cons, not_or]
        constructor
        · rintro (⟨h1, rfl⟩ | ⟨rfl, h1, h2⟩ | ⟨rfl, h1, h2⟩)
          · exact .inr ⟨rfl, not_or.1 fun h => hl h1 (List.mem_cons.2 h), .inl h1⟩
          · refine .inl ⟨rfl, .inr h1, fun h => hl h (List.mem_cons.2 (.inr h1)), fun h => ?_, h2⟩
            subst h; exact LtW.ne (hx1 _ h1) rfl
          · refine .inr ⟨rfl, ⟨fun h => ?_, h1⟩, .inr (.inr h2)⟩
            subst h; exact LtW.ne (hz1 _ h2) rfl
        · rintro (⟨rfl, h1 | h1, h2⟩ | ⟨rfl, ⟨h1, h2⟩, h3 | h3 | h3⟩)
          · exact absurd h1 h2.2.1
          · exact .inr (.inl ⟨rfl, h1, h2.2.2⟩)
          · exact .inl ⟨h3, rfl⟩
          · exact absurd h3 h1
          · exact .inr (.inr ⟨rfl, h2, h3⟩)
      · rw [if_neg e]
        have ih := diff_spec hx2 hru2
        have hxy : LtW x y := bl_total hyx e
        have hb := below ih (fun z hz => by
          rcases List.mem_cons.1 hz with rfl | hz
          · exact hxy
          · exact bl_trans hxy (hz1 _ hz))
        refine ⟨put _ ?_ ?_, fun w f => ?_⟩
        · rw [List.map_cons]
          refine List.pairwise_cons.2 ⟨fun a ha => ?_, ih.rises⟩
          obtain ⟨p, hp, rfl⟩ := List.mem_map.1 ha
          exact hb p hp
        · intro p hp
          rcases List.mem_cons.1 hp with rfl | hp
          · exact bl_irrefl x
          · exact LtW.not (hb p hp)
        · have hmw := hmy w
          rw [hu] at hmw
          rw [List.mem_append, List.mem_cons, mem_puts, ih.mem, hmw]
          have hl := hlx w
          have hlow := hlo w
          have hxz : x ∉ y :: zs := fun h => by
            rcases List.mem_cons.1 h with h | h
            · exact e h.symm
            · exact LtW.ne (bl_trans hxy (hz1 _ h)) rfl
          constructor
          · rintro (⟨h1, rfl⟩ | h1 | ⟨rfl, h1, h2⟩ | ⟨rfl, h1, h2⟩)
            · exact .inr ⟨rfl, hl h1, .inl h1⟩
            · simp only [Prod.mk.injEq] at h1
              obtain ⟨rfl, rfl⟩ := h1
              exact .inl ⟨rfl, by simp, fun h => h.elim (fun h => LtW.ne (hlow h) rfl) hxz⟩
            · exact .inl ⟨rfl, List.mem_cons_of_mem _ h1, fun h => h.elim (fun h => hl h (List.mem_cons_of_mem _ h1)) h2⟩
            · refine .inr ⟨rfl, fun h => ?_, .inr h2⟩
              rcases List.mem_cons.1 h with rfl | h
              · exact hxz h2
              · exact h1 h
          · rintro (⟨rfl, h1, h2⟩ | ⟨rfl, h1, h3 | h3⟩)
            · rcases List.mem_cons.1 h1 with rfl | h1
              · exact .inr (.inl rfl)
              · exact .inr (.inr (.inl ⟨rfl, h1, fun h => h2 (.inr h)⟩))
            · exact .inl ⟨h3, rfl⟩
            · exact .inr (.inr (.inr ⟨rfl, fun h => h1 (List.mem_cons_of_mem _ h), h3⟩))
theorem ref_spec {xs ys : List (List UInt8)} (hx : RisesL xs) (hy : RisesL ys) : DSpec xs ys (refD xs ys) := by
  unfold refD
  refine ⟨?_, fun w f => ?_⟩
  · rw [List.map_map]
    have : (Prod.fst ∘ fun w : List UInt8 => (w, decide (w ∈ xs))) = id := rfl
    rw [this, List.map_id]
    exact List.Pairwise.filter _ (mergeL_rises hx hy)
  · rw [List.mem_map]
    constructor
    · rintro ⟨v, hv, e⟩
      simp only [Prod.mk.injEq] at e
      obtain ⟨rfl, rfl⟩ := e
      obtain ⟨_, h2⟩ := List.mem_filter.1 hv
      by_cases h3 : v ∈ xs <;> by_cases h4 : v ∈ ys <;> simp_all
    · rintro (⟨rfl, h1, h2⟩ | ⟨rfl, h1, h2⟩)
      · exact ⟨w, List.mem_filter.2 ⟨(mergeL_mem _ _ _).2 (.inl h1), by simp [h1, h2]⟩, by simp [h1]⟩
      · exact ⟨w, List.mem_filter.2 ⟨(mergeL_mem _ _ _).2 (.inr h2), by simp [h1, h2]⟩, by simp [h1]⟩
/-- Two lists of changes that rise with the same changes are one. -/
theorem dspec_uniq {xs ys : List (List UInt8)} {D E : List Chg} (h : DSpec xs ys D) (k : DSpec xs ys E) : D = E := by
  have form : ∀ {D : List Chg}, DSpec xs ys D → D = (D.map Prod.fst).map fun w => (w, decide (w ∈ xs)) := fun {D} h => by
    rw [List.map_map]
    conv => lhs; rw [← List.map_id D]
    apply List.map_congr_left
    intro p hp
    rcases (h.mem p.1 p.2).1 hp with ⟨h1, h2, _⟩ | ⟨h1, h2, _⟩ <;> simp [Function.comp, h2, ← h1]
  rw [form h, form k]
  congr 1
  refine RisesL.ext h.rises k.rises fun w => ?_
  simp only [List.mem_map]
  constructor
  · rintro ⟨p, hp, rfl⟩; exact ⟨p, (k.mem p.1 p.2).2 ((h.mem p.1 p.2).1 hp), rfl⟩
  · rintro ⟨p, hp, rfl⟩; exact ⟨p, (h.mem p.1 p.2).2 ((k.mem p.1 p.2).1 hp), rfl⟩
theorem diff_ref {xs ys : List (List UInt8)} (hx : RisesL xs) (hy : RisesL ys) : diffL xs ys = refD xs ys := dspec_uniq (diff_spec hx hy) (ref_spec hx hy)
/-! ### Step by step -/
theorem diffL_low {x y : List UInt8} (h : Op.bytesLess y x = true) (t zs : List (List UInt8)) : diffL (x :: t) (y :: zs) = (y, false) :: diffL (x :: t) zs := by
  rw [diffL, diffL]
  have h1 : lowL x (y :: zs) = y :: lowL x zs := by unfold lowL; rw [List.takeWhile_cons, if_pos h]
  have h2 : uppL x (y :: zs) = uppL x zs := by unfold uppL; rw [List.dropWhile_cons, if_pos h]
  rw [h1, h2]
  simp [puts]
theorem diffL_none (x : List UInt8) (t : List (List UInt8)) : diffL (x :: t) [] = (x, true) :: diffL t [] := by rw [diffL]; simp [lowL, uppL, puts]
theorem lowL_stop {x y : List UInt8} (h : Op.bytesLess y x = false) (zs : List (List UInt8)) : lowL x (y :: zs) = [] ∧ uppL x (y :: zs) = y :: zs := by
  unfold lowL uppL
  rw [List.takeWhile_cons, List.dropWhile_cons, h]
  simp
theorem diffL_same (x : List UInt8) (t zs : List (List UInt8)) : diffL (x :: t) (x :: zs) = diffL t zs := by
  rw [diffL, (lowL_stop (bl_irrefl x) zs).1, (lowL_stop (bl_irrefl x) zs).2]
  simp [puts]
theorem diffL_high {x y : List UInt8} (h : Op.bytesLess y x = false) (hn : y ≠ x) (t zs : List (List UInt8)) : diffL (x :: t) (y :: zs) = (x, true) :: diffL t (y :: zs) := by
  rw [diffL, (lowL_stop h zs).1, (lowL_stop h zs).2]
  simp [puts, hn]
theorem diffL_end (ys : List (List UInt8)) : diffL [] ys = puts ys := by rw [diffL]
/-- How far it is: p of xs and i of ys are through. -/
structure DInv (xs ys p : List (List UInt8)) (D : List Chg) (i : Nat) : Prop where
  eq : diffL xs ys = D ++ diffL (xs.drop p.length) (ys.drop i)
  len : D.length ≤ p.length + i
  le : i ≤ ys.length
theorem DInv.start (xs ys : List (List UInt8)) : DInv xs ys [] [] 0 := ⟨by simp, by simp, Nat.zero_le _⟩
theorem pre_drop {xs p : List (List UInt8)} {x : List UInt8} (h : p ++ [x] <+: xs) : xs.drop p.length = x :: xs.drop (p ++ [x]).length := by
  obtain ⟨t, rfl⟩ := h
  simp
theorem get_drop {ys : List (List UInt8)} {i : Nat} {y : List UInt8} (h : ys[i]? = some y) : ys.drop i = y :: ys.drop (i + 1) := by
  obtain ⟨h1, h2⟩ := List.getElem?_eq_some_iff.1 h
  rw [List.drop_eq_getElem_cons h1, h2]
theorem DInv.low {xs ys p : List (List UInt8)} {D : List Chg} {i : Nat} {x y : List UInt8} (h : DInv xs ys p D i) (hp : p ++ [x] <+: xs) (hy : ys[i]? = some y) (hl : Op.bytesLess y x = true) : DInv xs ys p (D ++ [(y, false)]) (i + 1) :=
  ⟨by rw [h.eq, pre_drop hp, get_drop hy, diffL_low hl]; simp, by have := h.len; simp; omega, (List.getElem?_eq_some_iff.1 hy).1⟩
theorem DInv.same {xs ys p : List (List UInt8)} {D : List Chg} {i : Nat} {x y : List UInt8} (h : DInv xs ys p D i) (hp : p ++ [x] <+: xs) (hy : ys[i]? = some y) (he : y = x) : DInv xs ys (p ++ [x]) D (i + 1) :=
  ⟨by subst he; rw [h.eq, pre_drop hp, get_drop hy, diffL_same], by have := h.len; simp; omega, (List.getElem?_eq_some_iff.1 hy).1⟩
theorem DInv.high {xs ys p : List (List UInt8)} {D : List Chg} {i : Nat} {x y : List UInt8} (h : DInv xs ys p D i) (hp : p ++ [x] <+: xs) (hy : ys[i]? = some y) (hl : Op.bytesLess y x = false) (hn : y ≠ x) : DInv xs ys (p ++ [x]) (D ++ [(x, true)]) i :=
  ⟨by rw [h.eq, pre_drop hp, get_drop hy, diffL_high hl hn]; simp, by have := h.len; simp; omega, h.le⟩
theorem DInv.none {xs ys p : List (List UInt8)} {D : List Chg} {i : Nat} {x : List UInt8} (h : DInv xs ys p D i) (hp : p ++ [x] <+: xs) (hy : i = ys.length) : DInv xs ys (p ++ [x]) (D ++ [(x, true)]) i :=
  ⟨by subst hy; rw [h.eq, pre_drop hp, List.drop_length, diffL_none]; simp, by have := h.len; simp; omega, h.le⟩
theorem DInv.put {xs ys : List (List UInt8)} {D : List Chg} {i : Nat} {y : List UInt8} (h : DInv xs ys xs D i) (hy : ys[i]? = some y) : DInv xs ys xs (D ++ [(y, false)]) (i + 1) :=
  ⟨by rw [h.eq, List.drop_length, get_drop hy, diffL_end, diffL_end]; simp [puts], by have := h.len; simp; omega, (List.getElem?_eq_some_iff.1 hy).1⟩
theorem DInv.done {xs ys : List (List UInt8)} {D : List Chg} (h : DInv xs ys xs D ys.length) : D = diffL xs ys := by
  rw [h.eq, List.drop_length, List.drop_length, diffL_end]; simp [puts]
end Go.Proofs.Ytcbdncjknpdnbaa
