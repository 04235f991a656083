/- A drawn region under a condition that hangs on what has come up so far: for a region that stores into the cells that it loads. · Appends to rows in a drawn region under a condition that hangs on what has come up. -/
import Derived.Test.YtgeabmmicofanaaGreatDoorBuSpLaw05
import Derived.Test.YtgeabmmicofanaaGreatDoorBuSpLaw04
import Derived.Test.YtgeabmmicofanaaGreatDoorBuSpLaw03
import Derived.Deep.RegionHeld3
set_option linter.unusedSimpArgs false
set_option linter.unusedVariables false
namespace Go.Proofs.YtgeabmmicofanaaGreatDoor
open Go

section
variable {P : Program} {ops : Array Oper} {Q : Exit → Act → World → Prop} {md : Region.Mode} {S : Array Bool → World → Prop}
/-- Whatever comes up next, what has come up since says what the world is to meet. -/
def wpL (P : Program) (md : Region.Mode) (ops : Array Oper) (Q : Exit → Act → World → Prop) (S : Array Bool → World → Prop) : Nat → Array Bool → Act → World → Prop
  | 0, l, a, w => Region.ready md ops l = [] ∧ Q .normal a w
  | n + 1, l, a, w => (Region.ready md ops l = [] → Q .normal a w) ∧ ∀ i ∈ Region.ready md ops l, wpOp P ops Q i (fun a' w' => S (l.setIfInBounds i true) w' ∧ wpL P md ops Q S n (l.setIfInBounds i true) a' w') a w
theorem wpL.any : ∀ (n : Nat) (l : Array Bool) (a : Act) (w : World), wpL P md ops Q S n l a w → wpAny P md ops Q n l a w
  | 0, _, _, _, h => h
  | n + 1, _, _, _, h => ⟨h.1, fun i hi => wpOp_mono (fun a' w' k => wpL.any n _ a' w' k.2) (h.2 i hi)⟩
/-- Number i may come first: its value stands in every world that it can meet. -/
theorem wpL.first {i : Nat} {oi : Oper} {v : Value} {T : World → Prop} {inv : Array Bool → Prop} (hi : ops[i]? = some oi) (hsel : ∀ (j : Nat) (o : Oper) cs b, ops[j]? = some o → o.op ≠ .select cs b)
    (hQ : ∀ c a w, Q (.panic c) (a.put oi.dst v) w → Q (.panic c) a w) (hT : ∀ l w, inv l → S l w → T w)
    (hinv : ∀ l j, inv l → i ∈ Region.ready md ops l → j ∈ Region.ready md ops l → j ≠ i → inv (l.setIfInBounds j true)) (hSi : ∀ l w, S (l.setIfInBounds i true) w ↔ S l w) :
    ∀ (n : Nat) (l : Array Bool) (a : Act) (w : World),
      (∀ j oj, ops[j]? = some oj → j ≠ i → l.getD j true = false → (∀ e ∈ oj.after, Region.binds md e = true → e.on ≠ i) → oi.apart ops oj = true) →
      i ∈ Region.ready md ops l → inv l → YieldsIf P ops T oi v a → S l w → wpL P md ops Q S n (l.setIfInBounds i true) (a.put oi.dst v) w → wpL P md ops Q S (n + 1) l a w := by
  intro n
  induction n with
  | zero =>
    intro l a w _ hr hv hy hS H
    refine ⟨fun h => (by rw [h] at hr; cases hr), fun j hj => ?_⟩
    by_cases hji : j = i
    · subst hji; exact hy.wpOp hi (hT _ _ hv hS) ⟨(hSi l w).2 hS, H⟩
    · have := ready_mono hj hji
      rw [H.1] at this
      cases this
  | succ n ih =>
    intro l a w hfree hr hv hy hS H
    refine ⟨fun h => (by rw [h] at hr; cases hr), fun j hj => ?_⟩
    by_cases hji : j = i
    · subst hji; exact hy.wpOp hi (hT _ _ hv hS) ⟨(hSi l w).2 hS, H⟩
    · have h1 := H.2 j (ready_mono hj hji)
      obtain ⟨hun, oj, hoj, hall⟩ := mem_ready.1 hj
      have h0 := (mem_ready.1 hr).1
      have hnot : ∀ e ∈ oj.after, Region.binds md e = true → e.on ≠ i := fun e he hb heq => by
        have h1 := hall e he hb
        rw [heq] at h1
        rcases Nat.lt_or_ge i l.size with h' | h'
        · simp [h'] at h0 h1; rw [h0] at h1; cases h1
        · simp [Array.getElem?_eq_none h'] at h1
      have h2 := wpOp_putIf hoj (hfree j oj hoj hji hun hnot) (fun cs b => hsel i oi cs b hi) (fun cs b => hsel j oj cs b hoj) hQ hy h1
      have hfree' : ∀ k ok, ops[k]? = some ok → k ≠ i → (l.setIfInBounds j true).getD k true = false → (∀ e ∈ ok.after, Region.binds md e = true → e.on ≠ i) → oi.apart ops ok = true := fun k ok hk hki hu hno => by
        refine hfree k ok hk hki ?_ hno
        by_cases hjk : j = k
        · subst hjk; exact hun
        · rw [getD_set_ne true hjk] at hu; exact hu
      have hc : (l.setIfInBounds i true).setIfInBounds j true = (l.setIfInBounds j true).setIfInBounds i true := Array.setIfInBounds_comm _ _ (Ne.symm hji)
      refine wpOp_mono (fun a' w' h3 => ?_) h2
      rw [hc] at h3
      have hS' := (hSi _ w').1 h3.2.1
      exact ⟨hS', ih (l.setIfInBounds j true) a' w' hfree' (ready_mono hr (Ne.symm hji)) (hinv l j hv hr hj hji) h3.1 hS' h3.2.2⟩
/-- One that yields its value in whatever world. -/
theorem wpL.take {i : Nat} {oi : Oper} {v : Value} {n : Nat} {l : Array Bool} {a : Act} {w : World} (hi : ops[i]? = some oi) (hs : Region.noSelect ops = true) (hf : Region.free md ops l i = true) (hr : (Region.ready md ops l).contains i = true)
    (hQ : ∀ c a w, Q (.panic c) (a.put oi.dst v) w → Q (.panic c) a w) (hSi : ∀ l w, S (l.setIfInBounds i true) w ↔ S l w) (hy : YieldsIf P ops (fun _ => True) oi v a) (hS : S l w)
    (h : S (l.setIfInBounds i true) w → wpL P md ops Q S n (l.setIfInBounds i true) (a.put oi.dst v) w) : wpL P md ops Q S (n + 1) l a w :=
  wpL.first (inv := fun _ => True) hi (Region.noSelect_spec hs) hQ (fun _ _ _ _ => trivial) (fun _ _ _ _ _ _ => trivial) hSi n l a w (Region.free_spec hi hf) (by simpa using hr) trivial hy hS (h ((hSi l w).2 hS))
/-- One that yields its value as long as number g, that waits for it, has not come up. -/
theorem wpL.takeG {i g : Nat} {oi og : Oper} {v : Value} {T : World → Prop} {n : Nat} {l : Array Bool} {a : Act} {w : World} (hi : ops[i]? = some oi) (hg : ops[g]? = some og) (hs : Region.noSelect ops = true) (hf : Region.free md ops l i = true) (hr : (Region.ready md ops l).contains i = true)
    (hw : (og.after.any fun e => Region.binds md e && e.on == i) = true) (hl : l.getD g true = false)
    (hQ : ∀ c a w, Q (.panic c) (a.put oi.dst v) w → Q (.panic c) a w) (hT : ∀ l w, l.getD g true = false → S l w → T w) (hSi : ∀ l w, S (l.setIfInBounds i true) w ↔ S l w) (hy : YieldsIf P ops T oi v a) (hS : S l w)
    (h : S (l.setIfInBounds i true) w → wpL P md ops Q S n (l.setIfInBounds i true) (a.put oi.dst v) w) : wpL P md ops Q S (n + 1) l a w := by
  refine wpL.first (inv := fun l => l.getD g true = false) hi (Region.noSelect_spec hs) hQ hT (fun l j hl hri hrj hji => ?_) hSi n l a w (Region.free_spec hi hf) (by simpa using hr) hl hy hS (h ((hSi l w).2 hS))
  have hjg : j ≠ g := fun e => by
    subst e
    obtain ⟨_, oj, hoj, hall⟩ := mem_ready.1 hrj
    rw [hg] at hoj
    cases hoj
    obtain ⟨e, he, hb⟩ := Array.any_eq_true'.1 hw
    simp only [Bool.and_eq_true, beq_iff_eq] at hb
    have h1 := hall e he hb.1
    have h0 := (mem_ready.1 hri).1
    rw [hb.2] at h1
    rcases Nat.lt_or_ge i l.size with h' | h'
    · simp [h'] at h0 h1; rw [h0] at h1; cases h1
    · simp [Array.getElem?_eq_none h'] at h1
  show (l.setIfInBounds j true).getD g true = false
  rw [getD_set_ne true hjg]; exact hl
def AllL (P : Program) (md : Region.Mode) (ops : Array Oper) (Q : Exit → Act → World → Prop) (S : Array Bool → World → Prop) (n : Nat) (l : Array Bool) (a : Act) (w : World) (rs : List Nat) : Prop :=
  ∀ i ∈ rs, wpOp P ops Q i (fun a' w' => S (l.setIfInBounds i true) w' ∧ wpL P md ops Q S n (l.setIfInBounds i true) a' w') a w
theorem AllL.nil {n : Nat} {l : Array Bool} {a : Act} {w : World} : AllL P md ops Q S n l a w [] := fun _ h => by cases h
theorem AllL.cons {n : Nat} {l : Array Bool} {a : Act} {w : World} {i : Nat} {o : Oper} {rs : List Nat} (ho : ops[i]? = some o)
    (h : ∀ K' : Act → World → Prop, Shut (∀ a w, S (l.setIfInBounds i true) w → (S (l.setIfInBounds i true) w → wpL P md ops Q S n (l.setIfInBounds i true) a w) → K' a w) → if Region.wanted o (yielded ops a.tmps) = true then Oper.wp P o a w K' Q else K' (a.put o.dst undef) w)
    (hs : AllL P md ops Q S n l a w rs) : AllL P md ops Q S n l a w (i :: rs) := fun j hj => by
  rcases List.mem_cons.1 hj with rfl | hj
  · exact wpOp_step ho (fun K' hK => h K' (fun a w hS hW => hK a w ⟨hS, hW hS⟩))
  · exact hs j hj
theorem wpL.ready {rs : List Nat} {n : Nat} {l : Array Bool} {a : Act} {w : World} (hr : Region.ready md ops l = rs) (hne : rs ≠ []) (h : AllL P md ops Q S n l a w rs) : wpL P md ops Q S (n + 1) l a w :=
  ⟨fun h0 => absurd (hr ▸ h0) hne, hr ▸ h⟩
theorem wpL.done {l : Array Bool} {a : Act} {w : World} (hr : Region.ready md ops l = []) (h : Q .normal a w) : ∀ n, wpL P md ops Q S n l a w
  | 0 => ⟨hr, h⟩
  | _ + 1 => ⟨fun _ => h, by rw [hr]; simp⟩
/-- The beginning. -/
theorem wpL.start (S : Array Bool → World → Prop) {id : Nat} {a : Act} {w : World} (hm : P.follows .mixedOrders = true) (hS : S (Array.replicate ops.size false) w.drew)
    (h : S (Array.replicate ops.size false) w.drew → wpL P .any ops Q S ops.size (Array.replicate ops.size false) a w.drew) : (Code.region id ops true).wp P Q a w :=
  wp_region_any hm (wpL.any _ _ _ _ (h hS))
end
end Go.Proofs.YtgeabmmicofanaaGreatDoor
namespace Go.Proofs.YtgeabmmicofanaaGreatDoor
open Go.RowKit Go

section
variable {P : Program} {ops : Array Oper} {Q : Exit → Act → World → Prop} {md : Region.Mode} {S : Array Bool → World → Prop}
end
theorem append_cell_run {P : Program} {W w : World} {R : Thing} (t ty e : TypeId) (ht : P.underlying t = some (.slice e)) {z : Value} {bytes : Nat} (hinfo : (P.info? e).map (fun i => (i.zero, i.size, i.bytes)) = some (some z, 1, bytes)) (hzs : z.cells.size = 1)
    {v : Value} {n : Nat} {xs : List Value} (hat : At W w (Both (RowG e 1 v n xs) R)) (hR : Stable R) {g : Nat} {u : Value} (hc : w.cell? ⟨g, 0, none⟩ = some u) (h1 : u.oneCell' = true) (h63 : n + 1 ≤ maxLen) (hbytes : (n + 1) * bytes ≤ 140737488355328) :
    ∃ ao cap w', (Builtin.append_ #[t, t] ty #[v, .slice (some ⟨g, 0, none⟩) 1 1]).run P w = .ok (.slice ao (n + 1) cap) w' ∧ At W w' (Both (RowG e 1 (.slice ao (n + 1) cap) (n + 1) (xs ++ [u])) R) ∧ Upd (rowOf v) w w' := by
  obtain ⟨i0, hi, hz0, hz1, hz2⟩ := info_parts hinfo
  have hown := hat.rowG
  have hcells : ∀ j x, [u][j]? = some x → w.cell? ((⟨g, 0, none⟩ : Addr).add j) = some x := by
    intro j x hx
    match j with
    | 0 => simp at hx; subst hx; exact hc
    | j + 1 => simp at hx
  have h1s : ∀ x ∈ [u], x.oneCell' = true := by intro x hx; simp at hx; subst hx; exact h1
  obtain ⟨v', w', hr, h2, h3, _⟩ := run_append_own (P := P) w 0 t ty e i0 z 1 bytes ht hi hz0 hz1 hz2 hzs (by decide) v n xs hown ⟨g, 0, none⟩ 1 1 [u] rfl hcells h1s h63 hbytes (Nat.zero_le _)
  have hb := append_block (P := P) w t ty e i0 z 1 bytes ht hi hz0 hz1 hz2 hzs (by decide) hown ⟨g, 0, none⟩ 1 1 [u] rfl hcells h1s h63 hbytes hr
  have hu : Upd (rowOf v) w w' := (Upd.refl _ w).grown h3 (fun k hk => .inl (mem_rowOf.2 hk))
  obtain ⟨ao, cap, rfl, _, _⟩ := own_shape h2
  obtain ⟨fp, g1, g2, g3⟩ := hat.step
  obtain ⟨_, rfl⟩ := g1
  refine ⟨ao, cap, w', hr, g3 hR w' _ ⟨rowOf (.slice ao (n + 1) cap), ⟨h2, rfl⟩, hu, fun k hk => ?_⟩, hu⟩
  rcases hb k (mem_rowOf.1 hk) with h4 | h4
  · exact .inl (mem_rowOf.2 h4)
  · exact .inr h4
theorem step_append_ex {P : Program} {ops : Array Oper} {o : Oper} {a : Act} {w : World} {K : Act → World → Prop} {Q : Exit → Act → World → Prop} {E : Prop}
    (hg : o.guard = none) (s x : Operand) (t : TypeId) (hop : o.op = Op.call { callee := Callee.builtin Builtin.append, args := #[s, x], argTypes := #[t, t] })
    (vs vx : Value) (hs : a.eval s = vs) (hx : a.eval x = vx) {m : Nat} {Ph : Option Addr → Nat → World → Prop} (h : ∃ ao cap w', (Builtin.append_ #[t, t] o.type #[vs, vx]).run P w = .ok (.slice ao m cap) w' ∧ Ph ao cap w')
    (hK : ∀ ao cap w', Ph ao cap w' → K (a.put o.dst (.slice ao m cap)) w') : if Region.wanted o (yielded ops a.tmps) = true then Oper.wp P o a w K Q else E := by
  obtain ⟨ao, cap, w', hr, hp⟩ := h
  exact step_append_run hg s x t hop vs vx hs hx hr (hK ao cap w' hp)
theorem lNo {b : Bool} {p : Prop} (hl : b = false) (h : b = true) : p := by rw [hl] at h; cases h
end Go.Proofs.YtgeabmmicofanaaGreatDoor
