/- heap of cursors: as a thing among things. -/
import Derived.Test.YtgeabmmicofanaaGreatDoorBuSpLaw34
import Derived.Test.YtgeabmmicofanaaGreatDoorBuSpLaw06
set_option linter.unusedSimpArgs false
set_option linter.unusedVariables false
namespace Go.Proofs.YtgeabmmicofanaaGreatDoor.cu
open Go.RowKit

theorem Holds.mem {lt : Cur → Cur → Bool} {h : List (Cur × Nat)} {n : Nat} {L : List Cur} (H : hp.Holds lt h n L) (c : Cur) : (∃ e ∈ h, e.1 = c) ↔ c ∈ L := by
  obtain ⟨_, ts, h1, _, _, h4⟩ := H
  constructor
  · rintro ⟨e, he, rfl⟩
    exact (List.of_mem_zip ((h4.mem_iff).1 he)).1
  · intro hc
    obtain ⟨i, hi, rfl⟩ := List.mem_iff_getElem.1 hc
    exact ⟨(L[i], ts[i]'(by omega)), (h4.mem_iff).2 (by rw [List.mem_iff_getElem]; exact ⟨i, by simp; omega, by simp⟩), rfl⟩
/-- A cursor's block. -/
def inBl (L : List Cur) (k : Nat) : Prop := ∃ c ∈ L, ∃ a, c.a = some a ∧ a.block = k
/-- The heap in block b that holds the cursors of L; the texts that they have left lie in its blocks. -/
def HeapT (b : Nat) (L : List Cur) (n : Nat) : Thing := fun w fp => ∃ v, HeapH w b fLess ltB L n v ∧ ∀ k, k ∈ fp ↔ k ∈ b :: rowOf v ∨ inBl L k
theorem HeapT.stable (b : Nat) (L : List Cur) (n : Nat) : Stable (HeapT b L n) := by
  refine ⟨fun w fp h k hk => ?_, fun w w' fp h hs => ?_⟩
  · obtain ⟨v, ⟨l, h1, h2⟩, h3⟩ := h
    rcases (h3 k).1 hk with h4 | ⟨c, hc, a, ha, rfl⟩
    · exact h1.lt k h4
    · obtain ⟨e, he, rfl⟩ := (Holds.mem h2 c).2 hc
      exact (h1.2.2 e he).1.lt a ha
  · obtain ⟨v, ⟨l, h1, h2⟩, h3⟩ := h
    refine ⟨v, ⟨l, h1.of_block (fun k hk => hs k ((h3 k).2 (.inl hk))) fun e he a ha => hs _ ((h3 _).2 (.inr ⟨e.1, (Holds.mem h2 e.1).1 ⟨e, he, rfl⟩, a, ha, rfl⟩)), h2⟩, h3⟩
theorem HeapT.live {w : World} {fp : List Nat} {b : Nat} {L : List Cur} {n : Nat} (h : HeapT b L n w fp) : ∀ c ∈ L, Live w c := by
  obtain ⟨v, ⟨l, h1, h2⟩, _⟩ := h
  intro c hc
  obtain ⟨e, he, rfl⟩ := (Holds.mem h2 c).2 hc
  exact (h1.2.2 e he).1
/-- The blocks as a list. -/
def blocksOf (L : List Cur) : List Nat := L.filterMap fun c => c.a.map Addr.block
theorem mem_blocksOf {L : List Cur} {k : Nat} : k ∈ blocksOf L ↔ inBl L k := by
  unfold blocksOf inBl
  rw [List.mem_filterMap]
  constructor
  · rintro ⟨c, hc, h⟩
    cases ha : c.a with
    | none => rw [ha] at h; cases h
    | some a => rw [ha] at h; cases h; exact ⟨c, hc, a, ha, rfl⟩
  · rintro ⟨c, hc, a, ha, rfl⟩
    exact ⟨c, hc, by rw [ha]; rfl⟩
/-- A step of the heap as what it leaves. -/
theorem HeapT.left {w w' : World} {fp : List Nat} {b : Nat} {L L' : List Cur} {n' : Nat} {v v' : Value} (hf : ∀ k, k ∈ fp ↔ k ∈ b :: rowOf v ∨ inBl L k) (h' : HeapH w' b fLess ltB L' n' v') (hu : Upd (b :: rowOf v) w w') (hg : Grow w (b :: rowOf v) (b :: rowOf v')) (hs : ∀ k, inBl L' k → inBl L k) : Left w fp (HeapT b L' n') w' := by
  refine ⟨(b :: rowOf v') ++ blocksOf L', ⟨v', h', fun k => by rw [List.mem_append, mem_blocksOf]⟩, hu.mono fun k hk => (hf k).2 (.inl hk), fun k hk => ?_⟩
  rw [List.mem_append, mem_blocksOf] at hk
  rcases hk with hk | hk
  · exact (hg k hk).imp (fun h => (hf k).2 (.inl h)) id
  · exact .inl ((hf k).2 (.inr (hs k hk)))
theorem inBl_left {L : List Cur} {k : Nat} (h : inBl (leftR ltB L) k) : inBl L k := by
  obtain ⟨c, hc, h1⟩ := h
  exact ⟨c, List.mem_of_mem_eraseIdx hc, h1⟩
theorem firstR_mem {L : List Cur} (h : L ≠ []) : firstR ltB L ∈ L := by
  unfold firstR
  have := leastAt_lt ltB L L.length (by simpa using h)
  rw [List.getD_eq_getElem?_getD, List.getElem?_eq_getElem this]
  exact List.getElem_mem this
section
variable {W w : World} {R : Thing} {b : Nat} {L : List Cur} {n : Nat}
theorem New_at (h : At W w R) (hR : Stable R) : Calls Tryz.prog 36 #[.func (.func fLess) #[] #[], .slice none 0 0] w fun e w' => ∃ b, e = .returned (.pointer (some ⟨b, 0, none⟩)) ∧ At W w' (Both (HeapT b [] 0) R) := by
  refine (New_calls lessB).mono ?_
  rintro e w' ⟨b, v, rfl, h1, h2, h3⟩
  refine ⟨b, rfl, h.add hR (h2.below (Nat.le_refl _) (by simp)) (fp := b :: rowOf v) ⟨v, ⟨_, h1, holds_new ordB []⟩, fun k => ?_⟩ fun k hk => (h3 k hk).elim (by simp) id⟩
  constructor
  · exact .inl
  · rintro (h | ⟨c, hc, _⟩)
    · exact h
    · simp at hc
theorem Peek_at (h : At W w (Both (HeapT b L n) R)) (hR : Stable R) : Calls Tryz.prog 40 #[.pointer (some ⟨b, 0, none⟩)] w fun e w' => e = .returned (itB (if L = [] then (default, false) else (firstR ltB L, true))) ∧ At W w' (Both (HeapT b L n) R) ∧ Below w.heap.size w w' := by
  obtain ⟨hb, fp, ⟨f, g, ⟨v, ⟨l, h1, h2⟩, h3⟩, h4⟩, h5⟩ := id h
  refine (Peek_calls h1).mono ?_
  rintro e w' ⟨rfl, h6⟩
  exact ⟨by rw [holds_peek ordB h2], h.mono ((HeapT.stable _ _ _).both hR) h6, h6⟩
theorem Pop_at (h : At W w (Both (HeapT b L n) R)) (hR : Stable R) (hn : L.length ≤ 1099511627776) : Calls Tryz.prog 42 #[.pointer (some ⟨b, 0, none⟩)] w fun e w' => e = .returned (itB (if L = [] then (default, false) else (firstR ltB L, true))) ∧ At W w' (Both (HeapT b (leftR ltB L) n) R) := by
  refine h.calls hR fun fp hf _ => ?_
  obtain ⟨v, h1, h2⟩ := hf
  refine (Pop_holds lessB h1 hn).mono ?_
  rintro e w' ⟨rfl, v', h3, h4, h5⟩
  exact ⟨rfl, HeapT.left h2 h3 h4 h5 fun k => inBl_left⟩
theorem one_rd (w : World) (u : Value) (T : TypeId) : RdRow (w.alloc (.cells #[u] T)) (.slice (some ⟨w.heap.size, 0, none⟩) 1 1) 1 1 [u] := by
  refine ⟨by simp, _, _, rfl, Nat.le_refl _, by simp [maxLen], fun j v hv => ⟨_, _, rfl, ?_⟩⟩
  rw [World.cell?_alloc_at _ _ _ _ (by simp)]
  simpa using hv
/-- A cursor of a row's texts goes in. -/
theorem Push_at {x : Cur} (h : At W w (Both (HeapT b L n) (Both (RowG 9 1 (.slice x.a x.n x.c) x.left.length (strs x.left)) R))) (hR : Stable R) (hne : x.left ≠ []) (hn : L.length + 1 ≤ 1099511627776) (ht : n + 1 ≤ 1099511627776) :
    Calls Tryz.prog 39 #[.pointer (some ⟨b, 0, none⟩), .slice (some ⟨w.heap.size, 0, none⟩) 1 1] (w.alloc (.cells #[.slice x.a x.n x.c] 75)) fun e w' => e = .returned (.tuple #[]) ∧ At W w' (Both (HeapT b (L ++ [x]) (n + 1)) R) := by
  have hba : Below w.heap.size w (w.alloc (.cells #[.slice x.a x.n x.c] 75)) := (Below.refl _ _).alloc (Nat.le_refl _) _
  obtain ⟨fp, hf, hge, hstep⟩ := h.toL.step
  obtain ⟨f, g, ⟨v, ⟨l, hh, hH⟩, hv⟩, ⟨ho, rfl⟩, hd, hk⟩ := hf
  obtain ⟨gx, cap, hsl, _, hc1, hc2⟩ := own_cut ho (List.length_pos_iff.2 hne)
  simp only [Value.slice.injEq] at hsl
  obtain ⟨hxa, hxn, hxc⟩ := hsl
  have hlive : Live w x := by
    obtain ⟨_, a, cp, e, _, _, hc⟩ := RdRow.of_own ho
    simp only [Value.slice.injEq] at e
    obtain ⟨ea, _, _⟩ := e
    refine ⟨gx, 0, hxa, hxn, by rw [hxn]; exact List.length_pos_iff.2 hne, by rw [hxn, hxc]; exact hc1, by rw [hxc]; exact hc2, fun j t e => ?_⟩
    obtain ⟨b', o', e1, h0⟩ := hc j (.string ⟨t.toArray⟩) (by simp [strs, e])
    rw [← ea, hxa] at e1
    simp only [Option.some.injEq, Addr.mk.injEq] at e1
    obtain ⟨rfl, rfl, _⟩ := e1
    exact h0
  have hgr : gx ∈ rowOf (.slice x.a x.n x.c) := by simp [rowOf, Value.ownBlock, hxa]
  have hnb : ∀ a, x.a = some a → a.block ∉ b :: rowOf v := fun a ha hm => by
    rw [hxa] at ha
    cases ha
    exact hd gx ((hv gx).2 (.inl hm)) hgr
  refine (Push_holds lessB ⟨l, hh.below hba, hH⟩ (xs := [x]) (one_rd w (.slice x.a x.n x.c) 75) (fun k off c e _ hm => ?_) (fun y hy => ?_) (by simpa using hn) (by simpa using ht)).mono ?_
  · cases e
    have := hh.lt _ hm
    omega
  · simp at hy
    subst hy
    exact ⟨hlive.below hba, hnb⟩
  · rintro e w' ⟨rfl, v', h3, h4, h5⟩
    refine ⟨rfl, hstep hR w' _ ⟨(b :: rowOf v') ++ blocksOf (L ++ [x]), ⟨v', h3, fun k => by rw [List.mem_append, mem_blocksOf]⟩, ((Upd.of_below hba fp).trans (h4.mono fun k hk' => (hk k).2 (.inl ((hv k).2 (.inl hk')))) (Grow.refl _ _)), fun k hk' => ?_⟩⟩
    rw [List.mem_append, mem_blocksOf] at hk'
    rcases hk' with hk' | ⟨c, hc, a, ha, rfl⟩
    · rcases h5 k hk' with h6 | h6
      · exact .inl ((hk k).2 (.inl ((hv k).2 (.inl h6))))
      · exact .inr (Nat.le_trans hba.size h6)
    · rcases List.mem_append.1 hc with hc | hc
      · exact .inl ((hk _).2 (.inl ((hv _).2 (.inr ⟨c, hc, a, ha, rfl⟩))))
      · simp at hc
        subst hc
        rw [hxa] at ha
        cases ha
        exact .inl ((hk _).2 (.inr hgr))
/-- The cursor behind its first text. -/
def tailC (c : Cur) : Cur := ⟨c.a.map fun a => ⟨a.block, a.off + 1, none⟩, c.n - 1, c.c - 1, c.left.tail⟩
theorem tailC_live {c : Cur} (h : Live w c) (h1 : 1 < c.n) : Live w (tailC c) := by
  obtain ⟨g, i, h2, h3, h4, h5, h6, h7⟩ := h
  refine ⟨g, i + 1, by simp [tailC, h2], by simp [tailC, h3], by simp [tailC]; omega, by simp [tailC]; omega, by simp [tailC]; omega, fun j t e => ?_⟩
  have := h7 (j + 1) t (by simpa [tailC] using e)
  rw [show i + 1 + j = i + (j + 1) by omega]
  exact this
theorem tailC_bl {c : Cur} {k : Nat} (h : ∃ a, (tailC c).a = some a ∧ a.block = k) : ∃ a, c.a = some a ∧ a.block = k := by
  obtain ⟨a, ha, rfl⟩ := h
  cases hc : c.a with
  | none => simp [tailC, hc] at ha
  | some a0 => simp [tailC, hc] at ha; subst ha; exact ⟨a0, rfl, rfl⟩
theorem Replace_at (h : At W w (Both (HeapT b L n) R)) (hR : Stable R) (hL : L ≠ []) (h1 : 1 < (firstR ltB L).n) (hn : L.length ≤ 1099511627776) (ht : n ≤ 1099511627776) :
    Calls Tryz.prog 41 #[.pointer (some ⟨b, 0, none⟩), (tailC (firstR ltB L)).v] w fun e w' => e = .returned (itB (firstR ltB L, true)) ∧ At W w' (Both (HeapT b (leftR ltB L ++ [tailC (firstR ltB L)]) (n + 1)) R) := by
  refine h.calls hR fun fp hf hge => ?_
  have hlive := tailC_live (HeapT.live hf _ (firstR_mem hL)) h1
  obtain ⟨v, ⟨l, hh, hH⟩, hv⟩ := hf
  have hl : l ≠ [] := fun e => hL ((holds_ne hH).1 e)
  obtain ⟨e0, he0, he1⟩ := (Holds.mem hH _).2 (firstR_mem hL)
  obtain ⟨k, h2, h3, h4⟩ := hH.replace ordB hl (tailC (firstR ltB L))
  rw [h2.unique (leastAt_is ordB hL)] at h3 h4
  refine (Replace_full lessB hh hl (tailC (firstR ltB L)) hlive (fun a ha hm => ?_) (by rw [hH.length]; exact hn) ht).mono ?_
  · obtain ⟨a0, ha0, hb0⟩ := tailC_bl ⟨a, ha, rfl⟩
    rw [← hb0] at hm
    rw [← he1] at ha0
    exact hh.base e0 he0 a0 ha0 hm
  · rintro e w' ⟨rfl, h5, h6⟩
    refine ⟨by rw [h3]; rfl, HeapT.left hv ⟨_, h5, h4⟩ h6 (Grow.refl _ _) fun k hk => ?_⟩
    obtain ⟨c, hc, h7⟩ := hk
    rcases List.mem_append.1 hc with hc | hc
    · exact inBl_left ⟨c, hc, h7⟩
    · simp at hc
      subst hc
      exact ⟨_, firstR_mem hL, tailC_bl h7⟩
end
end Go.Proofs.YtgeabmmicofanaaGreatDoor.cu
