/- strings.Builder: WriteByte and WriteString, with what they leave alone: all that is no row of bytes. -/
import Derived.Test.YtcbdncjknpdnbaaBuilder
import Derived.Lib.OthersKept
import Derived.Test.YtcbdncjknpdnbaaCellT
namespace Go.Proofs.Ytcbdncjknpdnbaa
open Go.RowKit

theorem row_kind {w : World} {B : Nat} {v : Value} {n : Nat} {xs : List Value} (h : w.ownsRow B tU8 1 v n xs) : ∀ g, v.ownBlock = some g → ∃ c fz, w.heap[g]? = some (.cells c tU8 fz) := by
  intro g hg
  rcases h.2 with ⟨rfl, _⟩ | ⟨g2, cap2, cur2, rfl, _, hg2, _⟩
  · cases hg
  · simp only [Value.ownBlock, Option.some.injEq] at hg
    subst hg
    exact ⟨_, _, hg2⟩
theorem kept_grown {b : Option Nat} {a w w' : World} {v : Value} {B n : Nat} {xs : List Value} (h : Lib.OthersKept tU8 b a w) (hg : w.grownBy w' v.ownBlock) (ho : w.ownsRow B tU8 1 v n xs) : Lib.OthersKept tU8 b a w' := by
  intro k o hk hb ho'
  have h1 := h k o hk hb ho'
  have hlt : k < w.heap.size := (Array.getElem?_eq_some_iff.1 h1).1
  rw [hg.block k hlt (fun e => ?_)]
  · exact h1
  · obtain ⟨c, fz, h2⟩ := row_kind ho k e.symm
    rw [h1] at h2
    exact ho' c fz (by simpa using h2)
theorem copyCheck_k (B b : Nat) (bs : List Value) (w : World) (h : Lib.IsBuilder tB tU8 B b bs w) :
    Calls Try.prog 87 #[.pointer (some ⟨b, 0, none⟩)] w fun e w' => e = .returned (.tuple #[]) ∧ (Lib.BuilderAt tB tU8 B b (.pointer (some ⟨b, 0, none⟩)) bs w' ∧ Below B w w' ∧ Lib.OthersKept tU8 (some b) w w') := by
  rcases h with h | h
  · refine (copyCheck_fresh b w h.cell0 h.shape h.frozen0).mono ?_
    rintro e w' ⟨rfl, rfl⟩
    exact ⟨rfl, h.used _, (Below.refl B w).setCell (p := ⟨b, 0, none⟩) h.1 _, (Lib.OthersKept.refl _ _ _).setCell ⟨b, 0, none⟩ rfl _⟩
  · refine (copyCheck_used b w h.cell0).mono ?_
    rintro e w' ⟨rfl, rfl⟩
    exact ⟨rfl, h, Below.refl B _, Lib.OthersKept.refl _ _ _⟩
set_option maxRecDepth 100000 in
set_option maxHeartbeats 1000000 in
theorem WriteByte_k (B b : Nat) (bs : List Value) (c : UInt8) (w : World) (h : Lib.IsBuilder tB tU8 B b bs w) (hlen : bs.length + 1 ≤ 140737488355328) (hBw : B ≤ w.heap.size) :
    Calls Try.prog 62 #[.pointer (some ⟨b, 0, none⟩), .int .u8 c.toNat] w fun e w' => e = .returned .nilIface ∧ (Lib.IsBuilder tB tU8 B b (bs ++ [bv c]) w' ∧ Below B w w' ∧ Lib.OthersKept tU8 (some b) w w') := by
  obtain ⟨i0, hi, hz0, hz1, hz2⟩ := info_parts info_u8
  go_enter Try.func62, Try.ntmps62
  go_wp2_with (go_at_call 87; refine (copyCheck_k B b bs _ h).mono ?_)
  rintro e w1 ⟨rfl, h1, hb1, hk1⟩
  obtain ⟨hB, v, hbk, hown, hne⟩ := h1
  have c0 : w1.cell? ⟨b, 0, none⟩ = some (.pointer (some ⟨b, 0, none⟩)) := by rw [Lib.cell_of_heap hbk]; rfl
  have c1 : w1.cell? ⟨b, 1, none⟩ = some v := by rw [Lib.cell_of_heap hbk]; rfl
  go_wp2_with (at_builtin; refine wpList_append_own _ rfl _ _ 102 rfl B 5 i0 (.int .u8 0) 1 1 Try.underlying102 hi hz0 hz1 hz2 rfl (by decide) _ _ _ rfl (hown.alloc _) ⟨w1.heap.size, 0, none⟩ 1 1 [bv c] rfl rfl ?c1 ?c2 ?c3 ?c4 ?c5 ?_)
  case c1 =>
    intro j u hj
    match j, hj with
    | 0, hj => simp at hj; subst hj; simp [Addr.add]
  case c2 => intro u hu; simp at hu; subst hu; rfl
  case c3 => unfold maxLen; omega
  case c4 => omega
  case c5 => have := hb1.size; simp; omega
  intro v' w2 hown' hgrow _
  have hlt : b < w1.heap.size := by
    rcases Nat.lt_or_ge b w1.heap.size with h' | h'
    · exact h'
    · simp [Array.getElem?_eq_none h'] at hbk
  have hb2 : w2.heap[b]? = some (.cells #[.pointer (some ⟨b, 0, none⟩), v] tB (0, 0)) := by
    rw [hgrow.block b (by simp; omega) (fun e => hne e.symm), heap_alloc_old w1 _ hlt]
    exact hbk
  have d0 : w2.cell? ⟨b, 0, none⟩ = some (.pointer (some ⟨b, 0, none⟩)) := by rw [Lib.cell_of_heap hb2]; rfl
  have d1 : w2.cell? ⟨b, 1, none⟩ = some v := by rw [Lib.cell_of_heap hb2]; rfl
  have f1 : w2.frozen? ⟨b, 1, none⟩ = false := Lib.frozen_of_heap hb2 1
  obtain ⟨g, cap, rfl⟩ : ∃ g cap, v' = .slice (some ⟨g, 0, none⟩) (bs.length + 1) cap := by
    rcases hown'.2 with ⟨_, h0⟩ | ⟨g, cap, cur, hv, _⟩
    · omega
    · exact ⟨g, cap, hv⟩
  go_wp2
  go_ret
  refine ⟨rfl, ?_, ?_, ?_⟩
  · exact .inr (Lib.BuilderAt.put (T := tB) (e := tU8) hB hb2 (bs' := bs ++ [bv c]) (by simpa using hown') (by decide))
  · exact ((hb1.alloc (by have := hb1.size; omega) _).grown hgrow (by have := hb1.size; simp; omega) (fun k hk => (hown.lt k hk).1)).setCell (p := ⟨b, 1, none⟩) hB _
  · exact (kept_grown (hk1.alloc _) hgrow (hown.alloc _)).setCell ⟨b, 1, none⟩ rfl _
set_option maxRecDepth 100000 in
set_option maxHeartbeats 1000000 in
theorem WriteString_k (B b : Nat) (bs : List Value) (s : ByteArray) (w : World) (h : Lib.IsBuilder tB tU8 B b bs w) (hlen : bs.length + s.size ≤ 140737488355328) (hBw : B ≤ w.heap.size) :
    Calls Try.prog 63 #[.pointer (some ⟨b, 0, none⟩), .string s] w fun e w' => e = .returned (.tuple #[.int .i64 s.size, .nilIface]) ∧ (Lib.IsBuilder tB tU8 B b (bs ++ Lib.strCells s) w' ∧ Below B w w' ∧ Lib.OthersKept tU8 (some b) w w') := by
  obtain ⟨i0, hi, hz0, hz1, hz2⟩ := info_parts info_u8
  go_enter Try.func63, Try.ntmps63
  go_wp2_with (go_at_call 87; refine (copyCheck_k B b bs _ h).mono ?_)
  rintro e w1 ⟨rfl, h1, hb1, hk1⟩
  obtain ⟨hB, v, hbk, hown, hne⟩ := h1
  have c0 : w1.cell? ⟨b, 0, none⟩ = some (.pointer (some ⟨b, 0, none⟩)) := by rw [Lib.cell_of_heap hbk]; rfl
  have c1 : w1.cell? ⟨b, 1, none⟩ = some v := by rw [Lib.cell_of_heap hbk]; rfl
  go_wp2_with (at_builtin; refine Lib.wpList_append_own_string _ rfl _ _ 102 9 rfl B 5 i0 Try.underlying102 Try.underlying9 hi hz0 hz1 hz2 _ _ _ rfl hown s rfl ?c3 ?c4 ?c5 ?_)
  case c3 => unfold maxLen; omega
  case c4 => omega
  case c5 => have := hb1.size; omega
  intro v' w2 hown' hgrow _
  have hlt : b < w1.heap.size := by
    rcases Nat.lt_or_ge b w1.heap.size with h' | h'
    · exact h'
    · simp [Array.getElem?_eq_none h'] at hbk
  have hb2 : w2.heap[b]? = some (.cells #[.pointer (some ⟨b, 0, none⟩), v] tB (0, 0)) := by
    rw [hgrow.block b hlt (fun e => hne e.symm)]
    exact hbk
  have d0 : w2.cell? ⟨b, 0, none⟩ = some (.pointer (some ⟨b, 0, none⟩)) := by rw [Lib.cell_of_heap hb2]; rfl
  have d1 : w2.cell? ⟨b, 1, none⟩ = some v := by rw [Lib.cell_of_heap hb2]; rfl
  have f1 : w2.frozen? ⟨b, 1, none⟩ = false := Lib.frozen_of_heap hb2 1
  obtain ⟨ao, n', cap, rfl⟩ : ∃ ao n' cap, v' = .slice ao n' cap := by
    rcases hown'.2 with ⟨hv, _⟩ | ⟨g, cap, cur, hv, _⟩
    · exact ⟨_, _, _, hv⟩
    · exact ⟨_, _, _, hv⟩
  go_wp2
  go_ret2
  refine ⟨rfl, ?_, ?_, ?_⟩
  · exact .inr (Lib.BuilderAt.put (T := tB) (e := tU8) hB hb2 (bs' := bs ++ Lib.strCells s) (by simpa [Lib.strCells_length] using hown') (by decide))
  · exact (hb1.grown hgrow (by have := hb1.size; omega) (fun k hk => (hown.lt k hk).1)).setCell (p := ⟨b, 1, none⟩) hB _
  · exact (kept_grown hk1 hgrow hown).setCell ⟨b, 1, none⟩ rfl _

/-! ### Things beside a builder -/

/-- A thing that has no row of bytes and no builder. -/
def NoBytes (Φ : Thing) : Prop := ∀ w fp, Φ w fp → ∀ k ∈ fp, ∃ o, w.heap[k]? = some o ∧ (∀ c fz, o ≠ .cells c tU8 fz) ∧ ∀ c fz, o ≠ .cells c tB fz
/-- A thing below a block. -/
def UnderT (b : Nat) (R : Thing) : Thing := fun w fp => R w fp ∧ ∀ k ∈ fp, k < b
theorem UnderT.stable {b : Nat} {R : Thing} (h : Stable R) : Stable (UnderT b R) := ⟨fun w fp hp => h.lt w fp hp.1, fun w w' fp hp hs => ⟨h.same w w' fp hp.1 hs, hp.2⟩⟩
theorem NoBytes.both {Φ Ψ : Thing} (h : NoBytes Φ) (k : NoBytes Ψ) : NoBytes (Both Φ Ψ) := by
  intro w fp hp i hi
  obtain ⟨f, g, h1, h2, _, h4⟩ := hp
  rcases (h4 i).1 hi with h5 | h5
  · exact h w f h1 i h5
  · exact k w g h2 i h5
theorem At.under {W w : World} {Φ R : Thing} (h : At W w (Both Φ R)) (hR : Stable R) {b : Nat} (hb : w.heap.size ≤ b) : At W w (Both Φ (UnderT b R)) := by
  obtain ⟨h0, fp, ⟨f, g, h1, h2, h3, h4⟩, h5⟩ := h
  exact ⟨h0, fp, ⟨f, g, h1, ⟨h2, fun k hk => Nat.lt_of_lt_of_le (hR.lt _ _ h2 k hk) hb⟩, h3, h4⟩, h5⟩
theorem At.unUnder {W w : World} {Φ R : Thing} {b : Nat} (h : At W w (Both Φ (UnderT b R))) : At W w (Both Φ R) := h.impl fun _ q => Both.mono (fun _ _ q => q.1) q
/-- A step of the builder. -/
theorem At.bytes {W w w' : World} {Φ R : Thing} {B b : Nat} {bs : List Value} (h : At W w (Both Φ (UnderT B R))) (hΦ : Stable Φ) (hN : NoBytes Φ) (hR : Stable R) (hW : W.heap.size ≤ B) (hi : Lib.IsBuilder tB tU8 B b bs w)
    (hb : Below B w w') (hk : Lib.OthersKept tU8 (some b) w w') : At W w' (Both Φ (UnderT B R)) := by
  obtain ⟨h0, fp, ⟨f, g, h1, h2, h3, h4⟩, h5⟩ := h
  have hbk : ∃ c, w.heap[b]? = some (.cells c tB (0, 0)) := by
    rcases hi with hi | hi
    · obtain ⟨_, v, e, _⟩ := hi; exact ⟨_, e⟩
    · obtain ⟨_, v, e, _⟩ := hi; exact ⟨_, e⟩
  obtain ⟨cb, hcb⟩ := hbk
  refine ⟨h0.trans (hb.mono hW), fp, ⟨f, g, hΦ.same _ _ _ h1 fun k hkf => ?_, (UnderT.stable hR).same _ _ _ h2 fun k hkg => hb.block k (h2.2 k hkg), h3, h4⟩, h5⟩
  obtain ⟨o, e1, e2, e3⟩ := hN w f h1 k hkf
  rw [e1]
  exact hk k o e1 (fun e => by
    simp only [Option.some.injEq] at e
    subst e
    rw [hcb] at e1
    exact e3 _ _ (by simpa using e1.symm)) e2
theorem At.bytesF {W w w' : World} {Φ R : Thing} {B b : Nat} {bs : List Value} (h : At W w (Both Φ (UnderT B R))) (hΦ : Stable Φ) (hN : NoBytes Φ) (hR : Stable R) (hW : W.heap.size ≤ B) (hi : Lib.IsBuilderF tB tU8 B b bs w)
    (hb : Below B w w') (hk : Lib.OthersKept tU8 (some b) w w') : At W w' (Both Φ (UnderT B R)) := by
  obtain ⟨h0, fp, ⟨f, g, h1, h2, h3, h4⟩, h5⟩ := h
  have hbk : ∃ c, w.heap[b]? = some (.cells c tB (0, 0)) := by
    rcases hi with hi | hi
    · obtain ⟨_, v, e, _⟩ := hi; exact ⟨_, e⟩
    · obtain ⟨_, v, e, _⟩ := hi; exact ⟨_, e⟩
  obtain ⟨cb, hcb⟩ := hbk
  refine ⟨h0.trans (hb.mono hW), fp, ⟨f, g, hΦ.same _ _ _ h1 fun k hkf => ?_, (UnderT.stable hR).same _ _ _ h2 fun k hkg => hb.block k (h2.2 k hkg), h3, h4⟩, h5⟩
  obtain ⟨o, e1, e2, e3⟩ := hN w f h1 k hkf
  rw [e1]
  exact hk k o e1 (fun e => by
    simp only [Option.some.injEq] at e
    subst e
    rw [hcb] at e1
    exact e3 _ _ (by simpa using e1.symm)) e2
/-- A builder as a thing. -/
def BuT (B b : Nat) (bs : List Value) : Thing := fun w fp => ∃ p v, (p = .pointer none ∨ p = .pointer (some ⟨b, 0, none⟩)) ∧ B ≤ b ∧ w.heap[b]? = some (.cells #[p, v] tB (0, 0)) ∧ w.ownsRow B tU8 1 v bs.length bs ∧ v.ownBlock ≠ some b ∧ fp = b :: rowOf v
theorem BuT.stable (B b : Nat) (bs : List Value) : Stable (BuT B b bs) := by
  refine ⟨fun w fp h k hk => ?_, fun w w' fp h hs => ?_⟩
  · obtain ⟨p, v, _, _, h3, h4, _, rfl⟩ := h
    rcases List.mem_cons.1 hk with rfl | hk
    · exact lt_of_heap h3
    · exact (h4.lt k (mem_rowOf.1 hk)).2
  · obtain ⟨p, v, h1, h2, h3, h4, h5, rfl⟩ := h
    exact ⟨p, v, h1, h2, (hs b (by simp)).trans h3, ownsRow_block h4 fun k hk => hs k (List.mem_cons_of_mem _ (mem_rowOf.2 hk)), h5, rfl⟩
theorem BuT.is {B b : Nat} {bs : List Value} {w : World} {fp : List Nat} (h : BuT B b bs w fp) : Lib.IsBuilder tB tU8 B b bs w := by
  obtain ⟨p, v, h1, h2, h3, h4, h5, _⟩ := h
  rcases h1 with rfl | rfl
  · exact .inl ⟨h2, v, h3, h4, h5⟩
  · exact .inr ⟨h2, v, h3, h4, h5⟩
theorem BuT.of {B b : Nat} {bs : List Value} {w : World} (h : Lib.IsBuilder tB tU8 B b bs w) : ∃ fp, BuT B b bs w fp ∧ (∀ k ∈ fp, B ≤ k) ∧ ∀ k ∈ fp, ∃ o, w.heap[k]? = some o ∧ ((∃ c fz, o = .cells c tU8 fz) ∨ ∃ c fz, o = .cells c tB fz) := by
  have key : ∀ p, (p = .pointer none ∨ p = .pointer (some ⟨b, 0, none⟩)) → Lib.BuilderAt tB tU8 B b p bs w → ∃ fp, BuT B b bs w fp ∧ (∀ k ∈ fp, B ≤ k) ∧ ∀ k ∈ fp, ∃ o, w.heap[k]? = some o ∧ ((∃ c fz, o = .cells c tU8 fz) ∨ ∃ c fz, o = .cells c tB fz) := by
    rintro p hp ⟨h2, v, h3, h4, h5⟩
    refine ⟨_, ⟨p, v, hp, h2, h3, h4, h5, rfl⟩, fun k hk => ?_, fun k hk => ?_⟩
    · rcases List.mem_cons.1 hk with rfl | hk
      · exact h2
      · exact (h4.lt k (mem_rowOf.1 hk)).1
    · rcases List.mem_cons.1 hk with rfl | hk
      · exact ⟨_, h3, .inr ⟨_, _, rfl⟩⟩
      · obtain ⟨c, fz, e⟩ := row_kind h4 k (mem_rowOf.1 hk)
        exact ⟨_, e, .inl ⟨c, fz, rfl⟩⟩
  rcases h with h | h
  · exact key _ (.inl rfl) h
  · exact key _ (.inr rfl) h
/-- The builder is set beside the things. -/
theorem At.withBu {W w : World} {Φ R : Thing} {B b : Nat} {bs : List Value} (h : At W w (Both Φ (UnderT B R))) (hN : NoBytes Φ) (hW : W.heap.size ≤ B) (hi : Lib.IsBuilder tB tU8 B b bs w) : At W w (Both Φ (Both (BuT B b bs) (UnderT B R))) := by
  obtain ⟨h0, fp, ⟨f, g, h1, h2, h3, h4⟩, h5⟩ := h
  obtain ⟨fb, b1, b2, b3⟩ := BuT.of hi
  refine ⟨h0, fb ++ fp, ⟨f, fb ++ g, h1, ⟨fb, g, b1, h2, fun k hk hk' => ?_, fun k => List.mem_append⟩, fun k hk hk' => ?_, fun k => ?_⟩, fun k hk => ?_⟩
  · have := b2 k hk; have := h2.2 k hk'; omega
  · rcases List.mem_append.1 hk' with hk' | hk'
    · obtain ⟨o, e1, e2, e3⟩ := hN w f h1 k hk
      obtain ⟨o', d1, d2⟩ := b3 k hk'
      rw [e1] at d1
      simp only [Option.some.injEq] at d1
      subst d1
      rcases d2 with ⟨c, fz, rfl⟩ | ⟨c, fz, rfl⟩
      · exact e2 _ _ rfl
      · exact e3 _ _ rfl
    · exact h3 k hk hk'
  · rw [List.mem_append, List.mem_append, h4]
    constructor
    · rintro (h | h | h)
      · exact .inr (.inl h)
      · exact .inl h
      · exact .inr (.inr h)
    · rintro (h | h | h)
      · exact .inr (.inl h)
      · exact .inl h
      · exact .inr (.inr h)
  · rcases List.mem_append.1 hk with hk | hk
    · exact Nat.le_trans hW (b2 k hk)
    · exact h5 k hk
theorem At.isBu {W w : World} {R : Thing} {B b : Nat} {bs : List Value} (h : At W w (Both (BuT B b bs) R)) : Lib.IsBuilder tB tU8 B b bs w := by
  obtain ⟨_, fp, ⟨f, g, h1, _⟩, _⟩ := h
  exact h1.is
/-- A builder whose bytes may be shared with a string, as a thing. -/
def BuFT (B b : Nat) (bs : List Value) : Thing := fun w fp => ∃ p v, (p = .pointer none ∨ p = .pointer (some ⟨b, 0, none⟩)) ∧ B ≤ b ∧ w.heap[b]? = some (.cells #[p, v] tB (0, 0)) ∧ w.ownsRowF B tU8 1 v bs.length bs ∧ v.ownBlock ≠ some b ∧ fp = b :: rowOf v
theorem ownsRowF_block {w w' : World} {B : Nat} {e : TypeId} {size : Nat} {v : Value} {n : Nat} {xs : List Value} (h : w.ownsRowF B e size v n xs) (hs : ∀ k, v.ownBlock = some k → w'.heap[k]? = w.heap[k]?) : w'.ownsRowF B e size v n xs := by
  refine ⟨h.1, ?_⟩
  rcases h.2 with h0 | ⟨g, cap, cur, fz, rfl, h2, h3, h4⟩
  · exact .inl h0
  · exact .inr ⟨g, cap, cur, fz, rfl, h2, (hs g rfl).trans h3, h4⟩
theorem BuFT.stable (B b : Nat) (bs : List Value) : Stable (BuFT B b bs) := by
  refine ⟨fun w fp h k hk => ?_, fun w w' fp h hs => ?_⟩
  · obtain ⟨p, v, _, _, h3, h4, _, rfl⟩ := h
    rcases List.mem_cons.1 hk with rfl | hk
    · exact lt_of_heap h3
    · exact (h4.lt k (mem_rowOf.1 hk)).2
  · obtain ⟨p, v, h1, h2, h3, h4, h5, rfl⟩ := h
    exact ⟨p, v, h1, h2, (hs b (by simp)).trans h3, ownsRowF_block h4 fun k hk => hs k (List.mem_cons_of_mem _ (mem_rowOf.2 hk)), h5, rfl⟩
theorem BuFT.is {B b : Nat} {bs : List Value} {w : World} {fp : List Nat} (h : BuFT B b bs w fp) : Lib.IsBuilderF tB tU8 B b bs w := by
  obtain ⟨p, v, h1, h2, h3, h4, h5, _⟩ := h
  rcases h1 with rfl | rfl
  · exact .inl ⟨h2, v, h3, h4, h5⟩
  · exact .inr ⟨h2, v, h3, h4, h5⟩
theorem row_kindF {w : World} {B : Nat} {v : Value} {n : Nat} {xs : List Value} (h : w.ownsRowF B tU8 1 v n xs) : ∀ g, v.ownBlock = some g → ∃ c fz, w.heap[g]? = some (.cells c tU8 fz) := by
  intro g hg
  rcases h.2 with ⟨rfl, _⟩ | ⟨g2, cap2, cur2, fz, rfl, _, hg2, _⟩
  · cases hg
  · simp only [Value.ownBlock, Option.some.injEq] at hg
    subst hg
    exact ⟨_, _, hg2⟩
theorem BuFT.of {B b : Nat} {bs : List Value} {w : World} (h : Lib.IsBuilderF tB tU8 B b bs w) : ∃ fp, BuFT B b bs w fp ∧ (∀ k ∈ fp, B ≤ k) ∧ ∀ k ∈ fp, ∃ o, w.heap[k]? = some o ∧ ((∃ c fz, o = .cells c tU8 fz) ∨ ∃ c fz, o = .cells c tB fz) := by
  have key : ∀ p, (p = .pointer none ∨ p = .pointer (some ⟨b, 0, none⟩)) → Lib.BuilderAtF tB tU8 B b p bs w → ∃ fp, BuFT B b bs w fp ∧ (∀ k ∈ fp, B ≤ k) ∧ ∀ k ∈ fp, ∃ o, w.heap[k]? = some o ∧ ((∃ c fz, o = .cells c tU8 fz) ∨ ∃ c fz, o = .cells c tB fz) := by
    rintro p hp ⟨h2, v, h3, h4, h5⟩
    refine ⟨_, ⟨p, v, hp, h2, h3, h4, h5, rfl⟩, fun k hk => ?_, fun k hk => ?_⟩
    · rcases List.mem_cons.1 hk with rfl | hk
      · exact h2
      · exact (h4.lt k (mem_rowOf.1 hk)).1
    · rcases List.mem_cons.1 hk with rfl | hk
      · exact ⟨_, h3, .inr ⟨_, _, rfl⟩⟩
      · obtain ⟨c, fz, e⟩ := row_kindF h4 k (mem_rowOf.1 hk)
        exact ⟨_, e, .inl ⟨c, fz, rfl⟩⟩
  rcases h with h | h
  · exact key _ (.inl rfl) h
  · exact key _ (.inr rfl) h
theorem At.withBuF {W w : World} {Φ R : Thing} {B b : Nat} {bs : List Value} (h : At W w (Both Φ (UnderT B R))) (hN : NoBytes Φ) (hW : W.heap.size ≤ B) (hi : Lib.IsBuilderF tB tU8 B b bs w) : At W w (Both Φ (Both (BuFT B b bs) (UnderT B R))) := by
  obtain ⟨h0, fp, ⟨f, g, h1, h2, h3, h4⟩, h5⟩ := h
  obtain ⟨fb, b1, b2, b3⟩ := BuFT.of hi
  refine ⟨h0, fb ++ fp, ⟨f, fb ++ g, h1, ⟨fb, g, b1, h2, fun k hk hk' => ?_, fun k => List.mem_append⟩, fun k hk hk' => ?_, fun k => ?_⟩, fun k hk => ?_⟩
  · have := b2 k hk; have := h2.2 k hk'; omega
  · rcases List.mem_append.1 hk' with hk' | hk'
    · obtain ⟨o, e1, e2, e3⟩ := hN w f h1 k hk
      obtain ⟨o', d1, d2⟩ := b3 k hk'
      rw [e1] at d1
      simp only [Option.some.injEq] at d1
      subst d1
      rcases d2 with ⟨c, fz, rfl⟩ | ⟨c, fz, rfl⟩
      · exact e2 _ _ rfl
      · exact e3 _ _ rfl
    · exact h3 k hk hk'
  · rw [List.mem_append, List.mem_append, h4]
    constructor
    · rintro (h | h | h)
      · exact .inr (.inl h)
      · exact .inl h
      · exact .inr (.inr h)
    · rintro (h | h | h)
      · exact .inr (.inl h)
      · exact .inl h
      · exact .inr (.inr h)
  · rcases List.mem_append.1 hk with hk | hk
    · exact Nat.le_trans hW (b2 k hk)
    · exact h5 k hk
theorem At.isBuF {W w : World} {R : Thing} {B b : Nat} {bs : List Value} (h : At W w (Both (BuFT B b bs) R)) : Lib.IsBuilderF tB tU8 B b bs w := by
  obtain ⟨_, fp, ⟨f, g, h1, _⟩, _⟩ := h
  exact h1.is
end Go.Proofs.Ytcbdncjknpdnbaa
