/- A map of the call's own as a thing, with the list of its entries; new keys only. -/
import Derived.Test.YtcbdncjknpdnbaaSep
import Derived.Maps.Keyed
namespace Go.Proofs.Ytcbdncjknpdnbaa
open Go.RowKit Go.MapKept
open Go.Maps (Keyed)

/-- A map with just these entries, in the order of their coming. -/
def MapT (P : Program) (k : TypeId) (b : Nat) (M : List (Value × Value)) : Thing := fun w fp =>
  fp = [b] ∧ ∃ es clock, w.heap[b]? = some (.map es clock) ∧ Stamped es clock ∧ (∀ x ∈ es.toList, ∃ l, keyOf P k x.key = some l) ∧ es.toList.map (fun x => (x.key, x.val)) = M
theorem MapT.stable (P : Program) (k : TypeId) (b : Nat) (M : List (Value × Value)) : Stable (MapT P k b M) :=
  ⟨fun w fp h j hj => by obtain ⟨rfl, es, clock, h1, _⟩ := h; rw [List.mem_singleton] at hj; subst hj; exact lt_of_heap h1,
   fun w w' fp h hs => by obtain ⟨rfl, es, clock, h1, h2⟩ := h; exact ⟨rfl, es, clock, (hs b (by simp)).trans h1, h2⟩⟩
section
variable {P : Program} {k : TypeId} {W w : World} {R : Thing} {b : Nat} {M : List (Value × Value)}
theorem At.newMap {Φ : Thing} (h : At W w Φ) (hs : Stable Φ) (P : Program) (k : TypeId) : At W (w.alloc (.map #[] 0)) (Both (MapT P k w.heap.size []) Φ) :=
  h.add hs ((Below.refl _ _).alloc (Nat.le_refl _) _) (fp := [w.heap.size]) ⟨rfl, #[], 0, heap_alloc_new _ _, stamped_empty 0, by simp, rfl⟩ (by simp)
theorem At.map (h : At W w (Both (MapT P k b M) R)) : ∃ es clock, w.heap[b]? = some (.map es clock) ∧ Stamped es clock ∧ (∀ x ∈ es.toList, ∃ l, keyOf P k x.key = some l) ∧ es.toList.map (fun x => (x.key, x.val)) = M := by
  obtain ⟨_, fp, ⟨f, g, ⟨_, h1⟩, _⟩, _⟩ := h
  exact h1
theorem At.mapHit (h : At W w (Both (MapT P k b M) R)) {t e : TypeId} (c : Bool) (K : Keyed P k) (ht : P.underlying t = some (.map k e)) {key v : Value} {kl : Lit} (hkey : keyOf P k key = some kl) (hm : (key, v) ∈ M) :
    (Instr.lookup t (.map (some b)) key c).run P w = .ok (if c then .tuple #[v, .bool true] else v) w := by
  obtain ⟨es, clock, hb, hst, hks, rfl⟩ := h.map
  obtain ⟨x, hx, e⟩ := List.mem_map.1 hm
  simp only [Prod.mk.injEq] at e
  obtain ⟨rfl, rfl⟩ := e
  have hn : es.toList.Pairwise (fun x y => x.key ≠ y.key) := ((stamped_iff es clock).1 hst).2.2
  rcases K.find w hkey es.toList hks with ⟨h1, h2⟩ | ⟨j, e0, h1, h2, h3⟩
  · exact absurd rfl (h2 x hx)
  · have e0x : e0 = x := by
      obtain ⟨i, hi, rfl⟩ := List.getElem_of_mem hx
      obtain ⟨hj, rfl⟩ := List.getElem?_eq_some_iff.1 h2
      rcases Nat.lt_trichotomy i j with h4 | h4 | h4
      · exact absurd h3.symm (List.pairwise_iff_getElem.1 hn i j hi hj h4)
      · subst h4; rfl
      · exact absurd h3 (List.pairwise_iff_getElem.1 hn j i hj hi h4)
    subst e0x
    simp [Instr.lookup, run_underlying ht, MapKept.run_getObj_map hb, K.check w _ hkey, h1, Result.andThen]
theorem At.mapMiss (h : At W w (Both (MapT P k b M) R)) {t e : TypeId} (c : Bool) (K : Keyed P k) (ht : P.underlying t = some (.map k e)) {z : Value} (hz : (zeroValue e).run P w = .ok z w) {key : Value} {kl : Lit} (hkey : keyOf P k key = some kl) (hm : ∀ p ∈ M, p.1 ≠ key) :
    (Instr.lookup t (.map (some b)) key c).run P w = .ok (if c then .tuple #[z, .bool false] else z) w := by
  obtain ⟨es, clock, hb, hst, hks, rfl⟩ := h.map
  rcases K.find w hkey es.toList hks with ⟨h1, h2⟩ | ⟨j, e0, h1, h2, h3⟩
  · simp [Instr.lookup, run_underlying ht, MapKept.run_getObj_map hb, K.check w _ hkey, h1, hz, Result.andThen]
  · exact absurd h3 (hm (e0.key, e0.val) (List.mem_map.2 ⟨e0, List.mem_of_getElem? h2, rfl⟩))
/-- A key that is not there is put in. -/
theorem At.mapPut (h : At W w (Both (MapT P k b M) R)) (hR : Stable R) {t e : TypeId} (K : Keyed P k) (ht : P.underlying t = some (.map k e)) {key val : Value} {kl : Lit} (hkey : keyOf P k key = some kl) (hm : ∀ p ∈ M, p.1 ≠ key) :
    ∃ w', (Instr.mapUpdate t (.map (some b)) key val).run P w = .ok () w' ∧ At W w' (Both (MapT P k b (M ++ [(key, val)])) R) := by
  obtain ⟨es, clock, hb, hst, hks, hM⟩ := h.map
  subst hM
  have h2 : ∀ x ∈ es.toList, x.key ≠ key := fun x hx => hm (x.key, x.val) (List.mem_map.2 ⟨x, hx, rfl⟩)
  have h1 : (Instr.findKey k key es.toList).run P w = .ok none w := by
    rcases K.find w hkey es.toList hks with ⟨h1, _⟩ | ⟨j, e0, _, h3, h4⟩
    · exact h1
    · exact absurd h4 (h2 e0 (List.mem_of_getElem? h3))
  refine ⟨ChangeMaps.setBlock w b (.map (es.push ⟨key, val, clock⟩) (clock + 1)), ?_, ?_⟩
  · simp [Instr.mapUpdate, run_underlying ht, MapKept.run_getObj_map hb, K.check w false hkey, h1, MapKept.run_setObj_map _ hb, Result.andThen, ChangeMaps.setBlock]
  · obtain ⟨fp, h3, _, h4⟩ := h.step
    obtain ⟨rfl, _⟩ := h3
    refine h4 hR _ _ ⟨[b], ⟨rfl, es.push ⟨key, val, clock⟩, clock + 1, ChangeMaps.heap_setBlock_same hb _, stamped_push hst h2, ?_, ?_⟩, ⟨rfl, rfl, rfl, by simp [ChangeMaps.setBlock], fun i _ hi => ChangeMaps.heap_setBlock_other hb _ (fun e => hi (by simp [e]))⟩, fun j hj => .inl hj⟩
    · intro x hx
      simp only [Array.toList_push, List.mem_append, List.mem_singleton] at hx
      rcases hx with hx | rfl
      · exact hks x hx
      · exact ⟨kl, hkey⟩
    · simp
theorem At.mapLen (h : At W w (Both (MapT P k b M) R)) (t ty e : TypeId) (ht : P.underlying t = some (.map k e)) : (Builtin.len_ #[t] ty #[.map (some b)]).run P w = .ok (goInt M.length) w := by
  obtain ⟨es, clock, hb, _, _, rfl⟩ := h.map
  rw [run_len_map w t ty b es clock (by rw [ht]; simp [Program.mapKeyOf, Program.mapElemOf, ht]) hb]
  simp
end
end Go.Proofs.Ytcbdncjknpdnbaa
