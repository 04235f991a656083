/- streams: several streams at hand; what the calls that make one more leave. -/
import Derived.Test.YtbmfaffnbjmipaaStUnM
namespace Go.Proofs.Ytbmfaffnbjmipaa
open Go.RowKit

/-- Streams' functions, and what each gives. -/
def Envs (W : World) (Φ : Thing) (es : List (Value × List (List UInt8))) : Prop := ∀ e ∈ es, IsStr W Φ e.1 e.2
theorem Envs.nil (W : World) (Φ : Thing) : Envs W Φ [] := fun _ h => by simp at h
theorem Envs.get {W : World} {Φ : Thing} {es : List (Value × List (List UInt8))} (h : Envs W Φ es) (u : Value) (L : List (List UInt8)) (hm : (u, L) ∈ es) : IsStr W Φ u L := h (u, L) hm
theorem Envs.frame {W : World} {Φ N : Thing} {es : List (Value × List (List UInt8))} (h : Envs W Φ es) (hΦ : Stable Φ) (hN : Stable N) : Envs W (Both N Φ) es := fun e he => (h e he).frame hΦ hN
theorem Envs.cons {W : World} {Φ : Thing} {es : List (Value × List (List UInt8))} {u : Value} {L : List (List UInt8)} (h : Envs W Φ es) (hu : IsStr W Φ u L) : Envs W Φ ((u, L) :: es) := fun e he => by
  rcases List.mem_cons.1 he with rfl | he
  · exact hu
  · exact h e he
section
variable {W w : World} {Φ R : Thing} {es : List (Value × List (List UInt8))}
theorem MkStr.env {L : List (List UInt8)} {e : Ending} {w' : World} (h : MkStr W Φ R L e w') (hΦ : Stable Φ) (he : Envs W Φ es) :
    ∃ Φ' u, Stable Φ' ∧ e = .returned (.agg #[u]) ∧ Envs W Φ' ((u, L) :: es) ∧ At W w' (Both Φ' R) := by
  obtain ⟨N, u, hN, h1, h2, h3⟩ := h
  exact ⟨Both N Φ, u, hN.both hΦ, h1, (he.frame hΦ hN).cons h2, h3⟩
theorem Of_env {v : Value} {L : List (List UInt8)} (h : At W w (Both Φ R)) (hΦ : Stable Φ) (hR : Stable R) (he : Envs W Φ es) (hrd : RdRow w v L.length 1 (strs L)) (hn : L.length ≤ 1099511627776) :
    Calls Try.prog 11 #[v] w fun e w' => ∃ Φ' u, Stable Φ' ∧ e = .returned (.agg #[u]) ∧ Envs W Φ' ((u, ofL L) :: es) ∧ At W w' (Both Φ' R) := by
  refine (SOf_at h (hΦ.both hR) hrd hn).mono ?_
  rintro e w' ⟨Φ2, u, hΦ2, h1, h2, h3⟩
  refine ⟨Both Φ2 Φ, u, hΦ2.both hΦ, h1, (he.frame hΦ hΦ2).cons ((h2.frame hΦ2 hΦ).impl (fun _ _ q => Both.comm q) (fun _ _ q => Both.comm q)), h3.toL⟩
/-- Of a twin of the words. -/
theorem OfTwin_env {v : Value} {L : List (List UInt8)} {w' : World} (h : At W w (Both Φ R)) (hΦ : Stable Φ) (hR : Stable R) (he : Envs W Φ es) (hb : Below w.heap.size w w') (ho : w'.ownsRow w.heap.size tTx 1 v L.length (strs L)) (hn : L.length ≤ 1099511627776) :
    Calls Try.prog 11 #[v] w' fun e w' => ∃ Φ' u, Stable Φ' ∧ e = .returned (.agg #[u]) ∧ Envs W Φ' ((u, ofL L) :: es) ∧ At W w' (Both Φ' R) := by
  have h2 := (h.newRowG (hΦ.both hR) hb ho).swap
  refine (Of_env h2 hΦ ((RowG.stable _ _ _ _ _).both hR) he (RdRow.of_own ho) hn).mono ?_
  rintro e w2 ⟨Φ', u, h1, h3, h4, h5⟩
  exact ⟨Φ', u, h1, h3, h4, h5.swap.drop⟩
theorem At.noughtL (h : At W w R) (hR : Stable R) : At W w (Both Nought R) := h.add hR (Below.refl _ _) (fp := []) rfl (by simp)
theorem rd_new (w : World) (cs : Array Value) (T : TypeId) (n : Nat) (h : cs.size = n) (hn : n ≤ maxLen) : RdRow (w.alloc (.cells cs T)) (.slice (some ⟨w.heap.size, 0, none⟩) n n) n 1 cs.toList := by
  refine ⟨by simpa using h, _, _, rfl, Nat.le_refl _, hn, fun j u hu => ⟨_, _, rfl, ?_⟩⟩
  rw [World.cell?_alloc_at _ _ _ _ (by simp)]
  simpa using hu
theorem IsStrs.of (he : Envs W Φ es) {vs : List Value} {Ls : List (List (List UInt8))} (hl : vs.length = Ls.length) (hm : ∀ p ∈ vs.zip Ls, p ∈ es) : IsStrs W Φ vs Ls :=
  ⟨hl, fun i v L hv hL => he (v, L) (hm _ (List.mem_of_getElem? (i := i) (by rw [List.getElem?_zip_eq_some]; exact ⟨hv, hL⟩)))⟩
/-- The union of streams at hand, their values laid side by side just ahead. -/
theorem Union_env {vs : List Value} {Ls : List (List (List UInt8))} {n : Nat} (he : Envs W Φ es) (hΦ : Stable Φ) (hR : Stable R) (h : At W w (Both Φ R)) (hvl : vs.length = n) (hl : vs.length = Ls.length) (hm : ∀ p ∈ vs.zip Ls, p ∈ es) (hLs : ∀ L ∈ Ls, RisesL L) (hn : Ls.length ≤ 274877906944) (ht : Ls.flatten.length ≤ 274877906944) :
    Calls Try.prog 20 #[.slice (some ⟨w.heap.size, 0, none⟩) n n] (w.alloc (.cells vs.toArray tStr)) fun e w' => ∃ Φ' u, Stable Φ' ∧ e = .returned (.agg #[u]) ∧ Envs W Φ' ((u, cu.unionL Ls) :: es) ∧ At W w' (Both Φ' R) := by
  subst hvl
  have h1 := h.alloc (hΦ.both hR) (.cells vs.toArray tStr)
  refine (SUnion_at (IsStrs.of he hl hm) hΦ hR h1 (rd_new w vs.toArray tStr vs.length (by simp) (by rw [hl]; unfold maxLen; omega)) hLs hn ht).mono ?_
  intro e w' hm
  exact hm.env hΦ he
end
theorem unionL_rises (Ls : List (List (List UInt8))) : RisesL (cu.unionL Ls) := ofL_rises _
theorem mem_unionL {Ls : List (List (List UInt8))} {x : List UInt8} : x ∈ cu.unionL Ls ↔ ∃ L ∈ Ls, x ∈ L := by
  unfold cu.unionL; rw [ofL_mem, List.mem_flatten]
theorem mem_minusL {a b : List (List UInt8)} {x : List UInt8} : x ∈ minusL a b ↔ x ∈ a ∧ x ∉ b := by simp [minusL]
theorem mem_commonW {a b : List (List UInt8)} {x : List UInt8} : x ∈ commonW a b ↔ x ∈ a ∧ x ∈ b := by simp [commonW]
theorem unionL_len (Ls : List (List (List UInt8))) : (cu.unionL Ls).length ≤ Ls.flatten.length := ofL_len _
theorem unionL_two {a b : List (List UInt8)} (ha : RisesL a) (hb : RisesL b) : cu.unionL [a, b] = mergeL a b :=
  RisesL.ext (unionL_rises _) (mergeL_rises ha hb) fun x => by rw [mem_unionL, mergeL_mem]; simp
end Go.Proofs.Ytbmfaffnbjmipaa
