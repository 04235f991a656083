/- The builder of automata on lists: what holds behind each word. -/
import Derived.Test.YthjkfiniafblbaaDawgP
namespace Go.Proofs.Ythjkfiniafblbaa

/-- One byte more on the path. -/
def growN (N : List Nd) (up : Nat) (c : UInt8) : List Nd := N.set up { nodeAt N up with edges := (nodeAt N up).edges ++ [(c, N.length)] } ++ [⟨false, [], 0⟩]
theorem growN_len (N : List Nd) (up : Nat) (c : UInt8) : (growN N up c).length = N.length + 1 := by simp [growN]
theorem growL_cons (c : UInt8) (r : List UInt8) (N : List Nd) (path : List Nat) : growL (c :: r) (N, path) = growL r (growN N (path.getLastD 0) c, path ++ [N.length]) := rfl
theorem nodeAt_growN_new (N : List Nd) (up : Nat) (c : UInt8) : nodeAt (growN N up c) N.length = ⟨false, [], 0⟩ := by
  simp [nodeAt, growN, List.getD_eq_getElem?_getD]
theorem nodeAt_growN_old {N : List Nd} {up : Nat} {c : UInt8} {i : Nat} (hi : i < N.length) : nodeAt (growN N up c) i = nodeAt (N.set up { nodeAt N up with edges := (nodeAt N up).edges ++ [(c, N.length)] }) i := by
  simp only [nodeAt, growN, List.getD_eq_getElem?_getD]
  rw [List.getElem?_append_left (by simpa using hi)]
theorem nodeAt_growN_up {N : List Nd} {up : Nat} {c : UInt8} (hu : up < N.length) : nodeAt (growN N up c) up = { nodeAt N up with edges := (nodeAt N up).edges ++ [(c, N.length)] } := by
  rw [nodeAt_growN_old hu, nodeAt_set_same hu]
theorem nodeAt_growN_other {N : List Nd} {up : Nat} {c : UInt8} {i : Nat} (hi : i < N.length) (h : up ≠ i) : nodeAt (growN N up c) i = nodeAt N i := by
  rw [nodeAt_growN_old hi, nodeAt_set_other h]

/-- What holds while a word is put in. -/
structure GInv (known : List (NdKey × Nat)) (N : List Nd) (path : List Nat) : Prop where
  f : FInv ⟨N, known⟩
  ne : path ≠ []
  pin : ∀ p ∈ path, p < N.length
  pe : ∀ i, i + 1 < path.length → 0 < (nodeAt N (path.getD i 0)).edges.length
theorem GInv.last {known : List (NdKey × Nat)} {N : List Nd} {path : List Nat} (h : GInv known N path) : path.getLastD 0 < N.length := by
  rw [List.getLastD_eq_getLast?, List.getLast?_eq_some_getLast h.ne]
  exact h.pin _ (List.getLast_mem h.ne)
theorem getLastD_getD {path : List Nat} (_h : path ≠ []) : path.getLastD 0 = path.getD (path.length - 1) 0 := by
  rw [List.getLastD_eq_getLast?, List.getLast?_eq_getElem?, List.getD_eq_getElem?_getD]
theorem GInv.step {known : List (NdKey × Nat)} {N : List Nd} {path : List Nat} (h : GInv known N path) (c : UInt8) : GInv known (growN N (path.getLastD 0) c) (path ++ [N.length]) := by
  have hu := h.last
  have key : ∀ i, i < N.length + 1 → (i = N.length ∧ nodeAt (growN N (path.getLastD 0) c) i = ⟨false, [], 0⟩) ∨ (i < N.length ∧ path.getLastD 0 = i ∧ nodeAt (growN N (path.getLastD 0) c) i = { nodeAt N i with edges := (nodeAt N i).edges ++ [(c, N.length)] }) ∨ (i < N.length ∧ nodeAt (growN N (path.getLastD 0) c) i = nodeAt N i) := fun i hi => by
    by_cases h1 : i = N.length
    · subst h1; exact .inl ⟨rfl, nodeAt_growN_new _ _ _⟩
    · have h2 : i < N.length := by omega
      by_cases h3 : path.getLastD 0 = i
      · right; left
        refine ⟨h2, h3, ?_⟩
        rw [← h3]
        exact nodeAt_growN_up hu
      · exact .inr (.inr ⟨h2, nodeAt_growN_other h2 h3⟩)
  refine ⟨⟨fun i hi e he => ?_, fun i hi => ?_, fun i hi => ?_, fun p hp => ?_⟩, by simp, fun p hp => ?_, fun i hi => ?_⟩
  · dsimp only at hi he ⊢
    rw [growN_len] at hi ⊢
    rcases key i hi with ⟨_, e1⟩ | ⟨h2, _, e1⟩ | ⟨h2, e1⟩
    · rw [e1] at he; cases he
    · rw [e1] at he
      dsimp only at he
      rcases List.mem_append.1 he with he | he
      · exact Nat.lt_succ_of_lt (h.f.tgt i h2 e he)
      · rw [List.mem_singleton] at he; subst he; exact Nat.lt_succ_self _
    · rw [e1] at he; exact Nat.lt_succ_of_lt (h.f.tgt i h2 e he)
  · dsimp only at hi ⊢
    rw [growN_len] at hi ⊢
    rcases key i hi with ⟨_, e1⟩ | ⟨h2, _, e1⟩ | ⟨h2, e1⟩
    · rw [e1]; simp
    · rw [e1]; have := h.f.cnt i h2; simp only [List.length_append, List.length_singleton]; dsimp only at this; omega
    · rw [e1]; exact Nat.le_succ_of_le (h.f.cnt i h2)
  · dsimp only at hi ⊢
    rw [growN_len] at hi
    rcases key i hi with ⟨_, e1⟩ | ⟨h2, _, e1⟩ | ⟨h2, e1⟩
    · rw [e1]; exact Nat.zero_le _
    · rw [e1]; exact h.f.ids i h2
    · rw [e1]; exact h.f.ids i h2
  · dsimp only at hp ⊢
    rw [growN_len]
    exact Nat.lt_succ_of_lt (h.f.kn p hp)
  · rw [growN_len]
    rcases List.mem_append.1 hp with hp | hp
    · exact Nat.lt_succ_of_lt (h.pin p hp)
    · rw [List.mem_singleton] at hp; subst hp; exact Nat.lt_succ_self _
  · rw [List.length_append, List.length_singleton] at hi
    have hi2 : i < path.length := by omega
    have e0 : (path ++ [N.length]).getD i 0 = path.getD i 0 := by
      rw [List.getD_eq_getElem?_getD, List.getD_eq_getElem?_getD, List.getElem?_append_left hi2]
    rw [e0]
    have hlt : path.getD i 0 < N.length := getD_lt h.pin (by omega) i
    by_cases h3 : path.getLastD 0 = path.getD i 0
    · rw [← h3, nodeAt_growN_up hu]
      simp
    · rw [nodeAt_growN_other hlt h3]
      refine h.pe i ?_
      apply Classical.byContradiction
      intro h4
      apply h3
      rw [getLastD_getD h.ne]
      congr 1
      omega
theorem growL_inv {known : List (NdKey × Nat)} : ∀ (r : List UInt8) (N : List Nd) (path : List Nat), GInv known N path → GInv known (growL r (N, path)).1 (growL r (N, path)).2 ∧ (growL r (N, path)).1.length = N.length + r.length ∧ (growL r (N, path)).2.length = path.length + r.length := by
  intro r
  induction r with
  | nil => intro N path h; exact ⟨h, rfl, rfl⟩
  | cons c r ih =>
    intro N path h
    rw [growL_cons]
    obtain ⟨h1, h2, h3⟩ := ih _ _ (h.step c)
    refine ⟨h1, ?_, ?_⟩
    · rw [h2, growN_len, List.length_cons]; omega
    · rw [h3, List.length_append, List.length_singleton, List.length_cons]; omega
theorem markL_inv {known : List (NdKey × Nat)} {N : List Nd} {path : List Nat} (h : GInv known N path) (p : Nat) : GInv known (markL N p) path := by
  by_cases hp : p < N.length
  · have key : ∀ i, i < N.length → (nodeAt (markL N p) i).edges = (nodeAt N i).edges ∧ (nodeAt (markL N p) i).id = (nodeAt N i).id := fun i hi => by
      unfold markL
      by_cases he : p = i
      · subst he; rw [nodeAt_set_same hp]; exact ⟨rfl, rfl⟩
      · rw [nodeAt_set_other he]; exact ⟨rfl, rfl⟩
    have hl : (markL N p).length = N.length := by simp [markL]
    have h0 : 0 < N.length := by omega
    refine ⟨⟨fun i hi e he => ?_, fun i hi => ?_, fun i hi => ?_, fun q hq => ?_⟩, h.ne, fun q hq => by rw [hl]; exact h.pin q hq, fun i hi => by rw [(key _ (getD_lt h.pin h0 i)).1]; exact h.pe i hi⟩
    · dsimp only at hi he ⊢; rw [hl] at hi ⊢; rw [(key i hi).1] at he; exact h.f.tgt i hi e he
    · dsimp only at hi ⊢; rw [hl] at hi ⊢; rw [(key i hi).1]; exact h.f.cnt i hi
    · dsimp only at hi ⊢; rw [hl] at hi; rw [(key i hi).2]; exact h.f.ids i hi
    · dsimp only at hq ⊢; rw [hl]; exact h.f.kn q hq
  · have : markL N p = N := by unfold markL; exact List.set_eq_of_length_le (by omega)
    rw [this]; exact h
theorem BInv.g {b : Bd} (h : BInv b) : GInv b.f.known b.f.N b.path := ⟨h.f, by intro e; have := h.len; rw [e] at this; simp at this, h.pin, h.pe⟩
theorem BInv.pos {b : Bd} (h : BInv b) : 0 < b.f.N.length := by
  have := h.g.last
  omega
/-- The path, cut. -/
theorem cut_g {b : Bd} (h : BInv b) (n : Nat) (hn : n ≤ b.last.length) : GInv (cutL b.path n (b.last.length - n) b.f).known (cutL b.path n (b.last.length - n) b.f).N (b.path.take (n + 1)) ∧ (cutL b.path n (b.last.length - n) b.f).N.length = b.f.N.length ∧ (cutL b.path n (b.last.length - n) b.f).known.length ≤ b.f.known.length + b.last.length := by
  obtain ⟨h1, h2, h3⟩ := cutL_inv (path := b.path) (n := n) (b.last.length - n) b.f h.f (getD_lt h.pin h.pos)
  have hlen := h.len
  refine ⟨⟨h1, ?_, fun p hp => by rw [h2.len]; exact h.pin p (List.mem_of_mem_take hp), fun i hi => ?_⟩, h2.len, by omega⟩
  · intro e
    have := congrArg List.length e
    rw [List.length_take] at this
    simp only [List.length_nil] at this
    omega
  · rw [List.length_take] at hi
    have e0 : (b.path.take (n + 1)).getD i 0 = b.path.getD i 0 := by
      rw [List.getD_eq_getElem?_getD, List.getD_eq_getElem?_getD, List.getElem?_take_of_lt (by omega)]
    rw [e0, h2.edges _ (getD_lt h.pin h.pos i)]
    exact h.pe i (by omega)
theorem addP_inv {b : Bd} (h : BInv b) (w : List UInt8) : BInv (addP b w) ∧ (addP b w).f.N.length ≤ b.f.N.length + w.length ∧ (addP b w).f.known.length ≤ b.f.known.length + b.last.length := by
  have hn := commonL_le w b.last
  obtain ⟨g1, g2, g3⟩ := cut_g h (commonL w b.last) hn.2
  obtain ⟨k1, k2, k3⟩ := growL_inv (w.drop (commonL w b.last)) _ _ g1
  have k4 := markL_inv k1 ((growL (w.drop (commonL w b.last)) ((cutL b.path (commonL w b.last) (b.last.length - commonL w b.last) b.f).N, b.path.take (commonL w b.last + 1))).2.getD w.length 0)
  have hlen := h.len
  have hml : ∀ (N : List Nd) p, (markL N p).length = N.length := fun N p => by simp [markL]
  refine ⟨⟨k4.f, ?_, k4.pin, k4.pe⟩, ?_, g3⟩
  · show (growL _ _).2.length = w.length + 1
    rw [k3, List.length_take, List.length_drop]
    omega
  · show (markL _ _).length ≤ _
    rw [hml, k2, g2, List.length_drop]
    omega
theorem freshB_inv : BInv freshB := ⟨⟨fun i hi e he => by simp [freshB] at hi; subst hi; simp [freshB, nodeAt] at he, fun i hi => by simp [freshB] at hi; subst hi; simp [freshB, nodeAt], fun i hi => by simp [freshB] at hi; subst hi; simp [freshB, nodeAt], fun p hp => by simp [freshB] at hp⟩, rfl, fun p hp => by simp [freshB] at hp; subst hp; simp [freshB], fun i hi => by simp [freshB] at hi⟩
end Go.Proofs.Ythjkfiniafblbaa
