/- The builder of automata on lists: nodes with numbers in place of pointers; no program. · The builder of automata on lists: what holds behind each word. · The automaton of four words. -/
import Derived.Test.YtcbdncjknpdnbaaPlain
import Derived.Test.YtcbdncjknpdnbaaTrie
namespace Go.Proofs.Ytcbdncjknpdnbaa
section
/-- A node: its edges lead to nodes by their number. -/
structure Nd where
  final : Bool
  edges : List (UInt8 × Nat)
  id : Nat
  deriving Inhabited, DecidableEq
abbrev NdKey := Bool × List UInt8
/-- The nodes, and the frozen ones by their keys. -/
structure Fz where
  N : List Nd
  known : List (NdKey × Nat)

/-- A number in its one form, by a count of bytes. -/
def uintK : Nat → Nat → List UInt8
  | 0, _ => []
  | k + 1, n => if n < 128 then [UInt8.ofNat n] else UInt8.ofNat (n % 128 + 128) :: uintK k (n / 128)
theorem uintK_eq : ∀ (k n : Nat), n < 128 ^ (k + 1) → uintK (k + 1) n = uintL n
  | 0, n, h => by
    have h1 : n < 128 := by simpa using h
    rw [uintL_lt h1, uintK, if_pos h1]
  | k + 1, n, h => by
    rw [uintK]
    by_cases h1 : n < 128
    · rw [if_pos h1, uintL_lt h1]
    · have h2 : n / 128 < 128 ^ (k + 1) := Nat.div_lt_of_lt_mul (by rw [Nat.mul_comm, ← Nat.pow_succ]; exact h)
      rw [if_neg h1, uintL_ge h1, uintK_eq k _ h2]
theorem uintK_64 {n : Nat} (h : n < 18446744073709551616) : uintK 10 n = uintL n := uintK_eq 9 n (Nat.lt_trans h (by decide))
def nodeAt (N : List Nd) (i : Nat) : Nd := N.getD i default
def keyNd (N : List Nd) (nd : Nd) : NdKey := (nd.final, nd.edges.flatMap fun e => e.1 :: uintK 10 (nodeAt N e.2).id)
def lookK (M : List (NdKey × Nat)) (k : NdKey) : Option Nat := (M.find? fun p => p.1 == k).map (·.2)
def freezeP (s : Fz) (n : Nat) : Fz × Nat :=
  match lookK s.known (keyNd s.N (nodeAt s.N n)) with
  | some o => (s, o)
  | none => (⟨s.N.set n { nodeAt s.N n with id := s.known.length + 1 }, s.known ++ [(keyNd s.N (nodeAt s.N n), n)]⟩, n)
def setLast (N : List Nd) (up o : Nat) : List Nd :=
  N.set up { nodeAt N up with edges := (nodeAt N up).edges.set ((nodeAt N up).edges.length - 1) (((nodeAt N up).edges.getD ((nodeAt N up).edges.length - 1) default).1, o) }
/-- c states of the path are frozen, down to the place n. -/
def cutL (path : List Nat) (n : Nat) : Nat → Fz → Fz
  | 0, s => s
  | c + 1, s =>
    let r := freezeP s (path.getD (n + c + 1) 0)
    cutL path n c ⟨setLast r.1.N (path.getD (n + c) 0) r.2, r.1.known⟩
/-- A state for each byte, one behind the other. -/
def growL : List UInt8 → List Nd × List Nat → List Nd × List Nat
  | [], s => s
  | c :: r, s =>
    let up := s.2.getLastD 0
    growL r (s.1.set up { nodeAt s.1 up with edges := (nodeAt s.1 up).edges ++ [(c, s.1.length)] } ++ [⟨false, [], 0⟩], s.2 ++ [s.1.length])
/-- How many bytes both begin with. -/
def commonL : List UInt8 → List UInt8 → Nat
  | a :: l, b :: r => if a = b then commonL l r + 1 else 0
  | _, _ => 0
structure Bd where
  f : Fz
  path : List Nat
  last : List UInt8
def markL (N : List Nd) (p : Nat) : List Nd := N.set p { nodeAt N p with final := true }
def addP (b : Bd) (w : List UInt8) : Bd :=
  let n := commonL w b.last
  let s := cutL b.path n (b.last.length - n) b.f
  let g := growL (w.drop n) (s.N, b.path.take (n + 1))
  ⟨⟨markL g.1 (g.2.getD w.length 0), s.known⟩, g.2, w⟩
def freshB : Bd := ⟨⟨[⟨false, [], 0⟩], []⟩, [0], []⟩

/-! ### Numbered -/
abbrev NumS := List Sta × List (Nat × Nat)
def numE (rec : NumS → Nat → Option (NumS × Nat)) : List (UInt8 × Nat) → NumS × List Ed → Option (NumS × List Ed)
  | [], s => some s
  | e :: es, s => match rec s.1 e.2 with
    | none => none
    | some (s', t) => numE rec es (s', s.2 ++ [(e.1, (t : Int))])
def lookN (M : List (Nat × Nat)) (k : Nat) : Option Nat := (M.find? fun p => p.1 == k).map (·.2)
def numN (N : List Nd) : Nat → NumS → Nat → Option (NumS × Nat)
  | 0, _, _ => none
  | k + 1, s, n => match lookN s.2 (nodeAt N n).id with
    | some t => some (s, t)
    | none => match numE (numN N k) (nodeAt N n).edges ((s.1 ++ [⟨(nodeAt N n).final, []⟩], s.2 ++ [((nodeAt N n).id, s.1.length)]), []) with
      | none => none
      | some (s', es) => some ((s'.1.set s.1.length ⟨(nodeAt N n).final, es⟩, s'.2), s.1.length)
/-- The root, frozen. -/
def rootP (b : Bd) : Fz × Nat := freezeP (cutL b.path 0 b.last.length b.f) (b.path.getD 0 0)
def numberP (f : Fz) (n : Nat) : Option (List Sta) := (numN f.N (f.N.length + 1) ([], []) n).map (·.1.1)
def buildP (words : List (List UInt8)) : Option (List Sta) :=
  let r := rootP (words.foldl addP freshB)
  numberP r.1 r.2

/-! ### What holds of them -/
theorem nodeAt_set_same {N : List Nd} {i : Nat} {x : Nd} (h : i < N.length) : nodeAt (N.set i x) i = x := by simp [nodeAt, h]
theorem nodeAt_set_other {N : List Nd} {i j : Nat} {x : Nd} (h : i ≠ j) : nodeAt (N.set i x) j = nodeAt N j := by simp [nodeAt, h]
theorem nodeAt_mem {N : List Nd} {i : Nat} (h : i < N.length) : nodeAt N i ∈ N := by
  unfold nodeAt
  rw [List.getD_eq_getElem?_getD, List.getElem?_eq_getElem h]
  exact List.getElem_mem h
theorem nodeAt_some {N : List Nd} {i : Nat} (h : i < N.length) : N[i]? = some (nodeAt N i) := by
  unfold nodeAt
  rw [List.getD_eq_getElem?_getD, List.getElem?_eq_getElem h]; rfl

/-- What holds of the nodes. -/
structure FInv (s : Fz) : Prop where
  tgt : ∀ i, i < s.N.length → ∀ e ∈ (nodeAt s.N i).edges, e.2 < s.N.length
  cnt : ∀ i, i < s.N.length → (nodeAt s.N i).edges.length ≤ s.N.length
  ids : ∀ i, i < s.N.length → (nodeAt s.N i).id ≤ s.known.length
  kn : ∀ p ∈ s.known, p.2 < s.N.length
/-- Nothing is lost. -/
structure FKeep (s s' : Fz) : Prop where
  len : s'.N.length = s.N.length
  edges : ∀ i, i < s.N.length → (nodeAt s'.N i).edges.length = (nodeAt s.N i).edges.length
  kn : s.known.length ≤ s'.known.length
theorem FKeep.refl (s : Fz) : FKeep s s := ⟨rfl, fun _ _ => rfl, Nat.le_refl _⟩
theorem FKeep.trans {a b c : Fz} (h : FKeep a b) (k : FKeep b c) : FKeep a c := ⟨k.len.trans h.len, fun i hi => (k.edges i (by rw [h.len]; exact hi)).trans (h.edges i hi), Nat.le_trans h.kn k.kn⟩

theorem lookK_some {M : List (NdKey × Nat)} {k : NdKey} {o : Nat} (h : lookK M k = some o) : (k, o) ∈ M := by
  unfold lookK at h
  cases hf : M.find? (fun p => p.1 == k) with
  | none => rw [hf] at h; cases h
  | some p =>
    rw [hf] at h
    have h1 := List.find?_some hf
    have h2 := List.mem_of_find?_eq_some hf
    simp only [Option.map_some, Option.some.injEq] at h
    obtain ⟨a, b⟩ := p
    have h3 : a = k := by simpa using h1
    subst h3; subst h
    exact h2
theorem lookK_none {M : List (NdKey × Nat)} {k : NdKey} (h : lookK M k = none) : ∀ p ∈ M, p.1 ≠ k := by
  intro p hp e
  unfold lookK at h
  rw [Option.map_eq_none_iff, List.find?_eq_none] at h
  exact h p hp (by simp [e])
theorem lookN_some {M : List (Nat × Nat)} {k o : Nat} (h : lookN M k = some o) : (k, o) ∈ M := by
  unfold lookN at h
  cases hf : M.find? (fun p => p.1 == k) with
  | none => rw [hf] at h; cases h
  | some p =>
    rw [hf] at h
    have h1 := List.find?_some hf
    have h2 := List.mem_of_find?_eq_some hf
    simp only [Option.map_some, Option.some.injEq] at h
    obtain ⟨a, b⟩ := p
    have h3 : a = k := by simpa using h1
    subst h3; subst h
    exact h2
theorem lookN_none {M : List (Nat × Nat)} {k : Nat} (h : lookN M k = none) : ∀ p ∈ M, p.1 ≠ k := by
  intro p hp e
  unfold lookN at h
  rw [Option.map_eq_none_iff, List.find?_eq_none] at h
  exact h p hp (by simp [e])

theorem freezeP_inv {s : Fz} {n : Nat} (h : FInv s) (hn : n < s.N.length) : FInv (freezeP s n).1 ∧ FKeep s (freezeP s n).1 ∧ (freezeP s n).2 < s.N.length ∧ (freezeP s n).1.known.length ≤ s.known.length + 1 := by
  unfold freezeP
  cases hl : lookK s.known (keyNd s.N (nodeAt s.N n)) with
  | some o => exact ⟨h, FKeep.refl s, h.kn _ (lookK_some hl), Nat.le_succ _⟩
  | none =>
    dsimp only
    have hne : ∀ i, i < s.N.length → (nodeAt (s.N.set n { nodeAt s.N n with id := s.known.length + 1 }) i).edges = (nodeAt s.N i).edges ∧ (nodeAt (s.N.set n { nodeAt s.N n with id := s.known.length + 1 }) i).id ≤ s.known.length + 1 := fun i hi => by
      by_cases he : n = i
      · subst he; rw [nodeAt_set_same hn]; exact ⟨rfl, Nat.le_refl _⟩
      · rw [nodeAt_set_other he]; exact ⟨rfl, Nat.le_succ_of_le (h.ids i hi)⟩
    refine ⟨⟨fun i hi e he => ?_, fun i hi => ?_, fun i hi => ?_, fun p hp => ?_⟩, ⟨by simp, fun i hi => by rw [(hne i hi).1], by simp⟩, hn, by simp⟩
    · simp only [List.length_set] at hi ⊢
      rw [(hne i hi).1] at he
      exact h.tgt i hi e he
    · simp only [List.length_set] at hi ⊢
      rw [(hne i hi).1]
      exact h.cnt i hi
    · simp only [List.length_set] at hi
      simpa using (hne i hi).2
    · simp only [List.length_set]
      rcases List.mem_append.1 hp with hp | hp
      · exact h.kn p hp
      · rw [List.mem_singleton] at hp; subst hp; exact hn
theorem setLast_inv {s : Fz} {up o : Nat} (h : FInv s) (hu : up < s.N.length) (ho : o < s.N.length) : FInv ⟨setLast s.N up o, s.known⟩ ∧ FKeep s ⟨setLast s.N up o, s.known⟩ := by
  have hne : ∀ i, i < s.N.length → (nodeAt (setLast s.N up o) i).edges.length = (nodeAt s.N i).edges.length ∧ (nodeAt (setLast s.N up o) i).id = (nodeAt s.N i).id ∧ ∀ e ∈ (nodeAt (setLast s.N up o) i).edges, e.2 < s.N.length := fun i hi => by
    unfold setLast
    by_cases he : up = i
    · subst he
      rw [nodeAt_set_same hu]
      refine ⟨by simp, rfl, fun e he => ?_⟩
      rcases List.mem_or_eq_of_mem_set he with he | rfl
      · exact h.tgt _ hu e he
      · exact ho
    · rw [nodeAt_set_other he]
      exact ⟨rfl, rfl, h.tgt i hi⟩
  have hl : (setLast s.N up o).length = s.N.length := by simp [setLast]
  refine ⟨⟨fun i hi e he => ?_, fun i hi => ?_, fun i hi => ?_, fun p hp => ?_⟩, ⟨hl, fun i hi => (hne i hi).1, Nat.le_refl _⟩⟩
  · dsimp only at hi ⊢; rw [hl] at hi ⊢; exact (hne i hi).2.2 e he
  · dsimp only at hi ⊢; rw [hl] at hi ⊢; rw [(hne i hi).1]; exact h.cnt i hi
  · dsimp only at hi ⊢; rw [hl] at hi; rw [(hne i hi).2.1]; exact h.ids i hi
  · dsimp only at hp ⊢; rw [hl]; exact h.kn p hp
theorem cutL_inv {path : List Nat} {n : Nat} : ∀ (c : Nat) (s : Fz), FInv s → (∀ j, path.getD j 0 < s.N.length) → FInv (cutL path n c s) ∧ FKeep s (cutL path n c s) ∧ (cutL path n c s).known.length ≤ s.known.length + c := by
  intro c
  induction c with
  | zero => intro s h _; exact ⟨h, FKeep.refl s, Nat.le_refl _⟩
  | succ c ih =>
    intro s h hp
    obtain ⟨h1, h2, h3, h4⟩ := freezeP_inv h (hp (n + c + 1))
    obtain ⟨h5, h6⟩ := setLast_inv (up := path.getD (n + c) 0) (o := (freezeP s (path.getD (n + c + 1) 0)).2) h1 (by rw [h2.len]; exact hp _) (by rw [h2.len]; exact h3)
    have hN : ∀ j, path.getD j 0 < (⟨setLast (freezeP s (path.getD (n + c + 1) 0)).1.N (path.getD (n + c) 0) (freezeP s (path.getD (n + c + 1) 0)).2, (freezeP s (path.getD (n + c + 1) 0)).1.known⟩ : Fz).N.length := fun j => by rw [h6.len, h2.len]; exact hp j
    obtain ⟨h7, h8, h9⟩ := ih _ h5 hN
    refine ⟨h7, (h2.trans h6).trans h8, ?_⟩
    simp only [cutL]
    dsimp only at h9
    omega
/-- What holds of the builder. -/
structure BInv (b : Bd) : Prop where
  f : FInv b.f
  len : b.path.length = b.last.length + 1
  pin : ∀ p ∈ b.path, p < b.f.N.length
  pe : ∀ i, i + 1 < b.path.length → 0 < (nodeAt b.f.N (b.path.getD i 0)).edges.length
theorem getD_lt {path : List Nat} {m : Nat} (h : ∀ p ∈ path, p < m) (h0 : 0 < m) (j : Nat) : path.getD j 0 < m := by
  rw [List.getD_eq_getElem?_getD]
  cases hj : path[j]? with
  | none => exact h0
  | some p => exact h p (List.mem_of_getElem? hj)
theorem commonL_le : ∀ (a b : List UInt8), commonL a b ≤ a.length ∧ commonL a b ≤ b.length
  | [], _ => by simp [commonL]
  | _ :: _, [] => by simp [commonL]
  | x :: a, y :: b => by
    simp only [commonL]
    have := commonL_le a b
    split
    · simp only [List.length_cons]; omega
    · simp
end

section
/-- One byte more on the path. -/
def growN (N : List Nd) (up : Nat) (c : UInt8) : List Nd := N.set up { nodeAt N up with edges := (nodeAt N up).edges ++ [(c, N.length)] } ++ [⟨false, [], 0⟩]
theorem growN_len (N : List Nd) (up : Nat) (c : UInt8) : (growN N up c).length = N.length + 1 := by simp [growN]
theorem growL_cons (c : UInt8) (r : List UInt8) (N : List Nd) (path : List Nat) : growL (c :: r) (N, path) = growL r (growN N (path.getLastD 0) c, path ++ [N.length]) := rfl
theorem nodeAt_growN_new (N : List Nd) (up : Nat) (c : UInt8) : nodeAt (growN N up c) N.length = ⟨false, [], 0⟩ := by
  simp [nodeAt, growN, List.getD_eq_getElem?_getD]
theorem nodeAt_growN_old {N : List Nd} {up : Nat} {c : UInt8} {i : Nat} (hi : i < N.length) : nodeAt (growN N up c) i = nodeAt (N.set up { nodeAt N up with edges := (nodeAt N up).edges ++ [(c, N.length)] }) i := by
  simp only [nodeAt, growN, List.getD_eq_getElem?_getD]
  rw [List.getElem?_append_left (by simpa using hi)]
theorem nodeAt_growN_up {N : List Nd} {up : Nat} {c : UInt8} (hu : up < N.length) : nodeAt (growN N up c) up = { nodeAt N up with edges := (nodeAt N up).edges ++ [(c, N.length)] } := by
  rw [nodeAt_growN_old hu, nodeAt_set_same hu]
theorem nodeAt_growN_other {N : List Nd} {up : Nat} {c : UInt8} {i : Nat} (hi : i < N.length) (h : up ≠ i) : nodeAt (growN N up c) i = nodeAt N i := by
  rw [nodeAt_growN_old hi, nodeAt_set_other h]

/-- What holds while a word is put in. -/
structure GInv (known : List (NdKey × Nat)) (N : List Nd) (path : List Nat) : Prop where
  f : FInv ⟨N, known⟩
  ne : path ≠ []
  pin : ∀ p ∈ path, p < N.length
  pe : ∀ i, i + 1 < path.length → 0 < (nodeAt N (path.getD i 0)).edges.length
theorem GInv.last {known : List (NdKey × Nat)} {N : List Nd} {path : List Nat} (h : GInv known N path) : path.getLastD 0 < N.length := by
  rw [List.getLastD_eq_getLast?, List.getLast?_eq_some_getLast h.ne]
  exact h.pin _ (List.getLast_mem h.ne)
theorem getLastD_getD {path : List Nat} (_h : path ≠ []) : path.getLastD 0 = path.getD (path.length - 1) 0 := by
  rw [List.getLastD_eq_getLast?, List.getLast?_eq_getElem?, List.getD_eq_getElem?_getD]
theorem GInv.step {known : List (NdKey × Nat)} {N : List Nd} {path : List Nat} (h : GInv known N path) (c : UInt8) : GInv known (growN N (path.getLastD 0) c) (path ++ [N.length]) := by
  have hu := h.last
  have key : ∀ i, i < N.length + 1 → (i = N.length ∧ nodeAt (growN N (path.getLastD 0) c) i = ⟨false, [], 0⟩) ∨ (i < N.length ∧ path.getLastD 0 = i ∧ nodeAt (growN N (path.getLastD 0) c) i = { nodeAt N i with edges := (nodeAt N i).edges ++ [(c, N.length)] }) ∨ (i < N.length ∧ nodeAt (growN N (path.getLastD 0) c) i = nodeAt N i) := fun i hi => by
    by_cases h1 : i = N.length
    · subst h1; exact .inl ⟨rfl, nodeAt_growN_new _ _ _⟩
    · have h2 : i < N.length := by omega
      by_cases h3 : path.getLastD 0 = i
      · right; left
        refine ⟨h2, h3, ?_⟩
        rw [← h3]
        exact nodeAt_growN_up hu
      · exact .inr (.inr ⟨h2, nodeAt_growN_other h2 h3⟩)
  refine ⟨⟨fun i hi e he => ?_, fun i hi => ?_, fun i hi => ?_, fun p hp => ?_⟩, by simp, fun p hp => ?_, fun i hi => ?_⟩
  · dsimp only at hi he ⊢
    rw [growN_len] at hi ⊢
    rcases key i hi with ⟨_, e1⟩ | ⟨h2, _, e1⟩ | ⟨h2, e1⟩
    · rw [e1] at he; cases he
    · rw [e1] at he
      dsimp only at he
      rcases List.mem_append.1 he with he | he
      · exact Nat.lt_succ_of_lt (h.f.tgt i h2 e he)
      · rw [List.mem_singleton] at he; subst he; exact Nat.lt_succ_self _
    · rw [e1] at he; exact Nat.lt_succ_of_lt (h.f.tgt i h2 e he)
  · dsimp only at hi ⊢
    rw [growN_len] at hi ⊢
    rcases key i hi with ⟨_, e1⟩ | ⟨h2, _, e1⟩ | ⟨h2, e1⟩
    · rw [e1]; simp
    · rw [e1]; have := h.f.cnt i h2; simp only [List.length_append, List.length_singleton]; dsimp only at this; omega
    · rw [e1]; exact Nat.le_succ_of_le (h.f.cnt i h2)
  · dsimp only at hi ⊢
    rw [growN_len] at hi
    rcases key i hi with ⟨_, e1⟩ | ⟨h2, _, e1⟩ | ⟨h2, e1⟩
    · rw [e1]; exact Nat.zero_le _
    · rw [e1]; exact h.f.ids i h2
    · rw [e1]; exact h.f.ids i h2
  · dsimp only at hp ⊢
    rw [growN_len]
    exact Nat.lt_succ_of_lt (h.f.kn p hp)
  · rw [growN_len]
    rcases List.mem_append.1 hp with hp | hp
    · exact Nat.lt_succ_of_lt (h.pin p hp)
    · rw [List.mem_singleton] at hp; subst hp; exact Nat.lt_succ_self _
  · rw [List.length_append, List.length_singleton] at hi
    have hi2 : i < path.length := by omega
    have e0 : (path ++ [N.length]).getD i 0 = path.getD i 0 := by
      rw [List.getD_eq_getElem?_getD, List.getD_eq_getElem?_getD, List.getElem?_append_left hi2]
    rw [e0]
    have hlt : path.getD i 0 < N.length := getD_lt h.pin (by omega) i
    by_cases h3 : path.getLastD 0 = path.getD i 0
    · rw [← h3, nodeAt_growN_up hu]
      simp
    · rw [nodeAt_growN_other hlt h3]
      refine h.pe i ?_
      apply Classical.byContradiction
      intro h4
      apply h3
      rw [getLastD_getD h.ne]
      congr 1
      omega
theorem growL_inv {known : List (NdKey × Nat)} : ∀ (r : List UInt8) (N : List Nd) (path : List Nat), GInv known N path → GInv known (growL r (N, path)).1 (growL r (N, path)).2 ∧ (growL r (N, path)).1.length = N.length + r.length ∧ (growL r (N, path)).2.length = path.length + r.length := by
  intro r
  induction r with
  | nil => intro N path h; exact ⟨h, rfl, rfl⟩
  | cons c r ih =>
    intro N path h
    rw [growL_cons]
    obtain ⟨h1, h2, h3⟩ := ih _ _ (h.step c)
    refine ⟨h1, ?_, ?_⟩
    · rw [h2, growN_len, List.length_cons]; omega
    · rw [h3, List.length_append, List.length_singleton, List.length_cons]; omega
theorem markL_inv {known : List (NdKey × Nat)} {N : List Nd} {path : List Nat} (h : GInv known N path) (p : Nat) : GInv known (markL N p) path := by
  by_cases hp : p < N.length
  · have key : ∀ i, i < N.length → (nodeAt (markL N p) i).edges = (nodeAt N i).edges ∧ (nodeAt (markL N p) i).id = (nodeAt N i).id := fun i hi => by
      unfold markL
      by_cases he : p = i
      · subst he; rw [nodeAt_set_same hp]; exact ⟨rfl, rfl⟩
      · rw [nodeAt_set_other he]; exact ⟨rfl, rfl⟩
    have hl : (markL N p).length = N.length := by simp [markL]
    have h0 : 0 < N.length := by omega
    refine ⟨⟨fun i hi e he => ?_, fun i hi => ?_, fun i hi => ?_, fun q hq => ?_⟩, h.ne, fun q hq => by rw [hl]; exact h.pin q hq, fun i hi => by rw [(key _ (getD_lt h.pin h0 i)).1]; exact h.pe i hi⟩
    · dsimp only at hi he ⊢; rw [hl] at hi ⊢; rw [(key i hi).1] at he; exact h.f.tgt i hi e he
    · dsimp only at hi ⊢; rw [hl] at hi ⊢; rw [(key i hi).1]; exact h.f.cnt i hi
    · dsimp only at hi ⊢; rw [hl] at hi; rw [(key i hi).2]; exact h.f.ids i hi
    · dsimp only at hq ⊢; rw [hl]; exact h.f.kn q hq
  · have : markL N p = N := by unfold markL; exact List.set_eq_of_length_le (by omega)
    rw [this]; exact h
theorem BInv.g {b : Bd} (h : BInv b) : GInv b.f.known b.f.N b.path := ⟨h.f, by intro e; have := h.len; rw [e] at this; simp at this, h.pin, h.pe⟩
theorem BInv.pos {b : Bd} (h : BInv b) : 0 < b.f.N.length := by
  have := h.g.last
  omega
/-- The path, cut. -/
theorem cut_g {b : Bd} (h : BInv b) (n : Nat) (hn : n ≤ b.last.length) : GInv (cutL b.path n (b.last.length - n) b.f).known (cutL b.path n (b.last.length - n) b.f).N (b.path.take (n + 1)) ∧ (cutL b.path n (b.last.length - n) b.f).N.length = b.f.N.length ∧ (cutL b.path n (b.last.length - n) b.f).known.length ≤ b.f.known.length + b.last.length := by
  obtain ⟨h1, h2, h3⟩ := cutL_inv (path := b.path) (n := n) (b.last.length - n) b.f h.f (getD_lt h.pin h.pos)
  have hlen := h.len
  refine ⟨⟨h1, ?_, fun p hp => by rw [h2.len]; exact h.pin p (List.mem_of_mem_take hp), fun i hi => ?_⟩, h2.len, by omega⟩
  · intro e
    have := congrArg List.length e
    rw [List.length_take] at this
    simp only [List.length_nil] at this
    omega
  · rw [List.length_take] at hi
    have e0 : (b.path.take (n + 1)).getD i 0 = b.path.getD i 0 := by
      rw [List.getD_eq_getElem?_getD, List.getD_eq_getElem?_getD, List.getElem?_take_of_lt (by omega)]
    rw [e0, h2.edges _ (getD_lt h.pin h.pos i)]
    exact h.pe i (by omega)
theorem addP_inv {b : Bd} (h : BInv b) (w : List UInt8) : BInv (addP b w) ∧ (addP b w).f.N.length ≤ b.f.N.length + w.length ∧ (addP b w).f.known.length ≤ b.f.known.length + b.last.length := by
  have hn := commonL_le w b.last
  obtain ⟨g1, g2, g3⟩ := cut_g h (commonL w b.last) hn.2
  obtain ⟨k1, k2, k3⟩ := growL_inv (w.drop (commonL w b.last)) _ _ g1
  have k4 := markL_inv k1 ((growL (w.drop (commonL w b.last)) ((cutL b.path (commonL w b.last) (b.last.length - commonL w b.last) b.f).N, b.path.take (commonL w b.last + 1))).2.getD w.length 0)
  have hlen := h.len
  have hml : ∀ (N : List Nd) p, (markL N p).length = N.length := fun N p => by simp [markL]
  refine ⟨⟨k4.f, ?_, k4.pin, k4.pe⟩, ?_, g3⟩
  · show (growL _ _).2.length = w.length + 1
    rw [k3, List.length_take, List.length_drop]
    omega
  · show (markL _ _).length ≤ _
    rw [hml, k2, g2, List.length_drop]
    omega
theorem freshB_inv : BInv freshB := ⟨⟨fun i hi e he => by simp [freshB] at hi; subst hi; simp [freshB, nodeAt] at he, fun i hi => by simp [freshB] at hi; subst hi; simp [freshB, nodeAt], fun i hi => by simp [freshB] at hi; subst hi; simp [freshB, nodeAt], fun p hp => by simp [freshB] at hp⟩, rfl, fun p hp => by simp [freshB] at hp; subst hp; simp [freshB], fun i hi => by simp [freshB] at hi⟩
end

section
def cat : List UInt8 := [99, 97, 116]
def cats : List UInt8 := [99, 97, 116, 115]
def dog : List UInt8 := [100, 111, 103]
def dogs : List UInt8 := [100, 111, 103, 115]
/-- The automaton of cat, cats, dog, dogs. -/
def four : List Sta := [⟨false, [(99, 1), (100, 5)]⟩, ⟨false, [(97, 2)]⟩, ⟨false, [(116, 3)]⟩, ⟨true, [(115, 4)]⟩, ⟨true, []⟩, ⟨false, [(111, 6)]⟩, ⟨false, [(103, 3)]⟩]
theorem build_four : buildP [cat, cats, dog, dogs] = some four := by decide
theorem four_shape : shapeB four = true := by decide
end
end Go.Proofs.Ytcbdncjknpdnbaa
