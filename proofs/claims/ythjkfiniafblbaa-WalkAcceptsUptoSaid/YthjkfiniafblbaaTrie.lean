/- Automata as lists of states, and the tree that leads on from a state; no program. -/
namespace Go.Proofs.Ythjkfiniafblbaa

/-- An edge: its byte, and where it leads. -/
abbrev Ed := UInt8 × Int
/-- A state. -/
structure Sta where
  final : Bool
  edges : List Ed
  deriving Inhabited, DecidableEq

/-- What leads on from a state: its edges in their order; at their end whether the state is final. -/
inductive Trie where
  | fin (f : Bool)
  | edge (b : UInt8) (t r : Trie)
  deriving Inhabited, DecidableEq

def Trie.final : Trie → Bool
  | .fin f => f
  | .edge _ _ r => r.final

/-- The edges es and the mark f lead on as the tree says. -/
def UnfE (A : List Sta) : Trie → Bool → List Ed → Prop
  | .fin g, f, es => es = [] ∧ f = g
  | .edge b t r, f, es => ∃ m es', es = (b, m) :: es' ∧ (∃ x, 0 ≤ m ∧ A[m.toNat]? = some x ∧ UnfE A t x.final x.edges) ∧ UnfE A r f es'
/-- The state n leads on as the tree says. -/
def Unf (A : List Sta) (n : Nat) (t : Trie) : Prop := ∃ x, A[n]? = some x ∧ UnfE A t x.final x.edges

theorem UnfE.uniq {A : List Sta} {t : Trie} : ∀ {t' : Trie} {f : Bool} {es : List Ed}, UnfE A t f es → UnfE A t' f es → t = t' := by
  induction t with
  | fin g =>
    intro t' f es h h'
    obtain ⟨rfl, rfl⟩ := h
    cases t' with
    | fin g' => obtain ⟨_, rfl⟩ := h'; rfl
    | edge b t r => obtain ⟨m, es', h1, _⟩ := h'; cases h1
  | edge b t r iht ihr =>
    intro t' f es h h'
    obtain ⟨m, es', rfl, ⟨x, hm, hx, ht⟩, hr⟩ := h
    cases t' with
    | fin g' => obtain ⟨h1, _⟩ := h'; cases h1
    | edge b' t' r' =>
      obtain ⟨m', es2, h1, ⟨x', hm', hx', ht'⟩, hr'⟩ := h'
      simp only [List.cons.injEq, Prod.mk.injEq] at h1
      obtain ⟨⟨rfl, rfl⟩, rfl⟩ := h1
      rw [hx] at hx'
      cases hx'
      rw [iht ht ht', ihr hr hr']
theorem Unf.uniq {A : List Sta} {n : Nat} {t t' : Trie} (h : Unf A n t) (h' : Unf A n t') : t = t' := by
  obtain ⟨x, hx, h1⟩ := h
  obtain ⟨y, hy, h2⟩ := h'
  rw [hx] at hy
  cases hy
  exact h1.uniq h2
theorem UnfE.final {A : List Sta} {t : Trie} : ∀ {f : Bool} {es : List Ed}, UnfE A t f es → t.final = f := by
  induction t with
  | fin g => intro f es h; exact h.2.symm
  | edge b t r _ ihr => intro f es h; obtain ⟨m, es', rfl, _, hr⟩ := h; exact ihr hr
theorem Unf.final {A : List Sta} {n : Nat} {t : Trie} (h : Unf A n t) {x : Sta} (hx : A[n]? = some x) : t.final = x.final := by
  obtain ⟨y, hy, h1⟩ := h
  rw [hx] at hy
  cases hy
  exact h1.final
theorem Unf.lt {A : List Sta} {n : Nat} {t : Trie} (h : Unf A n t) : n < A.length := by
  obtain ⟨x, hx, _⟩ := h
  exact (List.getElem?_eq_some_iff.1 hx).1

/-- The edges' bytes rise from above p on, everywhere; no child is without words (if that is asked). -/
def okE (one : Prop) : Trie → Int → Prop
  | .fin _, _ => True
  | .edge b t r, p => p < b.toNat ∧ (t ≠ .fin false ∨ one) ∧ okE one t (-1) ∧ okE one r b.toNat

/-! ### The shape -/

/-- The edges, one after the other. -/
def visE (rec : Nat × List Bool → Int → Option (Nat × List Bool)) : Int → List Ed → Nat × List Bool → Option (Nat × List Bool)
  | _, [], s => some s
  | p, e :: es, s => if (e.1.toNat : Int) ≤ p then none else
    match rec s e.2 with
    | none => none
    | some s' => visE rec e.1.toNat es s'
/-- A state is gone into. s: the next number, and which states are done. -/
def visN (A : List Sta) : Nat → Nat × List Bool → Int → Option (Nat × List Bool)
  | 0, _, _ => none
  | k + 1, s, n =>
    if n ≠ s.1 then (if 0 ≤ n ∧ n < s.1 ∧ s.2.getD n.toNat false = true then some s else none) else
    match A[s.1]? with
    | none => none
    | some x =>
      match visE (visN A k) (-1) x.edges (s.1 + 1, s.2) with
      | none => none
      | some s' => if x.edges = [] ∧ x.final = false ∧ A.length ≠ 1 then none else some (s'.1, s'.2.set s.1 true)
/-- The automaton is in its one shape. -/
def shapeB (A : List Sta) : Bool :=
  if A.length < 1 ∨ 1048576 < A.length then false else
  match visN A (A.length + 1) (0, List.replicate A.length false) 0 with
  | none => false
  | some s => decide (s.1 = A.length)

theorem visN_back {A : List Sta} {k : Nat} {s : Nat × List Bool} {n : Int} (hn : n ≠ s.1) (h : 0 ≤ n ∧ n < s.1 ∧ s.2.getD n.toNat false = true) : visN A (k + 1) s n = some s := by
  simp only [visN]
  rw [if_pos hn, if_pos h]
theorem visN_bad {A : List Sta} {k : Nat} {s : Nat × List Bool} {n : Int} (hn : n ≠ s.1) (h : ¬ (0 ≤ n ∧ n < s.1 ∧ s.2.getD n.toNat false = true)) : visN A (k + 1) s n = none := by
  simp only [visN]
  rw [if_pos hn, if_neg h]
theorem visN_end {A : List Sta} {k : Nat} {s : Nat × List Bool} (h : A.length ≤ s.1) : visN A (k + 1) s s.1 = none := by
  simp only [visN]
  rw [if_neg (by simp), List.getElem?_eq_none h]
theorem visN_in {A : List Sta} {k : Nat} {s : Nat × List Bool} {x : Sta} (hx : A[s.1]? = some x) : visN A (k + 1) s s.1 =
    match visE (visN A k) (-1) x.edges (s.1 + 1, s.2) with
    | none => none
    | some s' => if x.edges = [] ∧ x.final = false ∧ A.length ≠ 1 then none else some (s'.1, s'.2.set s.1 true) := by
  simp only [visN]
  rw [if_neg (by simp), hx]
/-- The byte of the edge ahead of the j-th. -/
def prevB (es : List Ed) (j : Nat) : Int := if j = 0 then -1 else ((es.getD (j - 1) default).1.toNat : Int)
theorem visE_bad {rec : Nat × List Bool → Int → Option (Nat × List Bool)} {p : Int} {e : Ed} {es : List Ed} {s : Nat × List Bool} (h : (e.1.toNat : Int) ≤ p) : visE rec p (e :: es) s = none := by
  simp only [visE]; rw [if_pos h]
theorem visE_none {rec : Nat × List Bool → Int → Option (Nat × List Bool)} {p : Int} {e : Ed} {es : List Ed} {s : Nat × List Bool} (h : ¬ (e.1.toNat : Int) ≤ p) (hr : rec s e.2 = none) : visE rec p (e :: es) s = none := by
  simp only [visE]; rw [if_neg h, hr]
theorem visE_some {rec : Nat × List Bool → Int → Option (Nat × List Bool)} {p : Int} {e : Ed} {es : List Ed} {s s' : Nat × List Bool} (h : ¬ (e.1.toNat : Int) ≤ p) (hr : rec s e.2 = some s') : visE rec p (e :: es) s = visE rec e.1.toNat es s' := by
  simp only [visE]; rw [if_neg h, hr]
theorem prevB_succ {es : List Ed} {j : Nat} {e : Ed} (h : es[j]? = some e) : prevB es (j + 1) = e.1.toNat := by
  unfold prevB
  rw [if_neg (by omega), Nat.add_sub_cancel, List.getD_eq_getElem?_getD, h]; rfl

/-- What holds of the next number and the states that are done. -/
structure VInv (A : List Sta) (s : Nat × List Bool) : Prop where
  len : s.2.length = A.length
  le : s.1 ≤ A.length
  lt : ∀ i, s.2.getD i false = true → i < s.1

theorem getD_set_same {l : List Bool} {i : Nat} {b : Bool} (h : i < l.length) : (l.set i b).getD i false = b := by simp [h]
theorem getD_set_other {l : List Bool} {i j : Nat} {b : Bool} (h : i ≠ j) : (l.set i b).getD j false = l.getD j false := by
  simp [h]

inductive Gets (A : List Sta) : Nat → Nat → Prop
  | refl (n : Nat) : Gets A n n
  | edge {n i : Nat} {x : Sta} {e : Ed} (hx : A[n]? = some x) (he : e ∈ x.edges) (h0 : 0 ≤ e.2) (h : Gets A e.2.toNat i) : Gets A n i

/-- The tree of each state that is done. -/
def VTr (A : List Sta) (s : Nat × List Bool) : Prop := ∀ i, s.2.getD i false = true → ∃ t, Unf A i t ∧ okE (A.length = 1) t (-1) ∧ (t ≠ .fin false ∨ A.length = 1)

/-- What a visit leaves. -/
structure VPost (A : List Sta) (s s' : Nat × List Bool) : Prop where
  inv : VInv A s'
  tr : VTr A s'
  le : s.1 ≤ s'.1
  keep : ∀ i, s.2.getD i false = true → s'.2.getD i false = true
  old : ∀ i, i < s.1 → s'.2.getD i false = s.2.getD i false
  all : ∀ i, s.1 ≤ i → i < s'.1 → s'.2.getD i false = true
theorem VPost.refl {A : List Sta} {s : Nat × List Bool} (h : VInv A s) (ht : VTr A s) : VPost A s s := ⟨h, ht, Nat.le_refl _, fun _ h => h, fun _ _ => rfl, fun i h1 h2 => by omega⟩
theorem VPost.trans {A : List Sta} {a b c : Nat × List Bool} (h : VPost A a b) (k : VPost A b c) : VPost A a c :=
  ⟨k.inv, k.tr, Nat.le_trans h.le k.le, fun i hi => k.keep i (h.keep i hi), fun i hi => (k.old i (Nat.lt_of_lt_of_le hi h.le)).trans (h.old i hi), fun i h1 h2 => by
    by_cases h3 : i < b.1
    · exact k.keep i (h.all i h1 h3)
    · exact k.all i (by omega) h2⟩

/-- What a visit of n says. -/
def VSays (A : List Sta) (s s' : Nat × List Bool) (n : Int) : Prop := 0 ≤ n ∧ s'.2.getD n.toNat false = true ∧ ∀ i, s.1 ≤ i → i < s'.1 → Gets A n.toNat i

theorem visE_post {A : List Sta} {rec : Nat × List Bool → Int → Option (Nat × List Bool)}
    (hrec : ∀ s n s', VInv A s → VTr A s → rec s n = some s' → VPost A s s' ∧ VSays A s s' n) : ∀ (es : List Ed) (p : Int) (s s' : Nat × List Bool), VInv A s → VTr A s → visE rec p es s = some s' →
    VPost A s s' ∧ (∀ i, s.1 ≤ i → i < s'.1 → ∃ e ∈ es, 0 ≤ e.2 ∧ Gets A e.2.toNat i) ∧ ∀ f : Bool, ∃ t, UnfE A t f es ∧ okE (A.length = 1) t p ∧ (es ≠ [] → t ≠ .fin false) ∧ (f = true → t ≠ .fin false) := by
  intro es
  induction es with
  | nil =>
    intro p s s' hi ht h
    simp only [visE, Option.some.injEq] at h
    subst h
    exact ⟨VPost.refl hi ht, fun i h1 h2 => by omega, fun f => ⟨.fin f, ⟨rfl, rfl⟩, trivial, fun h => absurd rfl h, fun h => by rw [h]; simp⟩⟩
  | cons e es ih =>
    intro p s s' hi ht h
    simp only [visE] at h
    split at h
    · cases h
    · rename_i hp
      cases hr : rec s e.2 with
      | none => rw [hr] at h; cases h
      | some s1 =>
        rw [hr] at h
        dsimp only at h
        obtain ⟨p1, q1⟩ := hrec s e.2 s1 hi ht hr
        obtain ⟨p2, q2, q3⟩ := ih _ _ _ p1.inv p1.tr h
        refine ⟨p1.trans p2, fun i h1 h2 => ?_, fun f => ?_⟩
        · by_cases h3 : i < s1.1
          · exact ⟨e, by simp, q1.1, q1.2.2 i h1 h3⟩
          · obtain ⟨e', he, hr'⟩ := q2 i (by omega) h2
            exact ⟨e', by simp [he], hr'⟩
        · obtain ⟨r, r1, r2, _, _⟩ := q3 f
          obtain ⟨t, ⟨x, hx, t1⟩, t2, t3⟩ := p1.tr e.2.toNat q1.2.1
          exact ⟨.edge e.1 t r, ⟨e.2, es, rfl, ⟨x, q1.1, hx, t1⟩, r1⟩, ⟨by omega, t3, t2, r2⟩, fun _ => by simp, fun _ => by simp⟩

theorem visN_post {A : List Sta} : ∀ (k : Nat) (s : Nat × List Bool) (n : Int) (s' : Nat × List Bool), VInv A s → VTr A s → visN A k s n = some s' → VPost A s s' ∧ VSays A s s' n := by
  intro k
  induction k with
  | zero => intro s n s' _ _ h; simp [visN] at h
  | succ k ih =>
    intro s n s' hi ht h
    simp only [visN] at h
    by_cases hn : n ≠ s.1
    · rw [if_pos hn] at h
      split at h
      · rename_i hc
        simp only [Option.some.injEq] at h
        subst h
        exact ⟨VPost.refl hi ht, hc.1, hc.2.2, fun i h1 h2 => by omega⟩
      · cases h
    · rw [if_neg hn] at h
      have hn : n = s.1 := Classical.not_not.1 hn
      subst hn
      cases hx : A[s.1]? with
      | none => rw [hx] at h; cases h
      | some x =>
        rw [hx] at h
        dsimp only at h
        have hlt : s.1 < A.length := (List.getElem?_eq_some_iff.1 hx).1
        have hi1 : VInv A (s.1 + 1, s.2) := ⟨hi.len, hlt, fun i h => by have := hi.lt i h; dsimp only; omega⟩
        cases hv : visE (visN A k) (-1) x.edges (s.1 + 1, s.2) with
        | none => rw [hv] at h; cases h
        | some s1 =>
          rw [hv] at h
          dsimp only at h
          split at h
          · cases h
          · rename_i hl
            simp only [Option.some.injEq] at h
            subst h
            obtain ⟨p1, q1, q2⟩ := visE_post ih _ _ _ _ hi1 ht hv
            obtain ⟨t, t1, t2, t3, t4⟩ := q2 x.final
            have hle := p1.le
            have hs1 : s.1 < s1.2.length := by rw [p1.inv.len]; exact hlt
            dsimp only at hle
            refine ⟨⟨⟨by simpa using p1.inv.len, p1.inv.le, fun i hi2 => ?_⟩, fun i hi2 => ?_, by dsimp only; omega, fun i hi2 => ?_, fun i hi2 => ?_, fun i h1 h2 => ?_⟩, by omega, ?_, fun i h1 h2 => ?_⟩
            · dsimp only at hi2 ⊢
              by_cases he : s.1 = i
              · omega
              · rw [getD_set_other he] at hi2
                exact p1.inv.lt i hi2
            · dsimp only at hi2
              by_cases he : s.1 = i
              · subst he
                refine ⟨t, ⟨x, hx, t1⟩, t2, ?_⟩
                by_cases h1 : A.length = 1
                · exact .inr h1
                · left
                  by_cases h2 : x.edges = []
                  · exact t4 (by
                      cases hf : x.final with
                      | true => rfl
                      | false => exact absurd ⟨h2, hf, h1⟩ hl)
                  · exact t3 h2
              · rw [getD_set_other he] at hi2
                exact p1.tr i hi2
            · dsimp only
              have hne : s.1 ≠ i := by have := hi.lt i hi2; omega
              rw [getD_set_other hne]
              exact p1.keep i hi2
            · dsimp only
              have hne : s.1 ≠ i := by omega
              rw [getD_set_other hne]
              exact p1.old i (by dsimp only; omega)
            · dsimp only at h2 ⊢
              by_cases he : s.1 = i
              · subst he; exact getD_set_same hs1
              · rw [getD_set_other he]
                exact p1.all i (by dsimp only; omega) h2
            · dsimp only
              rw [Int.toNat_natCast]
              exact getD_set_same hs1
            · dsimp only at h2
              rw [Int.toNat_natCast]
              by_cases he : s.1 = i
              · subst he; exact .refl _
              · obtain ⟨e, he1, he2, he3⟩ := q1 i (by dsimp only; omega) h2
                exact .edge hx he1 he2 he3

theorem okE_mono {a b : Prop} (h : a → b) {t : Trie} : ∀ {p : Int}, okE a t p → okE b t p := by
  induction t with
  | fin => intro p _; trivial
  | edge c t r iht ihr => intro p hp; exact ⟨hp.1, hp.2.1.imp id h, iht hp.2.2.1, ihr hp.2.2.2⟩

/-- A tree that an automaton in its shape may have. -/
def Good (t : Trie) : Prop := okE False t (-1)

theorem visN_one {A : List Sta} {k : Nat} {n : Int} {d : List Bool} {j : Nat} (h1 : A.length = 1) (hj : 1 ≤ j) (hd : ∀ i, d.getD i false = false) : visN A k (j, d) n = none := by
  cases k with
  | zero => rfl
  | succ k =>
    simp only [visN]
    split
    · rw [if_neg (by rw [hd]; simp)]
    · rw [List.getElem?_eq_none (by omega)]

/-- What the shape says. -/
structure Shaped (A : List Sta) : Prop where
  pos : 1 ≤ A.length
  le : A.length ≤ 1048576
  tr : ∀ i, i < A.length → ∃ t, Unf A i t ∧ Good t ∧ (t ≠ .fin false ∨ A.length = 1)
  reach : ∀ i, i < A.length → Gets A 0 i

theorem shaped_of {A : List Sta} (h : shapeB A = true) : Shaped A := by
  unfold shapeB at h
  split at h
  · cases h
  · rename_i hl
    have h1 : 1 ≤ A.length := by omega
    have h2 : A.length ≤ 1048576 := by omega
    cases hv : visN A (A.length + 1) (0, List.replicate A.length false) 0 with
    | none => rw [hv] at h; cases h
    | some s =>
      rw [hv] at h
      have hs : s.1 = A.length := by simpa using h
      have hgd : ∀ i, (List.replicate A.length false).getD i false = false := fun i => by
        rw [List.getD_eq_getElem?_getD, List.getElem?_replicate]; split <;> rfl
      have hi : VInv A (0, List.replicate A.length false) := ⟨by simp, Nat.zero_le _, fun i h => by rw [hgd] at h; cases h⟩
      obtain ⟨p, q⟩ := visN_post _ _ _ _ hi (fun i h => by rw [hgd] at h; cases h) hv
      refine ⟨h1, h2, fun i hlt => ?_, fun i hlt => q.2.2 i (Nat.zero_le _) (by omega)⟩
      obtain ⟨t, t1, t2, t3⟩ := p.tr i (p.all i (Nat.zero_le _) (by omega))
      refine ⟨t, t1, ?_, t3⟩
      by_cases hone : A.length = 1
      · -- a lone state has no edges
        obtain ⟨x, hx, hu⟩ := t1
        have hi0 : i = 0 := by omega
        subst hi0
        have he : x.edges = [] := by
          simp only [visN] at hv
          rw [if_neg (by simp), hx] at hv
          dsimp only at hv
          cases hes : x.edges with
          | nil => rfl
          | cons e es =>
            rw [hes] at hv
            simp only [visE, visN_one hone (j := 0 + 1) (by omega) hgd, ite_self] at hv
            cases hv
        rw [he] at hu
        cases t with
        | fin f => trivial
        | edge b c r => obtain ⟨m, es', h, _⟩ := hu; cases h
      · exact okE_mono (fun h => hone h) t2
end Go.Proofs.Ythjkfiniafblbaa
