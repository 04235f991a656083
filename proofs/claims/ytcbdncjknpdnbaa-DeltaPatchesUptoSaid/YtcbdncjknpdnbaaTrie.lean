/- Automata as lists of states, and the tree that leads on from a state; no program. · Trees: how many words, how high; no program. · The n-th word of a tree; no program. · A byte's step in a tree; which words a tree accepts; how many words are below one; no program. · The words of a tree in their order, from a text on; no program. -/

namespace Go.Proofs.Ytcbdncjknpdnbaa
section
/-- An edge: its byte, and where it leads. -/
abbrev Ed := UInt8 × Int
/-- A state. -/
structure Sta where
  final : Bool
  edges : List Ed
  deriving Inhabited, DecidableEq

/-- What leads on from a state: its edges in their order; at their end whether the state is final. -/
inductive Trie where
  | fin (f : Bool)
  | edge (b : UInt8) (t r : Trie)
  deriving Inhabited, DecidableEq

def Trie.final : Trie → Bool
  | .fin f => f
  | .edge _ _ r => r.final

/-- The edges es and the mark f lead on as the tree says. -/
def UnfE (A : List Sta) : Trie → Bool → List Ed → Prop
  | .fin g, f, es => es = [] ∧ f = g
  | .edge b t r, f, es => ∃ m es', es = (b, m) :: es' ∧ (∃ x, 0 ≤ m ∧ A[m.toNat]? = some x ∧ UnfE A t x.final x.edges) ∧ UnfE A r f es'
/-- The state n leads on as the tree says. -/
def Unf (A : List Sta) (n : Nat) (t : Trie) : Prop := ∃ x, A[n]? = some x ∧ UnfE A t x.final x.edges

theorem UnfE.uniq {A : List Sta} {t : Trie} : ∀ {t' : Trie} {f : Bool} {es : List Ed}, UnfE A t f es → UnfE A t' f es → t = t' := by
  induction t with
  | fin g =>
    intro t' f es h h'
    obtain ⟨rfl, rfl⟩ := h
    cases t' with
    | fin g' => obtain ⟨_, rfl⟩ := h'; rfl
    | edge b t r => obtain ⟨m, es', h1, _⟩ := h'; cases h1
  | edge b t r iht ihr =>
    intro t' f es h h'
    obtain ⟨m, es', rfl, ⟨x, hm, hx, ht⟩, hr⟩ := h
    cases t' with
    | fin g' => obtain ⟨h1, _⟩ := h'; cases h1
    | edge b' t' r' =>
      obtain ⟨m', es2, h1, ⟨x', hm', hx', ht'⟩, hr'⟩ := h'
      simp only [List.cons.injEq, Prod.mk.injEq] at h1
      obtain ⟨⟨rfl, rfl⟩, rfl⟩ := h1
      rw [hx] at hx'
      cases hx'
      rw [iht ht ht', ihr hr hr']
theorem Unf.uniq {A : List Sta} {n : Nat} {t t' : Trie} (h : Unf A n t) (h' : Unf A n t') : t = t' := by
  obtain ⟨x, hx, h1⟩ := h
  obtain ⟨y, hy, h2⟩ := h'
  rw [hx] at hy
  cases hy
  exact h1.uniq h2
theorem UnfE.final {A : List Sta} {t : Trie} : ∀ {f : Bool} {es : List Ed}, UnfE A t f es → t.final = f := by
  induction t with
  | fin g => intro f es h; exact h.2.symm
  | edge b t r _ ihr => intro f es h; obtain ⟨m, es', rfl, _, hr⟩ := h; exact ihr hr
theorem Unf.final {A : List Sta} {n : Nat} {t : Trie} (h : Unf A n t) {x : Sta} (hx : A[n]? = some x) : t.final = x.final := by
  obtain ⟨y, hy, h1⟩ := h
  rw [hx] at hy
  cases hy
  exact h1.final
theorem Unf.lt {A : List Sta} {n : Nat} {t : Trie} (h : Unf A n t) : n < A.length := by
  obtain ⟨x, hx, _⟩ := h
  exact (List.getElem?_eq_some_iff.1 hx).1

/-- The edges' bytes rise from above p on, everywhere; no child is without words (if that is asked). -/
def okE (one : Prop) : Trie → Int → Prop
  | .fin _, _ => True
  | .edge b t r, p => p < b.toNat ∧ (t ≠ .fin false ∨ one) ∧ okE one t (-1) ∧ okE one r b.toNat

/-! ### The shape -/

/-- The edges, one after the other. -/
def visE (rec : Nat × List Bool → Int → Option (Nat × List Bool)) : Int → List Ed → Nat × List Bool → Option (Nat × List Bool)
  | _, [], s => some s
  | p, e :: es, s => if (e.1.toNat : Int) ≤ p then none else
    match rec s e.2 with
    | none => none
    | some s' => visE rec e.1.toNat es s'
/-- A state is gone into. s: the next number, and which states are done. -/
def visN (A : List Sta) : Nat → Nat × List Bool → Int → Option (Nat × List Bool)
  | 0, _, _ => none
  | k + 1, s, n =>
    if n ≠ s.1 then (if 0 ≤ n ∧ n < s.1 ∧ s.2.getD n.toNat false = true then some s else none) else
    match A[s.1]? with
    | none => none
    | some x =>
      match visE (visN A k) (-1) x.edges (s.1 + 1, s.2) with
      | none => none
      | some s' => if x.edges = [] ∧ x.final = false ∧ A.length ≠ 1 then none else some (s'.1, s'.2.set s.1 true)
/-- The automaton is in its one shape. -/
def shapeB (A : List Sta) : Bool :=
  if A.length < 1 ∨ 1048576 < A.length then false else
  match visN A (A.length + 1) (0, List.replicate A.length false) 0 with
  | none => false
  | some s => decide (s.1 = A.length)

theorem visN_back {A : List Sta} {k : Nat} {s : Nat × List Bool} {n : Int} (hn : n ≠ s.1) (h : 0 ≤ n ∧ n < s.1 ∧ s.2.getD n.toNat false = true) : visN A (k + 1) s n = some s := by
  simp only [visN]
  rw [if_pos hn, if_pos h]
theorem visN_bad {A : List Sta} {k : Nat} {s : Nat × List Bool} {n : Int} (hn : n ≠ s.1) (h : ¬ (0 ≤ n ∧ n < s.1 ∧ s.2.getD n.toNat false = true)) : visN A (k + 1) s n = none := by
  simp only [visN]
  rw [if_pos hn, if_neg h]
theorem visN_end {A : List Sta} {k : Nat} {s : Nat × List Bool} (h : A.length ≤ s.1) : visN A (k + 1) s s.1 = none := by
  simp only [visN]
  rw [if_neg (by simp), List.getElem?_eq_none h]
theorem visN_in {A : List Sta} {k : Nat} {s : Nat × List Bool} {x : Sta} (hx : A[s.1]? = some x) : visN A (k + 1) s s.1 =
    match visE (visN A k) (-1) x.edges (s.1 + 1, s.2) with
    | none => none
    | some s' => if x.edges = [] ∧ x.final = false ∧ A.length ≠ 1 then none else some (s'.1, s'.2.set s.1 true) := by
  simp only [visN]
  rw [if_neg (by simp), hx]
/-- The byte of the edge ahead of the j-th. -/
def prevB (es : List Ed) (j : Nat) : Int := if j = 0 then -1 else ((es.getD (j - 1) default).1.toNat : Int)
theorem visE_bad {rec : Nat × List Bool → Int → Option (Nat × List Bool)} {p : Int} {e : Ed} {es : List Ed} {s : Nat × List Bool} (h : (e.1.toNat : Int) ≤ p) : visE rec p (e :: es) s = none := by
  simp only [visE]; rw [if_pos h]
theorem visE_none {rec : Nat × List Bool → Int → Option (Nat × List Bool)} {p : Int} {e : Ed} {es : List Ed} {s : Nat × List Bool} (h : ¬ (e.1.toNat : Int) ≤ p) (hr : rec s e.2 = none) : visE rec p (e :: es) s = none := by
  simp only [visE]; rw [if_neg h, hr]
theorem visE_some {rec : Nat × List Bool → Int → Option (Nat × List Bool)} {p : Int} {e : Ed} {es : List Ed} {s s' : Nat × List Bool} (h : ¬ (e.1.toNat : Int) ≤ p) (hr : rec s e.2 = some s') : visE rec p (e :: es) s = visE rec e.1.toNat es s' := by
  simp only [visE]; rw [if_neg h, hr]
theorem prevB_succ {es : List Ed} {j : Nat} {e : Ed} (h : es[j]? = some e) : prevB es (j + 1) = e.1.toNat := by
  unfold prevB
  rw [if_neg (by omega), Nat.add_sub_cancel, List.getD_eq_getElem?_getD, h]; rfl

/-- What holds of the next number and the states that are done. -/
structure VInv (A : List Sta) (s : Nat × List Bool) : Prop where
  len : s.2.length = A.length
  le : s.1 ≤ A.length
  lt : ∀ i, s.2.getD i false = true → i < s.1

theorem getD_set_same {l : List Bool} {i : Nat} {b : Bool} (h : i < l.length) : (l.set i b).getD i false = b := by simp [h]
theorem getD_set_other {l : List Bool} {i j : Nat} {b : Bool} (h : i ≠ j) : (l.set i b).getD j false = l.getD j false := by
  simp [h]

inductive Gets (A : List Sta) : Nat → Nat → Prop
  | refl (n : Nat) : Gets A n n
  | edge {n i : Nat} {x : Sta} {e : Ed} (hx : A[n]? = some x) (he : e ∈ x.edges) (h0 : 0 ≤ e.2) (h : Gets A e.2.toNat i) : Gets A n i

/-- The tree of each state that is done. -/
def VTr (A : List Sta) (s : Nat × List Bool) : Prop := ∀ i, s.2.getD i false = true → ∃ t, Unf A i t ∧ okE (A.length = 1) t (-1) ∧ (t ≠ .fin false ∨ A.length = 1)

/-- What a visit leaves. -/
structure VPost (A : List Sta) (s s' : Nat × List Bool) : Prop where
  inv : VInv A s'
  tr : VTr A s'
  le : s.1 ≤ s'.1
  keep : ∀ i, s.2.getD i false = true → s'.2.getD i false = true
  old : ∀ i, i < s.1 → s'.2.getD i false = s.2.getD i false
  all : ∀ i, s.1 ≤ i → i < s'.1 → s'.2.getD i false = true
theorem VPost.refl {A : List Sta} {s : Nat × List Bool} (h : VInv A s) (ht : VTr A s) : VPost A s s := ⟨h, ht, Nat.le_refl _, fun _ h => h, fun _ _ => rfl, fun i h1 h2 => by omega⟩
theorem VPost.trans {A : List Sta} {a b c : Nat × List Bool} (h : VPost A a b) (k : VPost A b c) : VPost A a c :=
  ⟨k.inv, k.tr, Nat.le_trans h.le k.le, fun i hi => k.keep i (h.keep i hi), fun i hi => (k.old i (Nat.lt_of_lt_of_le hi h.le)).trans (h.old i hi), fun i h1 h2 => by
    by_cases h3 : i < b.1
    · exact k.keep i (h.all i h1 h3)
    · exact k.all i (by omega) h2⟩

/-- What a visit of n says. -/
def VSays (A : List Sta) (s s' : Nat × List Bool) (n : Int) : Prop := 0 ≤ n ∧ s'.2.getD n.toNat false = true ∧ ∀ i, s.1 ≤ i → i < s'.1 → Gets A n.toNat i

theorem visE_post {A : List Sta} {rec : Nat × List Bool → Int → Option (Nat × List Bool)}
    (hrec : ∀ s n s', VInv A s → VTr A s → rec s n = some s' → VPost A s s' ∧ VSays A s s' n) : ∀ (es : List Ed) (p : Int) (s s' : Nat × List Bool), VInv A s → VTr A s → visE rec p es s = some s' →
    VPost A s s' ∧ (∀ i, s.1 ≤ i → i < s'.1 → ∃ e ∈ es, 0 ≤ e.2 ∧ Gets A e.2.toNat i) ∧ ∀ f : Bool, ∃ t, UnfE A t f es ∧ okE (A.length = 1) t p ∧ (es ≠ [] → t ≠ .fin false) ∧ (f = true → t ≠ .fin false) := by
  intro es
  induction es with
  | nil =>
    intro p s s' hi ht h
    simp only [visE, Option.some.injEq] at h
    subst h
    exact ⟨VPost.refl hi ht, fun i h1 h2 => by omega, fun f => ⟨.fin f, ⟨rfl, rfl⟩, trivial, fun h => absurd rfl h, fun h => by rw [h]; simp⟩⟩
  | cons e es ih =>
    intro p s s' hi ht h
    simp only [visE] at h
    split at h
    · cases h
    · rename_i hp
      cases hr : rec s e.2 with
      | none => rw [hr] at h; cases h
      | some s1 =>
        rw [hr] at h
        dsimp only at h
        obtain ⟨p1, q1⟩ := hrec s e.2 s1 hi ht hr
        obtain ⟨p2, q2, q3⟩ := ih _ _ _ p1.inv p1.tr h
        refine ⟨p1.trans p2, fun i h1 h2 => ?_, fun f => ?_⟩
        · by_cases h3 : i < s1.1
          · exact ⟨e, by simp, q1.1, q1.2.2 i h1 h3⟩
          · obtain ⟨e', he, hr'⟩ := q2 i (by omega) h2
            exact ⟨e', by simp [he], hr'⟩
        · obtain ⟨r, r1, r2, _, _⟩ := q3 f
          obtain ⟨t, ⟨x, hx, t1⟩, t2, t3⟩ := p1.tr e.2.toNat q1.2.1
          exact ⟨.edge e.1 t r, ⟨e.2, es, rfl, ⟨x, q1.1, hx, t1⟩, r1⟩, ⟨by omega, t3, t2, r2⟩, fun _ => by simp, fun _ => by simp⟩

theorem visN_post {A : List Sta} : ∀ (k : Nat) (s : Nat × List Bool) (n : Int) (s' : Nat × List Bool), VInv A s → VTr A s → visN A k s n = some s' → VPost A s s' ∧ VSays A s s' n := by
  intro k
  induction k with
  | zero => intro s n s' _ _ h; simp [visN] at h
  | succ k ih =>
    intro s n s' hi ht h
    simp only [visN] at h
    by_cases hn : n ≠ s.1
    · rw [if_pos hn] at h
      split at h
      · rename_i hc
        simp only [Option.some.injEq] at h
        subst h
        exact ⟨VPost.refl hi ht, hc.1, hc.2.2, fun i h1 h2 => by omega⟩
      · cases h
    · rw [if_neg hn] at h
      have hn : n = s.1 := Classical.not_not.1 hn
      subst hn
      cases hx : A[s.1]? with
      | none => rw [hx] at h; cases h
      | some x =>
        rw [hx] at h
        dsimp only at h
        have hlt : s.1 < A.length := (List.getElem?_eq_some_iff.1 hx).1
        have hi1 : VInv A (s.1 + 1, s.2) := ⟨hi.len, hlt, fun i h => by have := hi.lt i h; dsimp only; omega⟩
        cases hv : visE (visN A k) (-1) x.edges (s.1 + 1, s.2) with
        | none => rw [hv] at h; cases h
        | some s1 =>
          rw [hv] at h
          dsimp only at h
          split at h
          · cases h
          · rename_i hl
            simp only [Option.some.injEq] at h
            subst h
            obtain ⟨p1, q1, q2⟩ := visE_post ih _ _ _ _ hi1 ht hv
            obtain ⟨t, t1, t2, t3, t4⟩ := q2 x.final
            have hle := p1.le
            have hs1 : s.1 < s1.2.length := by rw [p1.inv.len]; exact hlt
            dsimp only at hle
            refine ⟨⟨⟨by simpa using p1.inv.len, p1.inv.le, fun i hi2 => ?_⟩, fun i hi2 => ?_, by dsimp only; omega, fun i hi2 => ?_, fun i hi2 => ?_, fun i h1 h2 => ?_⟩, by omega, ?_, fun i h1 h2 => ?_⟩
            · dsimp only at hi2 ⊢
              by_cases he : s.1 = i
              · omega
              · rw [getD_set_other he] at hi2
                exact p1.inv.lt i hi2
            · dsimp only at hi2
              by_cases he : s.1 = i
              · subst he
                refine ⟨t, ⟨x, hx, t1⟩, t2, ?_⟩
                by_cases h1 : A.length = 1
                · exact .inr h1
                · left
                  by_cases h2 : x.edges = []
                  · exact t4 (by
                      cases hf : x.final with
                      | true => rfl
                      | false => exact absurd ⟨h2, hf, h1⟩ hl)
                  · exact t3 h2
              · rw [getD_set_other he] at hi2
                exact p1.tr i hi2
            · dsimp only
              have hne : s.1 ≠ i := by have := hi.lt i hi2; omega
              rw [getD_set_other hne]
              exact p1.keep i hi2
            · dsimp only
              have hne : s.1 ≠ i := by omega
              rw [getD_set_other hne]
              exact p1.old i (by dsimp only; omega)
            · dsimp only at h2 ⊢
              by_cases he : s.1 = i
              · subst he; exact getD_set_same hs1
              · rw [getD_set_other he]
                exact p1.all i (by dsimp only; omega) h2
            · dsimp only
              rw [Int.toNat_natCast]
              exact getD_set_same hs1
            · dsimp only at h2
              rw [Int.toNat_natCast]
              by_cases he : s.1 = i
              · subst he; exact .refl _
              · obtain ⟨e, he1, he2, he3⟩ := q1 i (by dsimp only; omega) h2
                exact .edge hx he1 he2 he3

theorem okE_mono {a b : Prop} (h : a → b) {t : Trie} : ∀ {p : Int}, okE a t p → okE b t p := by
  induction t with
  | fin => intro p _; trivial
  | edge c t r iht ihr => intro p hp; exact ⟨hp.1, hp.2.1.imp id h, iht hp.2.2.1, ihr hp.2.2.2⟩

/-- A tree that an automaton in its shape may have. -/
def Good (t : Trie) : Prop := okE False t (-1)

theorem visN_one {A : List Sta} {k : Nat} {n : Int} {d : List Bool} {j : Nat} (h1 : A.length = 1) (hj : 1 ≤ j) (hd : ∀ i, d.getD i false = false) : visN A k (j, d) n = none := by
  cases k with
  | zero => rfl
  | succ k =>
    simp only [visN]
    split
    · rw [if_neg (by rw [hd]; simp)]
    · rw [List.getElem?_eq_none (by omega)]

/-- What the shape says. -/
structure Shaped (A : List Sta) : Prop where
  pos : 1 ≤ A.length
  le : A.length ≤ 1048576
  tr : ∀ i, i < A.length → ∃ t, Unf A i t ∧ Good t ∧ (t ≠ .fin false ∨ A.length = 1)
  reach : ∀ i, i < A.length → Gets A 0 i

theorem shaped_of {A : List Sta} (h : shapeB A = true) : Shaped A := by
  unfold shapeB at h
  split at h
  · cases h
  · rename_i hl
    have h1 : 1 ≤ A.length := by omega
    have h2 : A.length ≤ 1048576 := by omega
    cases hv : visN A (A.length + 1) (0, List.replicate A.length false) 0 with
    | none => rw [hv] at h; cases h
    | some s =>
      rw [hv] at h
      have hs : s.1 = A.length := by simpa using h
      have hgd : ∀ i, (List.replicate A.length false).getD i false = false := fun i => by
        rw [List.getD_eq_getElem?_getD, List.getElem?_replicate]; split <;> rfl
      have hi : VInv A (0, List.replicate A.length false) := ⟨by simp, Nat.zero_le _, fun i h => by rw [hgd] at h; cases h⟩
      obtain ⟨p, q⟩ := visN_post _ _ _ _ hi (fun i h => by rw [hgd] at h; cases h) hv
      refine ⟨h1, h2, fun i hlt => ?_, fun i hlt => q.2.2 i (Nat.zero_le _) (by omega)⟩
      obtain ⟨t, t1, t2, t3⟩ := p.tr i (p.all i (Nat.zero_le _) (by omega))
      refine ⟨t, t1, ?_, t3⟩
      by_cases hone : A.length = 1
      · -- a lone state has no edges
        obtain ⟨x, hx, hu⟩ := t1
        have hi0 : i = 0 := by omega
        subst hi0
        have he : x.edges = [] := by
          simp only [visN] at hv
          rw [if_neg (by simp), hx] at hv
          dsimp only at hv
          cases hes : x.edges with
          | nil => rfl
          | cons e es =>
            rw [hes] at hv
            simp only [visE, visN_one hone (j := 0 + 1) (by omega) hgd, ite_self] at hv
            cases hv
        rw [he] at hu
        cases t with
        | fin f => trivial
        | edge b c r => obtain ⟨m, es', h, _⟩ := hu; cases h
      · exact okE_mono (fun h => hone h) t2
end

section
/-- How many words lead on. -/
def cntT : Trie → Nat
  | .fin f => if f then 1 else 0
  | .edge _ t r => cntT t + cntT r
/-- How high. -/
def htT : Trie → Nat
  | .fin _ => 0
  | .edge _ t r => max (htT t + 1) (htT r)
def capN (n : Nat) : Nat := min n 1099511627777
theorem capN_le (n : Nat) : capN n ≤ 1099511627777 := Nat.min_le_right _ _
theorem capN_add (a b : Nat) : capN (capN a + b) = capN (a + b) := by unfold capN; omega
theorem capN_add' (a b : Nat) : capN (a + capN b) = capN (a + b) := by unfold capN; omega
/-- The edges' words, each child's cut. -/
def uE : Trie → Nat
  | .fin _ => 0
  | .edge _ t r => capN (cntT t) + uE r
def finN (f : Bool) : Nat := if f then 1 else 0
theorem capN_uE : ∀ (t : Trie), capN (finN t.final + uE t) = capN (cntT t)
  | .fin f => by cases f <;> rfl
  | .edge b c r => by
    have h := capN_uE r
    simp only [Trie.final, uE, cntT]
    have e1 : finN r.final + (capN (cntT c) + uE r) = capN (cntT c) + (finN r.final + uE r) := by omega
    rw [e1, capN_add, ← capN_add', h, capN_add']
theorem uE_le {A : List Sta} : ∀ {t : Trie} {f : Bool} {es : List Ed}, UnfE A t f es → uE t ≤ es.length * 1099511627777
  | .fin _, _, _, _ => by simp [uE]
  | .edge b c r, f, es, h => by
    obtain ⟨m, es', rfl, _, hr⟩ := h
    have := uE_le hr
    have := capN_le (cntT c)
    simp only [uE, List.length_cons, Nat.add_mul]
    omega
/-- What the j-th edge leads to, and what is behind it. -/
theorem UnfE.drop {A : List Sta} : ∀ {t : Trie} {f : Bool} {es : List Ed}, UnfE A t f es → ∀ j, j ≤ es.length → ∃ t', UnfE A t' f (es.drop j)
  | t, f, es, h, 0, _ => ⟨t, h⟩
  | .fin _, f, es, h, j + 1, hj => by obtain ⟨rfl, _⟩ := h; simp at hj
  | .edge b c r, f, es, h, j + 1, hj => by
    obtain ⟨m, es', rfl, _, hr⟩ := h
    exact UnfE.drop hr j (by simpa using hj)
theorem UnfE.cons {A : List Sta} {t : Trie} {f : Bool} {e : Ed} {es : List Ed} (h : UnfE A t f (e :: es)) : ∃ c r, t = .edge e.1 c r ∧ 0 ≤ e.2 ∧ Unf A e.2.toNat c ∧ UnfE A r f es := by
  cases t with
  | fin g => obtain ⟨h1, _⟩ := h; cases h1
  | edge b c r =>
    obtain ⟨m, es', h1, ⟨x, hm, hx, hc⟩, hr⟩ := h
    simp only [List.cons.injEq] at h1
    obtain ⟨rfl, rfl⟩ := h1
    exact ⟨c, r, rfl, hm, ⟨x, hx, hc⟩, hr⟩
theorem UnfE.nil {A : List Sta} {t : Trie} {f : Bool} (h : UnfE A t f []) : t = .fin f := by
  cases t with
  | fin g => obtain ⟨_, rfl⟩ := h; rfl
  | edge b c r => obtain ⟨m, es', h1, _⟩ := h; cases h1
theorem UnfE.mem {A : List Sta} : ∀ {t : Trie} {f : Bool} {es : List Ed}, UnfE A t f es → ∀ e ∈ es, ∃ c, 0 ≤ e.2 ∧ Unf A e.2.toNat c ∧ htT c + 1 ≤ htT t
  | .fin _, f, es, h, e, he => by obtain ⟨rfl, _⟩ := h; cases he
  | .edge b c r, f, es, h, e, he => by
    obtain ⟨m, es', rfl, ⟨x, hm, hx, hc⟩, hr⟩ := h
    rcases List.mem_cons.1 he with rfl | he
    · exact ⟨c, hm, ⟨x, hx, hc⟩, Nat.le_max_left _ _⟩
    · obtain ⟨c', h1, h2, h3⟩ := UnfE.mem hr e he
      exact ⟨c', h1, h2, Nat.le_trans h3 (Nat.le_max_right _ _)⟩
theorem Gets.trans {A : List Sta} {a b c : Nat} (h : Gets A a b) (k : Gets A b c) : Gets A a c := by
  induction h with
  | refl => exact k
  | edge hx he h0 _ ih => exact .edge hx he h0 (ih k)
/-- Where the highest way begins. -/
theorem UnfE.high {A : List Sta} : ∀ {t : Trie} {f : Bool} {es : List Ed}, UnfE A t f es → ∀ h, h < htT t → ∃ e ∈ es, ∃ c, 0 ≤ e.2 ∧ Unf A e.2.toNat c ∧ h ≤ htT c ∧ htT c < htT t
  | .fin _, f, es, _, h, hh => by simp [htT] at hh
  | .edge b c r, f, es, hu, h, hh => by
    obtain ⟨m, es', rfl, ⟨x, hm, hx, hc⟩, hr⟩ := hu
    simp only [htT] at hh ⊢
    by_cases h1 : h ≤ htT c
    · exact ⟨(b, m), by simp, c, hm, ⟨x, hx, hc⟩, h1, by omega⟩
    · obtain ⟨e, he, c', h2, h3, h4, h5⟩ := UnfE.high hr h (by omega)
      exact ⟨e, by simp [he], c', h2, h3, h4, by omega⟩
theorem all_heights {A : List Sta} : ∀ (k : Nat) {n : Nat} {t : Trie}, Unf A n t → htT t < k → ∀ h, h ≤ htT t → ∃ j t', Unf A j t' ∧ htT t' = h
  | 0, _, _, _, hk, _, _ => absurd hk (Nat.not_lt_zero _)
  | k + 1, n, t, hu, hk, h, hh => by
    by_cases he : h = htT t
    · exact ⟨n, t, hu, he.symm⟩
    · obtain ⟨x, hx, hx2⟩ := hu
      obtain ⟨e, _, c, _, hc, h1, h2⟩ := hx2.high h (by omega)
      exact all_heights k hc (by omega) h h1
theorem nodup_le : ∀ (n : Nat) (l : List Nat), l.Nodup → (∀ x ∈ l, x < n) → l.length ≤ n
  | 0, l, _, h => by
    cases l with
    | nil => simp
    | cons a l => exact absurd (h a (by simp)) (Nat.not_lt_zero _)
  | n + 1, l, hn, h => by
    by_cases hm : n ∈ l
    · have h1 := nodup_le n (l.erase n) (hn.erase n) fun x hx => by
        have h2 := h x (List.mem_of_mem_erase hx)
        have h3 : x ≠ n := fun e => by
          subst e
          exact (List.Nodup.not_mem_erase hn) hx
        omega
      rw [List.length_erase_of_mem hm] at h1
      omega
    · have h1 := nodup_le n l hn fun x hx => by
        have h2 := h x hx
        have h3 : x ≠ n := fun e => hm (e ▸ hx)
        omega
      omega
/-- No way is longer than there are states. -/
theorem htT_lt {A : List Sta} {n : Nat} {t : Trie} (h : Unf A n t) : htT t < A.length := by
  have h1 := all_heights (htT t + 1) h (Nat.lt_succ_self _)
  have h2 : ∀ k, k ≤ htT t → ∃ j, (∃ t', Unf A j t' ∧ htT t' = k) := fun k hk => by
    obtain ⟨j, t', h3⟩ := h1 k hk
    exact ⟨j, t', h3⟩
  let g : Nat → Nat := fun k => if hk : k ≤ htT t then Classical.choose (h2 k hk) else 0
  have hg : ∀ k, k ≤ htT t → ∃ t', Unf A (g k) t' ∧ htT t' = k := fun k hk => by
    simp only [g, dif_pos hk]
    exact Classical.choose_spec (h2 k hk)
  have hnd : ((List.range (htT t + 1)).map g).Nodup := by
    rw [List.Nodup, List.pairwise_map]
    refine (List.pairwise_lt_range (n := htT t + 1)).imp_of_mem ?_
    intro a b ha hb hab e
    rw [List.mem_range] at ha hb
    obtain ⟨ta, u1, v1⟩ := hg a (by omega)
    obtain ⟨tb, u2, v2⟩ := hg b (by omega)
    rw [e] at u1
    have := u1.uniq u2
    subst this
    omega
  have h3 := nodup_le A.length _ hnd fun x hx => by
    obtain ⟨k, hk, rfl⟩ := List.mem_map.1 hx
    rw [List.mem_range] at hk
    obtain ⟨t', u, _⟩ := hg k (by omega)
    exact u.lt
  simp at h3
  omega
/-- The table's entry of j is what it shall be. -/
def GoodC (A : List Sta) (F : Trie → Int) (cs : List Int) (j : Nat) : Prop := ∃ t, Unf A j t ∧ cs[j]? = some (F t)
/-- What is filled in is right, and so is all that is behind it. -/
structure CInv (A : List Sta) (F : Trie → Int) (z : Int) (cs : List Int) : Prop where
  len : cs.length = A.length
  ok : ∀ i v, cs[i]? = some v → v ≠ z → ∀ j, Gets A i j → GoodC A F cs j
theorem GoodC.val {A : List Sta} {F : Trie → Int} {cs : List Int} {j : Nat} {t : Trie} (h : GoodC A F cs j) (hu : Unf A j t) : cs[j]? = some (F t) := by
  obtain ⟨t', u, e⟩ := h
  rw [hu.uniq u]; exact e
theorem GoodC.set {A : List Sta} {F : Trie → Int} {cs : List Int} {j n : Nat} {t : Trie} (h : GoodC A F cs j) (hn : Unf A n t) (hl : cs.length = A.length) : GoodC A F (cs.set n (F t)) j := by
  have hlt : n < cs.length := by rw [hl]; exact hn.lt
  by_cases he : n = j
  · subst he; exact ⟨t, hn, by simp [hlt]⟩
  · obtain ⟨t', u, e⟩ := h
    exact ⟨t', u, by rw [List.getElem?_set_ne he]; exact e⟩
theorem CInv.set {A : List Sta} {F : Trie → Int} {z : Int} {cs : List Int} {n : Nat} {t : Trie} {x : Sta} (h : CInv A F z cs) (hn : Unf A n t) (hx : A[n]? = some x) (hall : ∀ e ∈ x.edges, ∀ i, Gets A e.2.toNat i → GoodC A F cs i) :
    CInv A F z (cs.set n (F t)) ∧ (∀ j, GoodC A F cs j → GoodC A F (cs.set n (F t)) j) ∧ ∀ j, Gets A n j → GoodC A F (cs.set n (F t)) j := by
  have hlt : n < cs.length := by rw [h.len]; exact hn.lt
  have hm : ∀ j, GoodC A F cs j → GoodC A F (cs.set n (F t)) j := fun j hj => hj.set hn h.len
  have hg : ∀ j, Gets A n j → GoodC A F (cs.set n (F t)) j := fun j hj => by
    cases hj with
    | refl => exact ⟨t, hn, by simp [hlt]⟩
    | edge hx' he h0 hr =>
      rw [hx] at hx'
      cases hx'
      exact hm j (hall _ he j hr)
  refine ⟨⟨by simpa using h.len, fun i v hv hz j hj => ?_⟩, hm, hg⟩
  by_cases he : n = i
  · subst he; exact hg j hj
  · rw [List.getElem?_set_ne he] at hv
    exact hm j (h.ok i v hv hz j hj)
def cntI (t : Trie) : Int := (capN (cntT t) : Nat)
def htI (t : Trie) : Int := (htT t : Nat)
end

section
/-- The n-th word over the edges. -/
def nthE : Trie → Nat → List UInt8
  | .fin _, _ => []
  | .edge b c r, n => if n < cntT c then b :: (if c.final = true then (if n = 0 then [] else nthE c (n - 1)) else nthE c n) else nthE r (n - cntT c)
/-- The n-th word of the tree. -/
def nthT (t : Trie) (n : Nat) : List UInt8 := if t.final = true then (if n = 0 then [] else nthE t (n - 1)) else nthE t n
/-- How many words over the edges. -/
def eN : Trie → Nat
  | .fin _ => 0
  | .edge _ c r => cntT c + eN r
theorem cntT_eN : ∀ t : Trie, cntT t = finN t.final + eN t
  | .fin f => by cases f <;> rfl
  | .edge b c r => by
    simp only [cntT, eN, Trie.final]
    rw [cntT_eN r]; omega
theorem nthE_here {b : UInt8} {c r : Trie} {n : Nat} (h : n < cntT c) : nthE (.edge b c r) n = b :: nthT c n := by
  simp only [nthE, nthT]; rw [if_pos h]
theorem nthE_on {b : UInt8} {c r : Trie} {n : Nat} (h : ¬ n < cntT c) : nthE (.edge b c r) n = nthE r (n - cntT c) := by
  simp only [nthE]; rw [if_neg h]
theorem nthT_done {t : Trie} (h : t.final = true) : nthT t 0 = [] := by unfold nthT; rw [if_pos h, if_pos rfl]
theorem nthT_fin {t : Trie} {n : Nat} (h : t.final = true) (hn : n ≠ 0) : nthT t n = nthE t (n - 1) := by unfold nthT; rw [if_pos h, if_neg hn]
theorem nthT_not {t : Trie} {n : Nat} (h : t.final = false) : nthT t n = nthE t n := by unfold nthT; rw [if_neg (by rw [h]; simp)]
theorem cntT_mem {A : List Sta} : ∀ {t : Trie} {f : Bool} {es : List Ed}, UnfE A t f es → ∀ e ∈ es, ∃ c, Unf A e.2.toNat c ∧ cntT c ≤ cntT t
  | .fin _, f, es, h, e, he => by obtain ⟨rfl, _⟩ := h; cases he
  | .edge b c r, f, es, h, e, he => by
    obtain ⟨m, es', rfl, ⟨x, hm, hx, hc⟩, hr⟩ := h
    rcases List.mem_cons.1 he with rfl | he
    · exact ⟨c, ⟨x, hx, hc⟩, Nat.le_add_right _ _⟩
    · obtain ⟨c', h1, h2⟩ := cntT_mem hr e he
      exact ⟨c', h1, Nat.le_trans h2 (Nat.le_add_left _ _)⟩
theorem capN_small {n : Nat} (h : n ≤ 1099511627776) : capN n = n := by unfold capN; omega
theorem capN_ge {n : Nat} (h : capN n ≤ 1099511627776) : n ≤ 1099511627776 := by unfold capN at h; omega
/-- A table of all the counts. -/
def CntL (A : List Sta) (cs : List Int) : Prop := cs.length = A.length ∧ ∀ i t, Unf A i t → cs[i]? = some (cntI t)
theorem eN_pos {t : Trie} {n : Nat} (h : n < cntT t) (hr : ¬ (t.final = true ∧ n = 0)) : n - finN t.final < eN t ∧ nthT t n = nthE t (n - finN t.final) := by
  have e := cntT_eN t
  cases hf : t.final with
  | true =>
    have h0 : n ≠ 0 := fun h0 => hr ⟨hf, h0⟩
    rw [hf] at e
    have e1 : finN true = 1 := rfl
    rw [e1] at e ⊢
    exact ⟨by omega, nthT_fin hf h0⟩
  | false =>
    rw [hf] at e
    have e1 : finN false = 0 := rfl
    rw [e1] at e ⊢
    exact ⟨by omega, nthT_not hf⟩
theorem eN_nil {A : List Sta} {t : Trie} {f : Bool} {n : Nat} (h : UnfE A t f []) (hn : n < eN t) : False := by
  rw [h.nil] at hn
  exact absurd hn (Nat.not_lt_zero _)
end

section
/-- The tree behind a byte. -/
def stepE : Trie → UInt8 → Option Trie
  | .fin _, _ => none
  | .edge b c r, x => if b = x then some c else stepE r x
/-- How many words lead over lower bytes. -/
def lowE : Trie → UInt8 → Nat
  | .fin _, _ => 0
  | .edge b c r, x => (if b.toNat < x.toNat then cntT c else 0) + lowE r x
/-- Is the word accepted; how many bytes were gone over. -/
def accT : Trie → List UInt8 → Bool × Nat
  | t, [] => (t.final, 0)
  | t, x :: w => match stepE t x with
    | none => (false, 0)
    | some c => ((accT c w).1, (accT c w).2 + 1)
/-- How many words are below; is it one. -/
def rankT : Trie → List UInt8 → Nat × Bool
  | t, [] => (0, t.final)
  | t, x :: w => match stepE t x with
    | none => (finN t.final + lowE t x, false)
    | some c => (finN t.final + lowE t x + (rankT c w).1, (rankT c w).2)
theorem accT_none {t : Trie} {x : UInt8} {w : List UInt8} (h : stepE t x = none) : accT t (x :: w) = (false, 0) := by simp only [accT, h]
theorem accT_some {t c : Trie} {x : UInt8} {w : List UInt8} (h : stepE t x = some c) : accT t (x :: w) = ((accT c w).1, (accT c w).2 + 1) := by simp only [accT, h]
theorem rankT_none {t : Trie} {x : UInt8} {w : List UInt8} (h : stepE t x = none) : rankT t (x :: w) = (finN t.final + lowE t x, false) := by simp only [rankT, h]
theorem rankT_some {t c : Trie} {x : UInt8} {w : List UInt8} (h : stepE t x = some c) : rankT t (x :: w) = (finN t.final + lowE t x + (rankT c w).1, (rankT c w).2) := by simp only [rankT, h]
theorem stepE_here {b x : UInt8} {c r : Trie} (h : b = x) : stepE (.edge b c r) x = some c := by simp only [stepE]; rw [if_pos h]
theorem stepE_on {b x : UInt8} {c r : Trie} (h : b ≠ x) : stepE (.edge b c r) x = stepE r x := by simp only [stepE]; rw [if_neg h]
theorem stepE_low {x : UInt8} : ∀ {t : Trie} {p : Int}, okE False t p → (x.toNat : Int) ≤ p → stepE t x = none
  | .fin _, _, _, _ => rfl
  | .edge b c r, p, h, hp => by
    have h1 := h.1
    rw [stepE_on (fun e => by subst e; omega)]
    exact stepE_low h.2.2.2 (by omega)
theorem stepE_eN {x : UInt8} : ∀ {t c : Trie}, stepE t x = some c → lowE t x + cntT c ≤ eN t
  | .fin _, _, h => by simp [stepE] at h
  | .edge b c r, c', h => by
    by_cases hb : b = x
    · rw [stepE_here hb] at h
      cases h
      subst hb
      simp only [lowE, eN]
      rw [if_neg (Nat.lt_irrefl _)]
      have : ∀ t : Trie, lowE t b ≤ eN t := fun t => by
        induction t with
        | fin => exact Nat.le_refl _
        | edge b' c r _ ih => simp only [lowE, eN]; split <;> omega
      have := this r
      omega
    · rw [stepE_on hb] at h
      have := stepE_eN h
      simp only [lowE, eN]
      split <;> omega
theorem lowE_eN (x : UInt8) (t : Trie) : lowE t x ≤ eN t := by
  induction t with
  | fin => exact Nat.le_refl _
  | edge b' c r _ ih => simp only [lowE, eN]; split <;> omega
theorem stepE_good {x : UInt8} : ∀ {t c : Trie} {p : Int}, okE False t p → stepE t x = some c → Good c
  | .fin _, _, _, _, h => by simp [stepE] at h
  | .edge b c r, c', p, hk, h => by
    by_cases hb : b = x
    · rw [stepE_here hb] at h
      cases h
      exact hk.2.2.1
    · rw [stepE_on hb] at h
      exact stepE_good hk.2.2.2 h
/-- Where a step leads. -/
theorem stepE_unf {A : List Sta} {x : UInt8} : ∀ {t c : Trie} {f : Bool} {es : List Ed}, UnfE A t f es → stepE t x = some c → ∃ (j : Nat) (e : Ed), es[j]? = some e ∧ e.1 = x ∧ (∀ q, q < j → ∀ e' : Ed, es[q]? = some e' → e'.1 ≠ x) ∧ 0 ≤ e.2 ∧ Unf A e.2.toNat c
  | .fin _, _, _, _, _, h => by simp [stepE] at h
  | .edge b c r, c', f, es, hu, h => by
    obtain ⟨m, es', rfl, ⟨y, hm, hy, hc⟩, hr⟩ := hu
    by_cases hb : b = x
    · rw [stepE_here hb] at h
      cases h
      exact ⟨0, _, rfl, hb, fun q hq => absurd hq (Nat.not_lt_zero _), hm, ⟨y, hy, hc⟩⟩
    · rw [stepE_on hb] at h
      obtain ⟨j, e, h1, h2, h3, h4, h5⟩ := stepE_unf hr h
      refine ⟨j + 1, e, by simpa using h1, h2, fun q hq e' he' => ?_, h4, h5⟩
      cases q with
      | zero => simp at he'; subst he'; exact hb
      | succ q => exact h3 q (by omega) e' (by simpa using he')
theorem stepE_miss {A : List Sta} {x : UInt8} : ∀ {t : Trie} {f : Bool} {es : List Ed}, UnfE A t f es → stepE t x = none → ∀ e ∈ es, e.1 ≠ x
  | .fin _, f, es, hu, _, e, he => by obtain ⟨rfl, _⟩ := hu; cases he
  | .edge b c r, f, es, hu, h, e, he => by
    obtain ⟨m, es', rfl, _, hr⟩ := hu
    by_cases hb : b = x
    · rw [stepE_here hb] at h; cases h
    · rw [stepE_on hb] at h
      rcases List.mem_cons.1 he with rfl | he
      · exact hb
      · exact stepE_miss hr h e he
/-- Its bytes rise. -/
theorem rising_edges {A : List Sta} : ∀ {t : Trie} {f : Bool} {es : List Ed} {p : Int}, UnfE A t f es → okE False t p → (∀ e ∈ es, p < e.1.toNat) ∧ ∀ (i j : Nat) (a b : Ed), i < j → es[i]? = some a → es[j]? = some b → a.1.toNat < b.1.toNat
  | .fin _, f, es, p, hu, _ => by obtain ⟨rfl, _⟩ := hu; exact ⟨by simp, fun i j a b _ h => by simp at h⟩
  | .edge c t r, f, es, p, hu, hk => by
    obtain ⟨m, es', rfl, _, hr⟩ := hu
    obtain ⟨h1, h2⟩ := rising_edges hr hk.2.2.2
    have h0 := hk.1
    refine ⟨fun e he => ?_, fun i j a b hij ha hb => ?_⟩
    · rcases List.mem_cons.1 he with rfl | he
      · exact h0
      · have := h1 e he; omega
    · cases j with
      | zero => omega
      | succ j =>
        have hb' : es'[j]? = some b := by simpa using hb
        cases i with
        | zero =>
          simp at ha
          subst ha
          have := h1 b (List.mem_of_getElem? hb')
          show c.toNat < b.1.toNat
          omega
        | succ i => exact h2 i j a b (by omega) (by simpa using ha) hb'
theorem rankT_le : ∀ (w : List UInt8) (t : Trie), (rankT t w).1 ≤ cntT t
  | [], t => Nat.zero_le _
  | x :: w, t => by
    cases h : stepE t x with
    | none =>
      rw [rankT_none h, cntT_eN]
      have := lowE_eN x t
      dsimp only
      omega
    | some c =>
      rw [rankT_some h, cntT_eN]
      have := stepE_eN h
      have := rankT_le w c
      dsimp only
      omega
theorem accT_le : ∀ (w : List UInt8) (t : Trie), (accT t w).2 ≤ w.length
  | [], t => Nat.zero_le _
  | x :: w, t => by
    cases h : stepE t x with
    | none => rw [accT_none h]; exact Nat.zero_le _
    | some c =>
      rw [accT_some h]
      have := accT_le w c
      simp only [List.length_cons]
      omega
end

section
/-- What is left of the text behind a byte; none: the byte's words are below it. -/
def nextF (b : UInt8) : List UInt8 → Option (List UInt8)
  | [] => some []
  | x :: f => if b.toNat < x.toNat then none else if b = x then some f else some []
def headL (t : Trie) (f : List UInt8) : List (List UInt8) := if t.final = true ∧ f = [] then [[]] else []
/-- The words over the edges that are not below f. -/
def lE : Trie → List UInt8 → List (List UInt8)
  | .fin _, _ => []
  | .edge b c r, f => (match nextF b f with
    | none => []
    | some g => (headL c g ++ lE c g).map (b :: ·)) ++ lE r f
/-- The words that are not below f. -/
def wT (t : Trie) (f : List UInt8) : List (List UInt8) := headL t f ++ lE t f
theorem lE_none {b : UInt8} {c r : Trie} {f : List UInt8} (h : nextF b f = none) : lE (.edge b c r) f = lE r f := by simp only [lE, h, List.nil_append]
theorem lE_some {b : UInt8} {c r : Trie} {f g : List UInt8} (h : nextF b f = some g) : lE (.edge b c r) f = (wT c g).map (b :: ·) ++ lE r f := by simp only [lE, h, wT]
theorem nextF_nil (b : UInt8) : nextF b [] = some [] := rfl
theorem nextF_low {b x : UInt8} {f : List UInt8} (h : b.toNat < x.toNat) : nextF b (x :: f) = none := by simp only [nextF]; rw [if_pos h]
theorem nextF_eq {b x : UInt8} {f : List UInt8} (h : b = x) : nextF b (x :: f) = some f := by subst h; simp [nextF]
theorem nextF_high {b x : UInt8} {f : List UInt8} (h : x.toNat < b.toNat) : nextF b (x :: f) = some [] := by
  simp only [nextF]; rw [if_neg (by omega), if_neg (fun e => by subst e; omega)]
theorem headL_yes {t : Trie} (h : t.final = true) : headL t [] = [[]] := by unfold headL; rw [if_pos ⟨h, rfl⟩]
theorem headL_not {t : Trie} {f : List UInt8} (h : ¬ (t.final = true ∧ f = [])) : headL t f = [] := by unfold headL; rw [if_neg h]
/-- Behind a beginning. -/
def pwT (p : List UInt8) (l : List (List UInt8)) : List (List UInt8) := l.map (p ++ ·)
theorem pwT_nil (l : List (List UInt8)) : pwT [] l = l := by simp [pwT]
theorem pwT_app (p : List UInt8) (a b : List (List UInt8)) : pwT p (a ++ b) = pwT p a ++ pwT p b := by simp [pwT]
theorem pwT_cons (p : List UInt8) (b : UInt8) (l : List (List UInt8)) : pwT p (l.map (b :: ·)) = pwT (p ++ [b]) l := by simp [pwT, Function.comp_def]
/-- What was gathered, and what is still to come, cut. -/
theorem cut_full {L A B : List (List UInt8)} {m : Nat} (h : m ≤ (L ++ A).length) : (L ++ (A ++ B)).take m = (L ++ A).take m := by
  rw [← List.append_assoc, List.take_append_of_le_length h]
theorem cut_room {L A : List (List UInt8)} {m : Nat} (h : ((L ++ A).take m).length < m) : (L ++ A).take m = L ++ A := by
  rw [List.length_take] at h
  exact List.take_of_length_le (by omega)
theorem cut_len {L A : List (List UInt8)} {m : Nat} (h : ¬ ((L ++ A).take m).length < m) : m ≤ (L ++ A).length := by
  rw [List.length_take] at h
  omega
end
end Go.Proofs.Ytcbdncjknpdnbaa
