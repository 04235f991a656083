/- Two automata gone through side by side; how many edges the least automaton has; no program. -/
import Derived.Test.YtcbdncjknpdnbaaMinPl
import Derived.Test.YtcbdncjknpdnbaaAut
namespace Go.Proofs.Ytcbdncjknpdnbaa

/-- The pair's states are alike, and where their edges lead is met. -/
def OkP (A B : List Sta) (M : List (Nat × Nat)) (p : Nat × Nat) : Prop :=
  ∃ x y, A[p.1]? = some x ∧ B[p.2]? = some y ∧ x.final = y.final ∧ x.edges.length = y.edges.length ∧ ∀ (i : Nat) (e d : Ed), x.edges[i]? = some e → y.edges[i]? = some d → e.1 = d.1 ∧ (e.2.toNat, d.2.toNat) ∈ M
theorem OkP.mono {A B : List Sta} {M N : List (Nat × Nat)} {p : Nat × Nat} (h : OkP A B M p) (hs : ∀ q ∈ M, q ∈ N) : OkP A B N p := by
  obtain ⟨x, y, h1, h2, h3, h4, h5⟩ := h
  exact ⟨x, y, h1, h2, h3, h4, fun i e d he hd => ⟨(h5 i e d he hd).1, hs _ (h5 i e d he hd).2⟩⟩
/-- Edges side by side lead on alike. -/
theorem same_edges {A B : List Sta} {M : List (Nat × Nat)} (hM : ∀ p ∈ M, OkP A B M p) : ∀ {t : Trie} {f : Bool} {es es' : List Ed}, UnfE A t f es → (∀ e ∈ es', 0 ≤ e.2) → es.length = es'.length →
    (∀ (i : Nat) (e d : Ed), es[i]? = some e → es'[i]? = some d → e.1 = d.1 ∧ (e.2.toNat, d.2.toNat) ∈ M) → (∀ y ∈ B, ∀ e ∈ y.edges, 0 ≤ e.2) → UnfE B t f es'
  | .fin g, f, es, es', h, _, hl, _, _ => by
    obtain ⟨rfl, rfl⟩ := h
    exact ⟨List.eq_nil_of_length_eq_zero hl.symm, rfl⟩
  | .edge b c r, f, es, es', h, h0, hl, hp, hB => by
    obtain ⟨m, e1, rfl, ⟨x, hm, hx, hc⟩, hr⟩ := h
    cases es' with
    | nil => simp at hl
    | cons d es' =>
      obtain ⟨g1, g2⟩ := hp 0 _ _ rfl rfl
      obtain ⟨x', y', q1, q2, q3, q4, q5⟩ := hM _ g2
      simp only at q1 q2
      rw [hx] at q1
      cases q1
      have hk := same_edges hM hc (fun e he => hB y' (List.mem_of_getElem? q2) e he) q4 q5 hB
      rw [q3] at hk
      refine ⟨d.2, es', ?_, ⟨y', h0 d (by simp), q2, hk⟩, same_edges hM hr (fun e he => h0 e (by simp [he])) (by simpa using hl) (fun i e d he hd => hp (i + 1) e d (by simpa using he) (by simpa using hd)) hB⟩
      simp only at g1
      rw [g1]
theorem same_trees {A B : List Sta} {M : List (Nat × Nat)} (hM : ∀ p ∈ M, OkP A B M p) (hB : ∀ y ∈ B, ∀ e ∈ y.edges, 0 ≤ e.2) {i j : Nat} (hm : (i, j) ∈ M) {t : Trie} (ht : Unf A i t) : Unf B j t := by
  obtain ⟨x, hx, hu⟩ := ht
  obtain ⟨x', y', q1, q2, q3, q4, q5⟩ := hM _ hm
  simp only at q1 q2
  rw [hx] at q1
  cases q1
  have := same_edges hM hu (fun e he => hB y' (List.mem_of_getElem? q2) e he) q4 q5 hB
  rw [q3] at this
  exact ⟨y', q2, this⟩
/-- Like trees: like edges. -/
theorem like_pairs {A B : List Sta} : ∀ {t : Trie} {f g : Bool} {es es' : List Ed}, UnfE A t f es → UnfE B t g es' → f = g ∧ es.length = es'.length ∧ ∀ (i : Nat) (e d : Ed), es[i]? = some e → es'[i]? = some d → e.1 = d.1 ∧ ∃ c, Unf A e.2.toNat c ∧ Unf B d.2.toNat c
  | .fin h, f, g, es, es', h1, h2 => by
    obtain ⟨rfl, rfl⟩ := h1
    obtain ⟨rfl, rfl⟩ := h2
    exact ⟨rfl, rfl, fun i e d he => by simp at he⟩
  | .edge b c r, f, g, es, es', h1, h2 => by
    obtain ⟨m, e1, rfl, ⟨x, hm, hx, hc⟩, hr⟩ := h1
    obtain ⟨m', e1', rfl, ⟨x', hm', hx', hc'⟩, hr'⟩ := h2
    obtain ⟨g1, g2, g3⟩ := like_pairs hr hr'
    refine ⟨g1, by simp [g2], fun i e d he hd => ?_⟩
    cases i with
    | zero =>
      simp at he hd
      subst he
      subst hd
      exact ⟨rfl, c, ⟨x, hx, hc⟩, ⟨x', hx', hc'⟩⟩
    | succ i => exact g3 i e d (by simpa using he) (by simpa using hd)

/-- What holds ahead of every round: the pairs met M, those left to be gone to L; up to now the roots' trees s and t may be the same one. -/
structure SmI (A B : List Sta) (s t : Trie) (M L : List (Nat × Nat)) : Prop where
  root : (0, 0) ∈ M
  nodup : M.Nodup
  sub : ∀ p ∈ L, p ∈ M
  tr : ∀ p ∈ M, (∃ u, Unf A p.1 u) ∧ ∃ u, Unf B p.2 u
  ok : ∀ p ∈ M, p ∈ L ∨ OkP A B M p
  eq : s = t → ∀ p ∈ M, ∃ u, Unf A p.1 u ∧ Unf B p.2 u
theorem SmI.start {A B : List Sta} {s t : Trie} (hs : Unf A 0 s) (ht : Unf B 0 t) : SmI A B s t [(0, 0)] [(0, 0)] :=
  ⟨by simp, by simp, fun p h => h, fun p h => by rw [List.mem_singleton] at h; subst h; exact ⟨⟨s, hs⟩, t, ht⟩, fun p h => .inl h, fun e p h => by rw [List.mem_singleton] at h; subst h; subst e; exact ⟨s, hs, ht⟩⟩
theorem unf_nonneg {A : List Sta} (hA : ∀ i, i < A.length → ∃ t, Unf A i t) : ∀ y ∈ A, ∀ e ∈ y.edges, 0 ≤ e.2 := by
  intro y hy e he
  obtain ⟨i, hi, rfl⟩ := List.getElem_of_mem hy
  obtain ⟨t, x, hx, hu⟩ := hA i hi
  rw [List.getElem?_eq_getElem hi] at hx
  cases hx
  obtain ⟨c, h0, _⟩ := hu.mem e he
  exact h0
/-- Nothing is left: the same words. -/
theorem SmI.done {A B : List Sta} {s t : Trie} {M : List (Nat × Nat)} (h : SmI A B s t M []) (hs : Unf A 0 s) (ht : Unf B 0 t) (hB : ∀ y ∈ B, ∀ e ∈ y.edges, 0 ≤ e.2) : s = t :=
  (same_trees (fun p hp => (h.ok p hp).resolve_left (by simp)) hB h.root hs).uniq ht
/-- Where the roots' trees are the same, met states are alike. -/
theorem SmI.alike {A B : List Sta} {s t : Trie} {M L : List (Nat × Nat)} (h : SmI A B s t M L) {p : Nat × Nat} (hp : p ∈ M) {x y : Sta} (hx : A[p.1]? = some x) (hy : B[p.2]? = some y) (e : s = t) :
    x.final = y.final ∧ x.edges.length = y.edges.length ∧ ∀ (i : Nat) (e d : Ed), x.edges[i]? = some e → y.edges[i]? = some d → e.1 = d.1 ∧ ∃ c, Unf A e.2.toNat c ∧ Unf B d.2.toNat c := by
  obtain ⟨u, ⟨x', hx', h1⟩, y', hy', h2⟩ := h.eq e p hp
  rw [hx] at hx'
  rw [hy] at hy'
  cases hx'
  cases hy'
  exact like_pairs h1 h2
/-- What holds within a round: the pair q taken, its first i edges gone over. -/
structure SmJ (A B : List Sta) (s t : Trie) (M L : List (Nat × Nat)) (x y : Sta) (i : Nat) : Prop where
  root : (0, 0) ∈ M
  nodup : M.Nodup
  sub : ∀ p ∈ L, p ∈ M
  tr : ∀ p ∈ M, (∃ u, Unf A p.1 u) ∧ ∃ u, Unf B p.2 u
  ok : ∀ p ∈ M, p ∈ L ∨ OkP A B M p ∨ A[p.1]? = some x ∧ B[p.2]? = some y
  eq : s = t → ∀ p ∈ M, ∃ u, Unf A p.1 u ∧ Unf B p.2 u
  part : ∀ j, j < i → ∀ (e d : Ed), x.edges[j]? = some e → y.edges[j]? = some d → e.1 = d.1 ∧ (e.2.toNat, d.2.toNat) ∈ M
theorem SmI.take {A B : List Sta} {s t : Trie} {M L : List (Nat × Nat)} {p : Nat × Nat} (h : SmI A B s t M (L ++ [p])) {x y : Sta} (hx : A[p.1]? = some x) (hy : B[p.2]? = some y) : SmJ A B s t M L x y 0 :=
  ⟨h.root, h.nodup, fun q hq => h.sub q (by simp [hq]), h.tr, fun q hq => by
    rcases h.ok q hq with h1 | h1
    · rcases List.mem_append.1 h1 with h1 | h1
      · exact .inl h1
      · rw [List.mem_singleton] at h1; subst h1; exact .inr (.inr ⟨hx, hy⟩)
    · exact .inr (.inl h1), h.eq, fun j hj => absurd hj (Nat.not_lt_zero _)⟩
theorem SmJ.step {A B : List Sta} {s t : Trie} {M L : List (Nat × Nat)} {x y : Sta} {i : Nat} (h : SmJ A B s t M L x y i) {e d : Ed} (he : x.edges[i]? = some e) (hd : y.edges[i]? = some d) (hb : e.1 = d.1) (hm : (e.2.toNat, d.2.toNat) ∈ M) : SmJ A B s t M L x y (i + 1) :=
  ⟨h.root, h.nodup, h.sub, h.tr, h.ok, h.eq, fun j hj e' d' he' hd' => by
    by_cases hji : j = i
    · subst hji
      rw [he] at he'
      rw [hd] at hd'
      cases he'
      cases hd'
      exact ⟨hb, hm⟩
    · exact h.part j (by omega) e' d' he' hd'⟩
/-- Some pair is the pair that is gone over. -/
theorem SmJ.new {A B : List Sta} {s t : Trie} {M L : List (Nat × Nat)} {x y : Sta} {i : Nat} (h : SmJ A B s t M L x y i) {q : Nat × Nat} (hq : q ∉ M) (hA : ∃ u, Unf A q.1 u) (hB : ∃ u, Unf B q.2 u) (he : s = t → ∃ u, Unf A q.1 u ∧ Unf B q.2 u) : SmJ A B s t (M ++ [q]) (L ++ [q]) x y i := by
  refine ⟨by simp [h.root], List.nodup_append.2 ⟨h.nodup, by simp, fun a ha b hb e => by rw [List.mem_singleton] at hb; subst hb; subst e; exact hq ha⟩, fun p hp => ?_, fun p hp => ?_, fun p hp => ?_, fun e p hp => ?_, fun j hj e d he hd => ?_⟩
  · rcases List.mem_append.1 hp with hp | hp
    · exact List.mem_append_left _ (h.sub p hp)
    · exact List.mem_append_right _ hp
  · rcases List.mem_append.1 hp with hp | hp
    · exact h.tr p hp
    · rw [List.mem_singleton] at hp; subst hp; exact ⟨hA, hB⟩
  · rcases List.mem_append.1 hp with hp | hp
    · rcases h.ok p hp with h1 | h1 | h1
      · exact .inl (List.mem_append_left _ h1)
      · exact .inr (.inl (h1.mono fun q hq => List.mem_append_left _ hq))
      · exact .inr (.inr h1)
    · exact .inl (List.mem_append_right _ hp)
  · rcases List.mem_append.1 hp with hp | hp
    · exact h.eq e p hp
    · rw [List.mem_singleton] at hp; subst hp; exact he e
  · have := h.part j hj e d he hd
    exact ⟨this.1, List.mem_append_left _ this.2⟩
theorem SmJ.done {A B : List Sta} {s t : Trie} {M L : List (Nat × Nat)} {x y : Sta} (h : SmJ A B s t M L x y x.edges.length) (hf : x.final = y.final) (hl : x.edges.length = y.edges.length) : SmI A B s t M L :=
  ⟨h.root, h.nodup, h.sub, h.tr, fun p hp => by
    rcases h.ok p hp with h1 | h1 | ⟨h1, h2⟩
    · exact .inl h1
    · exact .inr h1
    · exact .inr ⟨x, y, h1, h2, hf, hl, fun i e d he hd => h.part i (List.getElem?_eq_some_iff.1 he).1 e d he hd⟩, h.eq⟩
/-- No more pairs are met than there are. -/
theorem pairs_le {M : List (Nat × Nat)} {n m : Nat} (hn : M.Nodup) (h : ∀ p ∈ M, p.1 < n ∧ p.2 < m) : M.length ≤ n * m := by
  have h1 : (M.map fun p => p.1 * m + p.2).Nodup := by
    rw [List.Nodup, List.pairwise_map]
    refine List.Pairwise.imp_of_mem ?_ hn
    intro a b ha hb hab e
    obtain ⟨a1, a2⟩ := a
    obtain ⟨b1, b2⟩ := b
    have ha' := h _ ha
    have hb' := h _ hb
    simp only at e ha' hb'
    have h2 : a2 = b2 := by
      have := congrArg (· % m) e
      simp only [Nat.mul_add_mod_of_lt ha'.2, Nat.mul_add_mod_of_lt hb'.2] at this
      exact this
    subst h2
    have h3 : a1 * m = b1 * m := by omega
    exact hab (by rw [Nat.eq_of_mul_eq_mul_right (by omega) h3])
  have h2 := nodup_le (n * m) _ h1 fun v hv => by
    obtain ⟨p, hp, rfl⟩ := List.mem_map.1 hv
    obtain ⟨g1, g2⟩ := h p hp
    calc p.1 * m + p.2 < p.1 * m + m := by omega
      _ = (p.1 + 1) * m := by rw [Nat.add_mul, Nat.one_mul]
      _ ≤ n * m := Nat.mul_le_mul_right _ (by omega)
  simpa using h2
theorem SmI.le {A B : List Sta} {s t : Trie} {M L : List (Nat × Nat)} (h : SmI A B s t M L) : M.length ≤ A.length * B.length :=
  pairs_le h.nodup fun p hp => ⟨(h.tr p hp).1.choose_spec.lt, (h.tr p hp).2.choose_spec.lt⟩
theorem SmJ.le {A B : List Sta} {s t : Trie} {M L : List (Nat × Nat)} {x y : Sta} {i : Nat} (h : SmJ A B s t M L x y i) : M.length ≤ A.length * B.length :=
  pairs_le h.nodup fun p hp => ⟨(h.tr p hp).1.choose_spec.lt, (h.tr p hp).2.choose_spec.lt⟩

/-! ### How many edges the least automaton has -/

theorem kids_len {A : List Sta} : ∀ {t : Trie} {f : Bool} {es : List Ed}, UnfE A t f es → es.length = (kids t).length
  | .fin _, f, es, h => by obtain ⟨rfl, _⟩ := h; rfl
  | .edge b c r, f, es, h => by
    obtain ⟨m, es', rfl, _, hr⟩ := h
    simp [kids, kids_len hr]
theorem edgesN_pick {A : List Sta} : ∀ {F : List Nat}, F.Nodup → (∀ n ∈ F, n < A.length) → (F.map fun n => (A.getD n default).edges.length).sum ≤ edgesN A := by
  induction A with
  | nil =>
    intro F _ h
    cases F with
    | nil => simp
    | cons a F => exact absurd (h a (by simp)) (by simp)
  | cons a A ih =>
    intro F hn h
    -- the numbers above 0, each less one
    have key : ∀ F : List Nat, F.Nodup → (∀ n ∈ F, n < (a :: A).length) → ∃ G : List Nat, G.Nodup ∧ (∀ n ∈ G, n + 1 ∈ F) ∧ (F.map fun n => ((a :: A).getD n default).edges.length).sum ≤ (if 0 ∈ F then a.edges.length else 0) + (G.map fun n => (A.getD n default).edges.length).sum := by
      intro F
      induction F with
      | nil => intro _ _; exact ⟨[], List.nodup_nil, by simp, by simp⟩
      | cons b F ihF =>
        intro hn h
        obtain ⟨G, g1, g2, g3⟩ := ihF (List.nodup_cons.1 hn).2 fun n hm => h n (by simp [hm])
        cases b with
        | zero =>
          have h0 : 0 ∉ F := (List.nodup_cons.1 hn).1
          rw [if_neg h0] at g3
          refine ⟨G, g1, fun n hm => by simp [g2 n hm], ?_⟩
          rw [if_pos (by simp)]
          simp only [List.map_cons, List.sum_cons, List.getD_cons_zero]
          omega
        | succ b =>
          refine ⟨b :: G, List.nodup_cons.2 ⟨fun hm => (List.nodup_cons.1 hn).1 (g2 b hm), g1⟩, fun n hm => ?_, ?_⟩
          · rcases List.mem_cons.1 hm with rfl | hm
            · simp
            · simp [g2 n hm]
          · have e0 : (0 ∈ (b + 1) :: F) ↔ 0 ∈ F := by simp
            simp only [e0]
            simp only [List.map_cons, List.sum_cons, List.getD_cons_succ] at g3 ⊢
            omega
    obtain ⟨G, g1, g2, g3⟩ := key F hn h
    have h2 := ih g1 fun n hm => by have := h _ (g2 n hm); simp at this; omega
    have h3 : edgesN (a :: A) = a.edges.length + edgesN A := by simp [edgesN]
    rw [h3]
    split at g3 <;> omega
theorem minT_edges {A : List Sta} {n : Nat} {t : Trie} (h : Unf A n t) : edgesN (minT t) ≤ edgesN A := by
  obtain ⟨h1, h2, h3⟩ := minT_tells t
  have hreach : ∀ s ∈ (layE t [t]).1, ∃ m, Unf A m s := by
    obtain ⟨x, hx, hu⟩ := h
    refine layE_sub [t] hu fun s hs => ?_
    rw [List.mem_singleton] at hs
    subst hs
    exact ⟨n, x, hx, hu⟩
  have hsum : edgesN (minT t) = ((layE t [t]).1.map fun s => (kids s).length).sum := by
    unfold edgesN
    congr 1
    refine List.ext_getElem? fun i => ?_
    rw [List.getElem?_map, List.getElem?_map]
    by_cases hi : i < (layE t [t]).1.length
    · obtain ⟨es, a1, a2⟩ := h1.2 i _ (List.getElem?_eq_getElem hi)
      rw [a1, List.getElem?_eq_getElem hi]
      simp only [Option.map_some, Option.some.injEq]
      exact kids_len (h1.edges a2)
    · rw [List.getElem?_eq_none (by rw [h1.1]; omega), List.getElem?_eq_none (by omega)]; rfl
  have hF : ∀ l : List Trie, l.Nodup → (∀ s ∈ l, ∃ m, Unf A m s) → ∃ F : List Nat, F.Nodup ∧ (∀ n ∈ F, n < A.length) ∧ (∀ n ∈ F, ∃ s ∈ l, Unf A n s) ∧ (F.map fun n => (A.getD n default).edges.length).sum = (l.map fun s => (kids s).length).sum := by
    intro l
    induction l with
    | nil => intro _ _; exact ⟨[], List.nodup_nil, by simp, by simp, rfl⟩
    | cons a l ih =>
      intro k1 k2
      obtain ⟨F, f1, f2, f3, f4⟩ := ih (List.nodup_cons.1 k1).2 fun s hs => k2 s (List.mem_cons_of_mem _ hs)
      obtain ⟨m, hm⟩ := k2 a (List.mem_cons_self ..)
      refine ⟨m :: F, List.nodup_cons.2 ⟨fun hmF => ?_, f1⟩, fun n hn => ?_, fun n hn => ?_, ?_⟩
      · obtain ⟨s, hs, hu⟩ := f3 m hmF
        obtain rfl := hm.uniq hu
        exact (List.nodup_cons.1 k1).1 hs
      · rcases List.mem_cons.1 hn with rfl | hn
        · exact hm.lt
        · exact f2 n hn
      · rcases List.mem_cons.1 hn with rfl | hn
        · exact ⟨a, List.mem_cons_self .., hm⟩
        · obtain ⟨s, hs, hu⟩ := f3 n hn
          exact ⟨s, List.mem_cons_of_mem _ hs, hu⟩
      · obtain ⟨x, hx, hu⟩ := hm
        simp only [List.map_cons, List.sum_cons]
        rw [f4, List.getD_eq_getElem?_getD, hx]
        have := kids_len hu
        simp only [Option.getD_some]
        omega
  obtain ⟨F, f1, f2, _, f4⟩ := hF _ h3 hreach
  rw [hsum, ← f4]
  exact edgesN_pick f1 f2
end Go.Proofs.Ytcbdncjknpdnbaa
