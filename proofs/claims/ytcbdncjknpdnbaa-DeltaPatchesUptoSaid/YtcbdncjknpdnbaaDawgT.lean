/- What the builder of automata makes of words: the least automaton of their tree; no program. -/
import Derived.Test.YtcbdncjknpdnbaaDawgP
import Derived.Test.YtcbdncjknpdnbaaMinPl
namespace Go.Proofs.Ytcbdncjknpdnbaa

/-! ### Words put into a tree, each behind the last one's way -/

def newT : List UInt8 → Trie
  | [] => .fin true
  | c :: w => .edge c (newT w) (.fin false)
def snocT : Trie → UInt8 → Trie → Trie
  | .fin f, c, t => .edge c t (.fin f)
  | .edge b d r, c, t => .edge b d (snocT r c t)
def markT : Trie → Trie
  | .fin _ => .fin true
  | .edge b d r => .edge b d (markT r)
def addW (B : Trie) : List UInt8 → Trie
  | [] => markT B
  | c :: r => snocT B c (newT r)
/-- The word w put in. -/
def insW : Trie → List UInt8 → Trie
  | .fin f, w => addW (.fin f) w
  | .edge b c (.fin f), w => match w with
    | [] => .edge b c (.fin true)
    | x :: w => if b = x then .edge b (insW c w) (.fin f) else .edge b c (.edge x (newT w) (.fin f))
  | .edge b c (.edge b' c' r'), w => .edge b c (insW (.edge b' c' r') w)
/-- The tree of rising words. -/
def setT (L : List (List UInt8)) : Trie := L.foldl insW (.fin false)

theorem insW_snoc_nil : ∀ (R : Trie) (c : UInt8) (X : Trie), insW (snocT R c X) [] = markT (snocT R c X)
  | .fin f, c, X => rfl
  | .edge b d (.fin f), c, X => rfl
  | .edge b d (.edge b' d' r'), c, X => by
    have h := insW_snoc_nil (.edge b' d' r') c X
    simp only [snocT, insW, markT] at h ⊢
    rw [h]
theorem insW_snoc_eq : ∀ (R : Trie) (c : UInt8) (X : Trie) (w : List UInt8), insW (snocT R c X) (c :: w) = snocT R c (insW X w)
  | .fin f, c, X, w => by simp [snocT, insW]
  | .edge b d (.fin f), c, X, w => by simp [snocT, insW]
  | .edge b d (.edge b' d' r'), c, X, w => by
    have h := insW_snoc_eq (.edge b' d' r') c X w
    simp only [snocT, insW] at h ⊢
    rw [h]
theorem insW_snoc_ne {c x : UInt8} (hx : c ≠ x) : ∀ (R : Trie) (X : Trie) (w : List UInt8), insW (snocT R c X) (x :: w) = snocT (snocT R c X) x (newT w)
  | .fin f, X, w => by simp only [snocT, insW]; rw [if_neg hx]
  | .edge b d (.fin f), X, w => by simp only [snocT, insW]; rw [if_neg hx]
  | .edge b d (.edge b' d' r'), X, w => by
    have h := insW_snoc_ne hx (.edge b' d' r') X w
    simp only [snocT, insW] at h ⊢
    rw [h]
/-- A tree by the way to its last word: ahead of each step what lies before it. -/
def plug : List (Trie × UInt8) → Trie → Trie
  | [], B => B
  | (R, c) :: fs, B => snocT R c (plug fs B)
theorem plug_app (fs gs : List (Trie × UInt8)) (B : Trie) : plug (fs ++ gs) B = plug fs (plug gs B) := by
  induction fs with
  | nil => rfl
  | cons p fs ih => obtain ⟨R, c⟩ := p; simp only [List.cons_append, plug, ih]
theorem insW_plug : ∀ (fs : List (Trie × UInt8)) (f : Bool) (w : List UInt8), insW (plug fs (.fin f)) w = plug (fs.take (commonL w (fs.map (·.2)))) (addW (plug (fs.drop (commonL w (fs.map (·.2)))) (.fin f)) (w.drop (commonL w (fs.map (·.2)))))
  | [], f, w => by
    have : commonL w ([] : List UInt8) = 0 := by cases w <;> rfl
    simp [plug, insW, this]
  | (R, c) :: fs, f, [] => by
    simp only [commonL, plug, List.take_zero, List.drop_zero, addW]
    exact insW_snoc_nil _ _ _
  | (R, c) :: fs, f, x :: w => by
    simp only [List.map_cons, commonL]
    by_cases h : x = c
    · subst h
      rw [if_pos rfl, List.take_succ_cons, List.drop_succ_cons, List.drop_succ_cons]
      simp only [plug]
      rw [insW_snoc_eq, insW_plug fs f w]
    · rw [if_neg h]
      simp only [List.take_zero, List.drop_zero, plug, addW]
      exact insW_snoc_ne (fun e => h e.symm) _ _ _

/-! ### The nodes -/

/-- The edges lead to frozen nodes and tell the tree. -/
def EdF (kn : List (NdKey × Nat)) (S : List Trie) : Trie → Bool → List (UInt8 × Nat) → Prop
  | .fin g, f, es => es = [] ∧ f = g
  | .edge b c r, f, es => ∃ (n : Nat) (es' : List (UInt8 × Nat)) (k : NdKey), es = (b, n) :: es' ∧ c ∈ S ∧ kn[ixT S c]? = some (k, n) ∧ EdF kn S r f es'
theorem EdF.ext {kn kn' : List (NdKey × Nat)} {S S' : List Trie} (hk : kn <+: kn') (hS : S <+: S') : ∀ {t : Trie} {f : Bool} {es : List (UInt8 × Nat)}, EdF kn S t f es → EdF kn' S' t f es
  | .fin _, _, _, h => h
  | .edge b c r, f, es, h => by
    obtain ⟨n, es', k, h1, h2, h3, h4⟩ := h
    obtain ⟨U, rfl⟩ := hS
    exact ⟨n, es', k, h1, List.mem_append_left _ h2, by rw [ixT_ext h2]; exact get_prefix hk h3, h4.ext hk ⟨U, rfl⟩⟩
theorem EdF.kids {kn : List (NdKey × Nat)} {S : List Trie} : ∀ {t : Trie} {f : Bool} {es : List (UInt8 × Nat)}, EdF kn S t f es → ∀ c ∈ kids t, c ∈ S
  | .fin _, _, _, _, c, hc => by simp [Go.Proofs.Ytcbdncjknpdnbaa.kids] at hc
  | .edge b d r, f, es, h, c, hc => by
    obtain ⟨n, es', k, h1, h2, h3, h4⟩ := h
    simp only [Go.Proofs.Ytcbdncjknpdnbaa.kids, List.mem_cons] at hc
    rcases hc with rfl | hc
    · exact h2
    · exact h4.kids c hc
theorem EdF.final {kn : List (NdKey × Nat)} {S : List Trie} : ∀ {t : Trie} {f : Bool} {es : List (UInt8 × Nat)}, EdF kn S t f es → t.final = f
  | .fin _, _, _, h => h.2.symm
  | .edge b d r, f, es, h => by
    obtain ⟨n, es', k, h1, h2, h3, h4⟩ := h
    exact h4.final
theorem EdF.snoc {kn : List (NdKey × Nat)} {S : List Trie} {c : Trie} {x : UInt8} {n : Nat} {k : NdKey} (hc : c ∈ S) (hn : kn[ixT S c]? = some (k, n)) : ∀ {t : Trie} {f : Bool} {es : List (UInt8 × Nat)}, EdF kn S t f es → EdF kn S (snocT t x c) f (es ++ [(x, n)])
  | .fin g, f, es, h => by
    obtain ⟨rfl, rfl⟩ := h
    exact ⟨n, [], k, rfl, hc, hn, rfl, rfl⟩
  | .edge b d r, f, es, h => by
    obtain ⟨m, es', k', rfl, h2, h3, h4⟩ := h
    exact ⟨m, es' ++ [(x, n)], k', rfl, h2, h3, h4.snoc hc hn⟩
theorem EdF.mark {kn : List (NdKey × Nat)} {S : List Trie} : ∀ {t : Trie} {f : Bool} {es : List (UInt8 × Nat)}, EdF kn S t f es → EdF kn S (markT t) true es
  | .fin g, f, es, h => ⟨h.1, rfl⟩
  | .edge b d r, f, es, h => by
    obtain ⟨m, es', k', h1, h2, h3, h4⟩ := h
    exact ⟨m, es', k', h1, h2, h3, h4.mark⟩

/-- The frozen nodes: the trees S, one a node. -/
structure FrI (s : Fz) (S : List Trie) : Prop where
  len : S.length = s.known.length
  nodup : S.Nodup
  closed : ClosedT S
  kn : ∀ (j : Nat) (k : NdKey) (i : Nat), s.known[j]? = some (k, i) → i < s.N.length ∧ (nodeAt s.N i).id = j + 1 ∧ ∃ t, S[j]? = some t ∧ EdF s.known S t (nodeAt s.N i).final (nodeAt s.N i).edges ∧ k = (t.final, sgE (clsT S) t)
theorem FrI.key {s : Fz} {S : List Trie} (h : FrI s S) (hl : s.known.length < 18446744073709551616) : ∀ {t : Trie} {f : Bool} {es : List (UInt8 × Nat)}, EdF s.known S t f es → (es.flatMap fun e => e.1 :: uintK 10 (nodeAt s.N e.2).id) = sgE (clsT S) t
  | .fin _, f, es, k => by rw [k.1]; rfl
  | .edge b c r, f, es, k => by
    obtain ⟨n, es', q, rfl, h2, h3, h4⟩ := k
    obtain ⟨g1, g2, _⟩ := h.kn _ _ _ h3
    have h5 : ixT S c < s.known.length := (List.getElem?_eq_some_iff.1 h3).1
    rw [List.flatMap_cons, FrI.key h hl h4]
    simp only [sgE]
    rw [g2, uintK_64 (by omega)]
    rfl
theorem lookK_of {M : List (NdKey × Nat)} {k : NdKey} {o : Nat} (h : (k, o) ∈ M) : ∃ o', lookK M k = some o' := by
  cases hl : lookK M k with
  | some o' => exact ⟨o', rfl⟩
  | none => exact absurd rfl (lookK_none hl _ h)
/-- The path's nodes, up to the last one: an edge more leads to the next node; all else is frozen. -/
def SpC (kn : List (NdKey × Nat)) (S : List Trie) (N : List Nd) (path : List Nat) (fs : List (Trie × UInt8)) : Prop :=
  ∀ (i : Nat) (R : Trie) (c : UInt8), fs[i]? = some (R, c) → ∃ p q es, path[i]? = some p ∧ path[i + 1]? = some q ∧ (nodeAt N p).edges = es ++ [(c, q)] ∧ EdF kn S R (nodeAt N p).final es
theorem SpC.ext {kn kn' : List (NdKey × Nat)} {S S' : List Trie} {N : List Nd} {path : List Nat} {fs : List (Trie × UInt8)} (h : SpC kn S N path fs) (hk : kn <+: kn') (hS : S <+: S') : SpC kn' S' N path fs := by
  intro i R c hi
  obtain ⟨p, q, es, h1, h2, h3, h4⟩ := h i R c hi
  exact ⟨p, q, es, h1, h2, h3, h4.ext hk hS⟩
/-- The state of the builder, its path down to the last node x, that tells B. -/
structure PtI (s : Fz) (S : List Trie) (path : List Nat) (fs : List (Trie × UInt8)) (B : Trie) : Prop where
  fr : FrI s S
  len : path.length = fs.length + 1
  sp : SpC s.known S s.N path fs
  base : ∃ x, path[fs.length]? = some x ∧ EdF s.known S B (nodeAt s.N x).final (nodeAt s.N x).edges
  nodup : path.Nodup
  lt : ∀ p ∈ path, p < s.N.length
  kn : ∀ k ∈ s.known, k.2 ∉ path

theorem FrI.set {s : Fz} {S : List Trie} (h : FrI s S) {x : Nat} (hx : ∀ k ∈ s.known, k.2 ≠ x) (nd : Nd) : FrI ⟨s.N.set x nd, s.known⟩ S := by
  refine ⟨h.len, h.nodup, h.closed, fun j k i hj => ?_⟩
  obtain ⟨h1, h2, h3⟩ := h.kn j k i hj
  have hne : x ≠ i := fun e => hx _ (List.mem_of_getElem? hj) e.symm
  refine ⟨by simpa using h1, ?_, ?_⟩
  · show (nodeAt (s.N.set x nd) i).id = j + 1
    rw [nodeAt_set_other hne]; exact h2
  · show ∃ t, S[j]? = some t ∧ EdF s.known S t (nodeAt (s.N.set x nd) i).final (nodeAt (s.N.set x nd) i).edges ∧ _
    rw [nodeAt_set_other hne]; exact h3
/-- A node whose edges lead to frozen nodes is frozen. -/
theorem freezeP_tree {s : Fz} {S : List Trie} (h : FrI s S) (hl : s.known.length < 18446744073709551616) {x : Nat} (hx : x < s.N.length) (hk : ∀ k ∈ s.known, k.2 ≠ x) {t : Trie} (ht : EdF s.known S t (nodeAt s.N x).final (nodeAt s.N x).edges) :
    ∃ S' k, FrI (freezeP s x).1 S' ∧ S <+: S' ∧ s.known <+: (freezeP s x).1.known ∧ t ∈ S' ∧ (freezeP s x).1.known[ixT S' t]? = some (k, (freezeP s x).2) ∧ (∀ i, i ≠ x → nodeAt (freezeP s x).1.N i = nodeAt s.N i) ∧ (freezeP s x).1.N.length = s.N.length ∧ (∀ k ∈ (freezeP s x).1.known, k ∈ s.known ∨ k.2 = x) := by
  have hkey : keyNd s.N (nodeAt s.N x) = (t.final, sgE (clsT S) t) := by
    unfold keyNd
    rw [h.key hl ht, ht.final]
  have hS64 : S.length < 18446744073709551616 := by rw [h.len]; exact hl
  unfold freezeP
  rw [hkey]
  cases hlk : lookK s.known (t.final, sgE (clsT S) t) with
  | some o =>
    obtain ⟨j, hj⟩ := List.getElem?_of_mem (lookK_some hlk)
    obtain ⟨g1, g2, t', g3, g4, g5⟩ := h.kn j _ _ hj
    have htt : t = t' := by
      have e : keyT S t = keyT S t' := by
        unfold keyT
        simp only [Prod.mk.injEq] at g5
        rw [g5.1, g5.2]
      exact keyT_inj hS64 ht.kids g4.kids e
    subst htt
    have hix := ixT_of h.nodup g3
    exact ⟨S, _, h, List.prefix_rfl, List.prefix_rfl, List.mem_of_getElem? g3, by rw [hix]; exact hj, fun _ _ => rfl, rfl, fun k hk => .inl hk⟩
  | none =>
    have hnS : t ∉ S := fun hm => by
      have h1 := ixT_get hm
      have h2 : ixT S t < s.known.length := by rw [← h.len]; exact (List.getElem?_eq_some_iff.1 h1).1
      obtain ⟨g1, g2, t', g3, g4, g5⟩ := h.kn (ixT S t) s.known[ixT S t].1 s.known[ixT S t].2 (List.getElem?_eq_getElem h2)
      rw [h1] at g3
      cases g3
      exact lookK_none hlk _ (List.getElem_mem h2) g5
    dsimp only
    have hpS : S <+: S ++ [t] := ⟨[t], rfl⟩
    have hpk : s.known <+: s.known ++ [((t.final, sgE (clsT S) t), x)] := ⟨_, rfl⟩
    have hixn : ixT (S ++ [t]) t = S.length := by
      have := ixT_of (Ts := S ++ [t]) (List.nodup_append.2 ⟨h.nodup, by simp, fun a ha b hb e => by rw [List.mem_singleton] at hb; subst hb; subst e; exact hnS ha⟩) (k := S.length) (t := t) (by simp)
      exact this
    refine ⟨S ++ [t], (t.final, sgE (clsT S) t), ⟨by simp [h.len], List.nodup_append.2 ⟨h.nodup, by simp, fun a ha b hb e => by rw [List.mem_singleton] at hb; subst hb; subst e; exact hnS ha⟩, fun u hu c hc => ?_, fun j k i hj => ?_⟩, hpS, hpk, by simp, by rw [hixn, h.len]; simp, fun i hi => nodeAt_set_other (fun e => hi e.symm), by simp, fun k hk => ?_⟩
    · rcases List.mem_append.1 hu with hu | hu
      · exact List.mem_append_left _ (h.closed u hu c hc)
      · rw [List.mem_singleton] at hu; subst hu; exact List.mem_append_left _ (ht.kids c hc)
    · by_cases hjl : j < s.known.length
      · rw [List.getElem?_append_left hjl] at hj
        obtain ⟨g1, g2, t', g3, g4, g5⟩ := h.kn j k i hj
        have hne : x ≠ i := fun e => hk _ (List.mem_of_getElem? hj) e.symm
        refine ⟨by simpa using g1, by rw [nodeAt_set_other hne]; exact g2, t', get_prefix hpS g3, by rw [nodeAt_set_other hne]; exact g4.ext hpk hpS, ?_⟩
        rw [g5, sgE_congr (cl := clsT S) (cl' := clsT (S ++ [t])) fun c hc => (clsT_ext (g4.kids c hc)).symm]
      · have hje : j = s.known.length := by
          have := (List.getElem?_eq_some_iff.1 hj).1
          simp at this
          omega
        subst hje
        rw [List.getElem?_append_right (Nat.le_refl _), Nat.sub_self] at hj
        simp only [List.getElem?_cons_zero, Option.some.injEq, Prod.mk.injEq] at hj
        obtain ⟨rfl, rfl⟩ := hj
        refine ⟨by simpa using hx, by rw [nodeAt_set_same hx], t, by rw [← h.len]; simp, by rw [nodeAt_set_same hx]; exact ht.ext hpk hpS, ?_⟩
        rw [sgE_congr (cl := clsT S) (cl' := clsT (S ++ [t])) fun c hc => (clsT_ext (ht.kids c hc)).symm]
    · rcases List.mem_append.1 hk with hk | hk
      · exact .inl hk
      · rw [List.mem_singleton] at hk; subst hk; exact .inr rfl

/-- The last node of the path is frozen; the one above it leads there. -/
theorem PtI.up {s : Fz} {S : List Trie} {path : List Nat} {fs : List (Trie × UInt8)} {R : Trie} {c : UInt8} {B : Trie} (h : PtI s S path (fs ++ [(R, c)]) B) (hl : s.known.length < 18446744073709551616) :
    ∃ S', PtI ⟨setLast (freezeP s (path.getD (fs.length + 1) 0)).1.N (path.getD fs.length 0) (freezeP s (path.getD (fs.length + 1) 0)).2, (freezeP s (path.getD (fs.length + 1) 0)).1.known⟩ S' (path.take (fs.length + 1)) fs (snocT R c B) := by
  have hlen := h.len
  rw [List.length_append, List.length_singleton] at hlen
  obtain ⟨x, hx, hB⟩ := h.base
  rw [List.length_append, List.length_singleton] at hx
  obtain ⟨p, q, es, h1, h2, h3, h4⟩ := h.sp fs.length R c (by simp)
  rw [hx] at h2
  cases h2
  have ex : path.getD (fs.length + 1) 0 = x := by rw [List.getD_eq_getElem?_getD, hx]; rfl
  have ep : path.getD fs.length 0 = p := by rw [List.getD_eq_getElem?_getD, h1]; rfl
  rw [ex, ep]
  have hxl := h.lt x (List.mem_of_getElem? hx)
  have hpl := h.lt p (List.mem_of_getElem? h1)
  have hpx : p ≠ x := fun e => by
    subst e
    have := h.nodup
    obtain ⟨i1, e1⟩ := List.getElem?_eq_some_iff.1 h1
    obtain ⟨i2, e2⟩ := List.getElem?_eq_some_iff.1 hx
    exact absurd (e1.trans e2.symm) ((List.pairwise_iff_getElem.1 (List.nodup_iff_pairwise_ne.1 this)) _ _ i1 i2 (by omega))
  obtain ⟨S', k, g1, g2, g3, g4, g5, g6, g7, g8⟩ := freezeP_tree h.fr hl hxl (fun k hk e => h.kn k hk (e ▸ List.mem_of_getElem? hx)) hB
  generalize (freezeP s x).1 = s1 at *
  generalize (freezeP s x).2 = o at *
  have hpath : path = path.take (fs.length + 1) ++ [x] := by
    have e1 := List.take_append_drop (fs.length + 1) path
    have e2 : path.drop (fs.length + 1) = [x] := by
      obtain ⟨i2, e2⟩ := List.getElem?_eq_some_iff.1 hx
      rw [List.drop_eq_getElem_cons i2, e2, List.drop_eq_nil_of_le (by omega)]
    rw [e2] at e1
    exact e1.symm
  have hnx : x ∉ path.take (fs.length + 1) := fun hm => by
    have := h.nodup
    rw [hpath] at this
    exact (List.nodup_append.1 this).2.2 x hm x (by simp) rfl
  have hknp : ∀ k ∈ s1.known, k.2 ≠ p := fun k hk e => by
    rcases g8 k hk with h5 | h5
    · exact h.kn k h5 (e ▸ List.mem_of_getElem? h1)
    · exact hpx (e.symm.trans h5)
  have hp1 : nodeAt s1.N p = nodeAt s.N p := g6 p hpx
  have hsl : setLast s1.N p o = s1.N.set p { nodeAt s.N p with edges := es ++ [(c, o)] } := by
    unfold setLast
    rw [hp1, h3]
    congr 2
    simp
  rw [hsl]
  refine ⟨S', g1.set hknp _, ?_, fun i R' c' hi => ?_, ⟨p, ?_, ?_⟩, ?_, fun q hq => ?_, fun k hk hm => ?_⟩
  · rw [List.length_take]; omega
  · have hil := (List.getElem?_eq_some_iff.1 hi).1
    obtain ⟨p', q', es', k1, k2, k3, k4⟩ := h.sp i R' c' (by rw [List.getElem?_append_left hil]; exact hi)
    have hp'm : p' ≠ p := fun e => by
      subst e
      obtain ⟨i1, e1⟩ := List.getElem?_eq_some_iff.1 k1
      obtain ⟨i2, e2⟩ := List.getElem?_eq_some_iff.1 h1
      exact absurd (e1.trans e2.symm) ((List.pairwise_iff_getElem.1 (List.nodup_iff_pairwise_ne.1 h.nodup)) _ _ i1 i2 hil)
    have hp'x : p' ≠ x := fun e => by
      subst e
      obtain ⟨i1, e1⟩ := List.getElem?_eq_some_iff.1 k1
      obtain ⟨i2, e2⟩ := List.getElem?_eq_some_iff.1 hx
      exact absurd (e1.trans e2.symm) ((List.pairwise_iff_getElem.1 (List.nodup_iff_pairwise_ne.1 h.nodup)) _ _ i1 i2 (by omega))
    have e1 : nodeAt (s1.N.set p { nodeAt s.N p with edges := es ++ [(c, o)] }) p' = nodeAt s.N p' := by
      rw [nodeAt_set_other (fun e => hp'm e.symm), g6 p' hp'x]
    refine ⟨p', q', es', by rw [List.getElem?_take_of_lt (by omega)]; exact k1, by rw [List.getElem?_take_of_lt (by omega)]; exact k2, ?_, ?_⟩
    · show (nodeAt (s1.N.set p _) p').edges = _
      rw [e1]; exact k3
    · show EdF s1.known S' R' (nodeAt (s1.N.set p _) p').final es'
      rw [e1]; exact k4.ext g3 g2
  · rw [List.getElem?_take_of_lt (by omega)]; exact h1
  · show EdF s1.known S' (snocT R c B) (nodeAt (s1.N.set p _) p).final (nodeAt (s1.N.set p _) p).edges
    rw [nodeAt_set_same (by rw [g7]; exact hpl)]
    exact EdF.snoc g4 g5 (h4.ext g3 g2)
  · exact List.Nodup.sublist (List.take_sublist _ _) h.nodup
  · show q < (s1.N.set p _).length
    rw [List.length_set, g7]
    exact h.lt q (List.mem_of_mem_take hq)
  · rcases g8 k hk with h5 | h5
    · exact h.kn k h5 (List.mem_of_mem_take hm)
    · rw [h5] at hm; exact hnx hm
theorem freezeP_known (s : Fz) (x : Nat) : (freezeP s x).1.known.length ≤ s.known.length + 1 := by
  unfold freezeP
  split <;> simp
theorem cutL_take (path : List Nat) (n m : Nat) : ∀ (c : Nat) (s : Fz), n + c + 1 ≤ m → cutL (path.take m) n c s = cutL path n c s
  | 0, s, _ => rfl
  | c + 1, s, h => by
    have e : ∀ j, j < m → (path.take m).getD j 0 = path.getD j 0 := fun j hj => by
      rw [List.getD_eq_getElem?_getD, List.getD_eq_getElem?_getD, List.getElem?_take_of_lt hj]
    simp only [cutL]
    rw [e _ (by omega), e _ (by omega), cutL_take path n m c _ (by omega)]
theorem PtI.cut (n : Nat) : ∀ (c : Nat) {s : Fz} {S : List Trie} {path : List Nat} {fs : List (Trie × UInt8)} {B : Trie}, PtI s S path fs B → fs.length = n + c → s.known.length + c < 18446744073709551616 →
    ∃ S', PtI (cutL path n c s) S' (path.take (n + 1)) (fs.take n) (plug (fs.drop n) B)
  | 0, s, S, path, fs, B, h, hl, _ => by
    have e1 : path.take (n + 1) = path := List.take_of_length_le (by rw [h.len]; omega)
    have e2 : fs.take n = fs := List.take_of_length_le (by omega)
    have e3 : fs.drop n = [] := List.drop_eq_nil_of_le (by omega)
    rw [e1, e2, e3]
    exact ⟨S, h⟩
  | c + 1, s, S, path, fs, B, h, hl, hb => by
    obtain ⟨gs, ⟨R, d⟩, rfl⟩ : ∃ gs p, fs = gs ++ [p] := ⟨fs.dropLast, fs.getLast (by intro e; subst e; simp at hl), (List.dropLast_concat_getLast _).symm⟩
    rw [List.length_append, List.length_singleton] at hl
    obtain ⟨S1, h1⟩ := h.up (by omega)
    have hgl : gs.length = n + c := by omega
    rw [hgl] at h1
    have hkn := freezeP_known s (path.getD (n + c + 1) 0)
    obtain ⟨S2, h2⟩ := PtI.cut n c h1 hgl (by show (freezeP s _).1.known.length + c < _; omega)
    refine ⟨S2, ?_⟩
    rw [cutL_take path n (n + c + 1) c _ (by omega), List.take_take, Nat.min_eq_left (by omega)] at h2
    simp only [cutL]
    rw [List.take_append_of_le_length (by omega), List.drop_append_of_le_length (by omega), plug_app]
    exact h2
/-- A byte more on the path. -/
theorem PtI.grow {s : Fz} {S : List Trie} {path : List Nat} {fs : List (Trie × UInt8)} {B : Trie} (h : PtI s S path fs B) (c : UInt8) : PtI ⟨growN s.N (path.getLastD 0) c, s.known⟩ S (path ++ [s.N.length]) (fs ++ [(B, c)]) (.fin false) := by
  have hlen := h.len
  obtain ⟨x, hx, hB⟩ := h.base
  have hne : path ≠ [] := by intro e; subst e; simp at hlen
  have hlast : path.getLastD 0 = x := by
    rw [getLastD_getD hne, List.getD_eq_getElem?_getD, show path.length - 1 = fs.length from by omega, hx]; rfl
  rw [hlast]
  have hxl := h.lt x (List.mem_of_getElem? hx)
  have hkx : ∀ k ∈ s.known, k.2 ≠ x := fun k hk e => h.kn k hk (e ▸ List.mem_of_getElem? hx)
  have hnew : s.N.length ∉ path := fun hm => by have := h.lt _ hm; omega
  have hold : ∀ i, i < s.N.length → i ≠ x → nodeAt (growN s.N x c) i = nodeAt s.N i := fun i hi hix => nodeAt_growN_other hi (fun e => hix e.symm)
  refine ⟨⟨h.fr.len, h.fr.nodup, h.fr.closed, fun j k i hj => ?_⟩, by simp [hlen], fun i R' c' hi => ?_, ⟨s.N.length, ?_, ?_⟩, ?_, fun p hp => ?_, fun k hk hm => ?_⟩
  · obtain ⟨g1, g2, g3⟩ := h.fr.kn j k i hj
    have hix := hkx _ (List.mem_of_getElem? hj)
    refine ⟨by show i < (growN s.N x c).length; rw [growN_len]; omega, ?_, ?_⟩
    · show (nodeAt (growN s.N x c) i).id = _
      rw [hold i g1 hix]; exact g2
    · show ∃ t, S[j]? = some t ∧ EdF s.known S t (nodeAt (growN s.N x c) i).final (nodeAt (growN s.N x c) i).edges ∧ _
      rw [hold i g1 hix]; exact g3
  · by_cases hil : i < fs.length
    · rw [List.getElem?_append_left hil] at hi
      obtain ⟨p, q, es, k1, k2, k3, k4⟩ := h.sp i R' c' hi
      have hpl := h.lt p (List.mem_of_getElem? k1)
      have hpx : p ≠ x := fun e => by
        subst e
        obtain ⟨i1, e1⟩ := List.getElem?_eq_some_iff.1 k1
        obtain ⟨i2, e2⟩ := List.getElem?_eq_some_iff.1 hx
        exact absurd (e1.trans e2.symm) ((List.pairwise_iff_getElem.1 (List.nodup_iff_pairwise_ne.1 h.nodup)) _ _ i1 i2 hil)
      refine ⟨p, q, es, by rw [List.getElem?_append_left (by omega)]; exact k1, by rw [List.getElem?_append_left (by omega)]; exact k2, ?_, ?_⟩
      · show (nodeAt (growN s.N x c) p).edges = _
        rw [hold p hpl hpx]; exact k3
      · show EdF s.known S R' (nodeAt (growN s.N x c) p).final es
        rw [hold p hpl hpx]; exact k4
    · have hie : i = fs.length := by
        have := (List.getElem?_eq_some_iff.1 hi).1
        simp at this
        omega
      subst hie
      rw [List.getElem?_append_right (Nat.le_refl _), Nat.sub_self] at hi
      simp only [List.getElem?_cons_zero, Option.some.injEq, Prod.mk.injEq] at hi
      obtain ⟨rfl, rfl⟩ := hi
      refine ⟨x, s.N.length, (nodeAt s.N x).edges, by rw [List.getElem?_append_left (by omega)]; exact hx, by rw [List.getElem?_append_right (by omega), show fs.length + 1 - path.length = 0 from by omega]; rfl, ?_, ?_⟩
      · show (nodeAt (growN s.N x c) x).edges = _
        rw [nodeAt_growN_up hxl]
      · show EdF s.known S B (nodeAt (growN s.N x c) x).final _
        rw [nodeAt_growN_up hxl]; exact hB
  · rw [List.length_append, List.length_singleton, List.getElem?_append_right (by omega), show fs.length + 1 - path.length = 0 from by omega]; rfl
  · show EdF s.known S (.fin false) (nodeAt (growN s.N x c) s.N.length).final (nodeAt (growN s.N x c) s.N.length).edges
    rw [nodeAt_growN_new]
    exact ⟨rfl, rfl⟩
  · exact List.nodup_append.2 ⟨h.nodup, by simp, fun a ha b hb e => by rw [List.mem_singleton] at hb; subst hb; subst e; exact hnew ha⟩
  · show p < (growN s.N x c).length
    rw [growN_len]
    rcases List.mem_append.1 hp with hp | hp
    · exact Nat.lt_succ_of_lt (h.lt p hp)
    · rw [List.mem_singleton] at hp; subst hp; exact Nat.lt_succ_self _
  · rcases List.mem_append.1 hm with hm | hm
    · exact h.kn k hk hm
    · rw [List.mem_singleton] at hm
      obtain ⟨j, hj⟩ := List.getElem?_of_mem hk
      have := (h.fr.kn j k.1 k.2 hj).1
      omega
/-- The steps of a text that is put behind B. -/
def stepsT (B : Trie) : List UInt8 → List (Trie × UInt8)
  | [] => []
  | c :: r => (B, c) :: stepsT (.fin false) r
def baseT (B : Trie) : List UInt8 → Trie
  | [] => B
  | _ :: _ => .fin false
theorem baseT_fin (r : List UInt8) : baseT (.fin false) r = .fin false := by cases r <;> rfl
theorem newT_steps : ∀ (r : List UInt8), plug (stepsT (.fin false) r) (.fin true) = newT r
  | [] => rfl
  | c :: r => by simp only [stepsT, plug, newT, snocT]; rw [newT_steps r]
theorem addW_steps (B : Trie) (r : List UInt8) : plug (stepsT B r) (markT (baseT B r)) = addW B r := by
  cases r with
  | nil => rfl
  | cons c r =>
    simp only [stepsT, plug, addW, baseT, markT]
    rw [newT_steps]
theorem stepsT_bytes : ∀ (B : Trie) (r : List UInt8), (stepsT B r).map (·.2) = r
  | _, [] => rfl
  | B, c :: r => by simp only [stepsT, List.map_cons]; rw [stepsT_bytes]
theorem PtI.growL : ∀ (r : List UInt8) (s : Fz) (S : List Trie) (path : List Nat) (fs : List (Trie × UInt8)) (B : Trie), PtI s S path fs B → PtI ⟨(growL r (s.N, path)).1, s.known⟩ S (growL r (s.N, path)).2 (fs ++ stepsT B r) (baseT B r)
  | [], s, S, path, fs, B, h => by simpa [Go.Proofs.Ytcbdncjknpdnbaa.growL, stepsT, baseT] using h
  | c :: r, s, S, path, fs, B, h => by
    rw [growL_cons]
    have h1 := PtI.growL r _ S _ _ _ (h.grow c)
    rw [baseT_fin] at h1
    simp only [stepsT, baseT]
    rw [show fs ++ (B, c) :: stepsT (.fin false) r = fs ++ [(B, c)] ++ stepsT (.fin false) r from by simp]
    exact h1
theorem PtI.mark {s : Fz} {S : List Trie} {path : List Nat} {fs : List (Trie × UInt8)} {B : Trie} (h : PtI s S path fs B) : PtI ⟨markL s.N (path.getD fs.length 0), s.known⟩ S path fs (markT B) := by
  obtain ⟨x, hx, hB⟩ := h.base
  have ex : path.getD fs.length 0 = x := by rw [List.getD_eq_getElem?_getD, hx]; rfl
  rw [ex]
  have hxl := h.lt x (List.mem_of_getElem? hx)
  refine ⟨h.fr.set (fun k hk e => h.kn k hk (e ▸ List.mem_of_getElem? hx)) _, h.len, fun i R c hi => ?_, ⟨x, hx, ?_⟩, h.nodup, fun p hp => by show p < (markL s.N x).length; simp [markL]; exact h.lt p hp, h.kn⟩
  · have hil := (List.getElem?_eq_some_iff.1 hi).1
    obtain ⟨p, q, es, k1, k2, k3, k4⟩ := h.sp i R c hi
    have hpx : x ≠ p := fun e => by
      subst e
      obtain ⟨i1, e1⟩ := List.getElem?_eq_some_iff.1 k1
      obtain ⟨i2, e2⟩ := List.getElem?_eq_some_iff.1 hx
      exact absurd (e1.trans e2.symm) ((List.pairwise_iff_getElem.1 (List.nodup_iff_pairwise_ne.1 h.nodup)) _ _ i1 i2 hil)
    refine ⟨p, q, es, k1, k2, ?_, ?_⟩
    · show (nodeAt (s.N.set x _) p).edges = _
      rw [nodeAt_set_other hpx]; exact k3
    · show EdF s.known S R (nodeAt (s.N.set x _) p).final es
      rw [nodeAt_set_other hpx]; exact k4
  · show EdF s.known S (markT B) (nodeAt (s.N.set x _) x).final (nodeAt (s.N.set x _) x).edges
    rw [nodeAt_set_same hxl]
    exact hB.mark
/-- The builder holds the tree T. -/
def BdT' (b : Bd) (T : Trie) : Prop := ∃ S fs f, PtI b.f S b.path fs (.fin f) ∧ b.last = fs.map (·.2) ∧ T = plug fs (.fin f)
theorem freshB_T : BdT' freshB (.fin false) :=
  ⟨[], [], false, ⟨⟨rfl, List.nodup_nil, fun t h => by simp at h, fun j k i h => by simp [freshB] at h⟩, rfl, fun i R c h => by simp at h, ⟨0, rfl, by simp [freshB, nodeAt, EdF]⟩, by simp [freshB], fun p hp => by simp [freshB] at hp ⊢; exact hp, fun k hk => by simp [freshB] at hk⟩, rfl, rfl⟩
theorem commonL_nil (w : List UInt8) : commonL w [] = 0 := by cases w <;> rfl
/-- A word above the last one is put in. -/
theorem addP_T {b : Bd} {T : Trie} (h : BdT' b T) (w : List UInt8) (hw : commonL w b.last < w.length ∨ b.last = []) (hk : b.f.known.length + b.last.length < 18446744073709551616) : BdT' (addP b w) (insW T w) := by
  obtain ⟨S, fs, f, hp, hlast, rfl⟩ := h
  have hll : b.last.length = fs.length := by rw [hlast]; simp
  have hcl := (commonL_le w b.last).2
  have hcw := (commonL_le w b.last).1
  obtain ⟨S1, h1⟩ := PtI.cut (commonL w b.last) (b.last.length - commonL w b.last) hp (by omega) (by omega)
  have h2 := PtI.growL (w.drop (commonL w b.last)) _ _ _ _ _ h1
  have h3 := h2.mark
  have htl : (fs.take (commonL w b.last)).length = commonL w b.last := by rw [List.length_take]; omega
  have hfl : (fs.take (commonL w b.last) ++ stepsT (plug (fs.drop (commonL w b.last)) (.fin f)) (w.drop (commonL w b.last))).length = w.length := by
    have e1 : ∀ B r, (stepsT B r).length = r.length := fun B r => by
      have := congrArg List.length (stepsT_bytes B r)
      simpa using this
    rw [List.length_append, e1, htl, List.length_drop]
    omega
  rw [hfl] at h3
  have hbase : ∃ g, markT (baseT (plug (fs.drop (commonL w b.last)) (.fin f)) (w.drop (commonL w b.last))) = .fin g := by
    rcases hw with hw | hw
    · cases hd : w.drop (commonL w b.last) with
      | nil =>
        have := congrArg List.length hd
        rw [List.length_drop] at this
        simp at this
        omega
      | cons c r => exact ⟨true, rfl⟩
    · have hfs : fs = [] := by
        cases fs with
        | nil => rfl
        | cons a l => rw [hlast] at hw; simp at hw
      subst hfs
      cases w.drop (commonL w b.last) with
      | nil => exact ⟨true, by simp [baseT, plug, markT]⟩
      | cons c r => exact ⟨true, rfl⟩
  obtain ⟨g, hg⟩ := hbase
  refine ⟨S1, fs.take (commonL w b.last) ++ stepsT (plug (fs.drop (commonL w b.last)) (.fin f)) (w.drop (commonL w b.last)), g, ?_, ?_, ?_⟩
  · rw [hg] at h3
    exact h3
  · show w = _
    rw [List.map_append, stepsT_bytes]
    have e1 : ∀ (a b : List UInt8), b.take (commonL a b) = a.take (commonL a b) := fun a => by
      induction a with
      | nil => intro b; simp [commonL]
      | cons x a ih =>
        intro b
        cases b with
        | nil => simp [commonL]
        | cons y b =>
          simp only [commonL]
          split
          · rename_i e
            subst e
            simp [ih b]
          · simp
    rw [List.map_take, ← hlast, e1, List.take_append_drop]
  · rw [← hg, plug_app, addW_steps, hlast]
    exact insW_plug fs f w
end Go.Proofs.Ytcbdncjknpdnbaa
