/- Trees told apart by what they are; classes of states; the least automaton of a tree; no program. · The least automaton of a tree: its distinct subtrees in the order of being met; no program. · The document's way to the least automaton: states told apart till nothing more can be; no program. · The document's numbering of the classes; no program. -/
import Derived.Test.YtcbdncjknpdnbaaTrie
import Derived.Test.YtcbdncjknpdnbaaPlain
namespace Go.Proofs.Ytcbdncjknpdnbaa
section
/-- What a tree's edges lead to. -/
def kids : Trie → List Trie
  | .fin _ => []
  | .edge _ c r => c :: kids r
/-- The edges of a tree, by the classes of what they lead to. -/
def sgE (cl : Trie → Nat) : Trie → List UInt8
  | .fin _ => []
  | .edge b c r => b :: (uintL (cl c) ++ sgE cl r)
/-- Alike as far as the classes tell. -/
def simE (cl : Trie → Nat) : Trie → Trie → Prop
  | .fin _, .fin _ => True
  | .edge b c r, .edge b' c' r' => b = b' ∧ cl c = cl c' ∧ simE cl r r'
  | _, _ => False
theorem uintL_cancel {n m : Nat} {x y : List UInt8} (hn : n < 18446744073709551616) (hm : m < 18446744073709551616) (h : uintL n ++ x = uintL m ++ y) : n = m ∧ x = y := by
  have h1 := rdU_uintL hn x
  have h2 := rdU_uintL hm y
  rw [h] at h1
  rw [h1] at h2
  simp only [Prod.mk.injEq] at h2
  obtain ⟨rfl, _⟩ := h2
  exact ⟨rfl, List.append_cancel_left h⟩
theorem sgE_sim {cl : Trie → Nat} : ∀ {t t' : Trie}, (∀ c ∈ kids t, cl c < 18446744073709551616) → (∀ c ∈ kids t', cl c < 18446744073709551616) → sgE cl t = sgE cl t' → simE cl t t'
  | .fin _, .fin _, _, _, _ => trivial
  | .fin _, .edge _ _ _, _, _, h => by simp [sgE] at h
  | .edge _ _ _, .fin _, _, _, h => by simp [sgE] at h
  | .edge b c r, .edge b' c' r', h1, h2, h => by
    simp only [sgE, List.cons.injEq] at h
    obtain ⟨rfl, h⟩ := h
    obtain ⟨e1, e2⟩ := uintL_cancel (h1 c (by simp [kids])) (h2 c' (by simp [kids])) h
    exact ⟨rfl, e1, sgE_sim (fun d hd => h1 d (by simp [kids, hd])) (fun d hd => h2 d (by simp [kids, hd])) e2⟩
theorem sim_sgE {cl : Trie → Nat} : ∀ {t t' : Trie}, simE cl t t' → sgE cl t = sgE cl t'
  | .fin _, .fin _, _ => rfl
  | .fin _, .edge _ _ _, h => h.elim
  | .edge _ _ _, .fin _, h => h.elim
  | .edge b c r, .edge b' c' r', ⟨h1, h2, h3⟩ => by simp only [sgE, h1, h2, sim_sgE h3]
theorem sim_eq {cl : Trie → Nat} : ∀ {t t' : Trie}, simE cl t t' → t.final = t'.final → (∀ c ∈ kids t, ∀ c' ∈ kids t', cl c = cl c' → c = c') → t = t'
  | .fin _, .fin _, _, h, _ => by simp only [Trie.final] at h; rw [h]
  | .fin _, .edge _ _ _, h, _, _ => h.elim
  | .edge _ _ _, .fin _, h, _, _ => h.elim
  | .edge b c r, .edge b' c' r', ⟨h1, h2, h3⟩, hf, hk => by
    subst h1
    rw [hk c (by simp [kids]) c' (by simp [kids]) h2, sim_eq h3 hf fun d hd d' hd' => hk d (by simp [kids, hd]) d' (by simp [kids, hd'])]
theorem sgE_congr {cl cl' : Trie → Nat} : ∀ {t : Trie}, (∀ c ∈ kids t, cl c = cl' c) → sgE cl t = sgE cl' t
  | .fin _, _ => rfl
  | .edge b c r, h => by simp only [sgE]; rw [h c (by simp [kids]), sgE_congr fun d hd => h d (by simp [kids, hd])]
/-- The kids are what the edges lead to. -/
theorem kids_mem {A : List Sta} : ∀ {t : Trie} {f : Bool} {es : List Ed}, UnfE A t f es → ∀ c, c ∈ kids t ↔ ∃ e ∈ es, Unf A e.2.toNat c
  | .fin _, f, es, h, c => by obtain ⟨rfl, _⟩ := h; simp [kids]
  | .edge b d r, f, es, h, c => by
    obtain ⟨m, es', rfl, ⟨x, hm, hx, hd⟩, hr⟩ := h
    simp only [kids, List.mem_cons, kids_mem hr c]
    constructor
    · rintro (rfl | ⟨e, he, hu⟩)
      · exact ⟨_, .inl rfl, x, hx, hd⟩
      · exact ⟨e, .inr he, hu⟩
    · rintro ⟨e, rfl | he, hu⟩
      · exact .inl (hu.uniq ⟨x, hx, hd⟩)
      · exact .inr ⟨e, he, hu⟩
/-- A tree's place in the list. -/
def ixT : List Trie → Trie → Nat
  | [], _ => 0
  | a :: l, t => if a = t then 0 else ixT l t + 1
theorem ixT_get : ∀ {Ts : List Trie} {t : Trie}, t ∈ Ts → Ts[ixT Ts t]? = some t
  | [], t, h => by simp at h
  | a :: l, t, h => by
    simp only [ixT]
    by_cases he : a = t
    · rw [if_pos he, he]; rfl
    · rw [if_neg he]
      rcases List.mem_cons.1 h with h | h
      · exact absurd h.symm he
      · rw [List.getElem?_cons_succ]; exact ixT_get h
theorem ixT_of : ∀ {Ts : List Trie}, Ts.Nodup → ∀ {k : Nat} {t : Trie}, Ts[k]? = some t → ixT Ts t = k
  | [], _, k, t, h => by simp at h
  | a :: l, hn, k, t, h => by
    simp only [ixT]
    cases k with
    | zero => simp at h; rw [if_pos h]
    | succ k =>
      rw [List.getElem?_cons_succ] at h
      rw [if_neg (fun e => by subst e; exact (List.nodup_cons.1 hn).1 (List.mem_of_getElem? h)), ixT_of (List.nodup_cons.1 hn).2 h]
theorem ixT_ext : ∀ {Ts Us : List Trie} {t : Trie}, t ∈ Ts → ixT (Ts ++ Us) t = ixT Ts t
  | [], Us, t, h => by simp at h
  | a :: l, Us, t, h => by
    simp only [List.cons_append, ixT]
    by_cases he : a = t
    · rw [if_pos he, if_pos he]
    · rw [if_neg he, if_neg he]
      rcases List.mem_cons.1 h with h | h
      · exact absurd h.symm he
      · rw [ixT_ext h]
/-- The class of a tree: its place in the list, from 1 on. -/
def clsT (Ts : List Trie) (t : Trie) : Nat := ixT Ts t + 1
theorem clsT_get {Ts : List Trie} (hn : Ts.Nodup) {k : Nat} {t : Trie} (h : Ts[k]? = some t) : clsT Ts t = k + 1 := by unfold clsT; rw [ixT_of hn h]
theorem clsT_ext {Ts Us : List Trie} {t : Trie} (h : t ∈ Ts) : clsT (Ts ++ Us) t = clsT Ts t := by
  unfold clsT
  rw [ixT_ext h]
theorem clsT_inj {Ts : List Trie} {t t' : Trie} (h : t ∈ Ts) (h' : t' ∈ Ts) (e : clsT Ts t = clsT Ts t') : t = t' := by
  unfold clsT at e
  have h1 := ixT_get h
  have h2 := ixT_get h'
  have : ixT Ts t = ixT Ts t' := by omega
  rw [this, h2] at h1
  exact (Option.some.inj h1).symm
theorem clsT_le {Ts : List Trie} {t : Trie} (h : t ∈ Ts) : clsT Ts t ≤ Ts.length := by
  unfold clsT
  have := (List.getElem?_eq_some_iff.1 (ixT_get h)).1
  omega
/-- A list of trees with all that they lead to. -/
def ClosedT (Ts : List Trie) : Prop := ∀ t ∈ Ts, ∀ c ∈ kids t, c ∈ Ts
/-- The key of a tree. -/
def keyT (Ts : List Trie) (t : Trie) : List UInt8 := (if t.final = true then 1 else 0) :: sgE (clsT Ts) t
theorem keyT_ext {Ts Us : List Trie} {t : Trie} (h : ∀ c ∈ kids t, c ∈ Ts) : keyT (Ts ++ Us) t = keyT Ts t := by
  unfold keyT
  rw [sgE_congr fun c hc => clsT_ext (h c hc)]
theorem keyT_inj {Ts : List Trie} {t t' : Trie} (hl : Ts.length < 18446744073709551616) (h : ∀ c ∈ kids t, c ∈ Ts) (h' : ∀ c ∈ kids t', c ∈ Ts) (e : keyT Ts t = keyT Ts t') : t = t' := by
  unfold keyT at e
  simp only [List.cons.injEq] at e
  refine sim_eq (sgE_sim (fun c hc => Nat.lt_of_le_of_lt (clsT_le (h c hc)) hl) (fun c hc => Nat.lt_of_le_of_lt (clsT_le (h' c hc)) hl) e.2) ?_ fun c hc c' hc' => clsT_inj (h c hc) (h' c' hc')
  cases h1 : t.final <;> cases h2 : t'.final <;> rw [h1, h2] at e <;> simp at e ⊢

/-! ### The fold's tables -/

structure FI (A : List Sta) (Ts : List Trie) (C F : List Nat) : Prop where
  nodup : Ts.Nodup
  closed : ClosedT Ts
  flen : F.length = Ts.length
  fst : ∀ (k : Nat) (t : Trie), Ts[k]? = some t → ∃ n, F[k]? = some n ∧ Unf A n t
  clen : C.length = A.length
  cls : ∀ (i c : Nat), C[i]? = some (c + 1) → ∃ t, Unf A i t ∧ Ts[c]? = some t
  reach : ∀ (i c : Nat), C[i]? = some (c + 1) → ∀ j, Gets A i j → ∃ d, C[j]? = some (d + 1)
theorem FI.start (A : List Sta) : FI A [] (List.replicate A.length 0) [] :=
  ⟨List.nodup_nil, fun t h => by simp at h, rfl, fun k t h => by simp at h, by simp, fun i c h => by rw [List.getElem?_replicate] at h; split at h <;> simp at h, fun i c h => by rw [List.getElem?_replicate] at h; split at h <;> simp at h⟩
theorem FI.le {A : List Sta} {Ts : List Trie} {C F : List Nat} (h : FI A Ts C F) : Ts.length ≤ A.length := by
  have hnd : F.Nodup := by
    rw [List.nodup_iff_pairwise_ne, List.pairwise_iff_getElem]
    intro i j hi hj hij e
    have hi' : i < Ts.length := by rw [← h.flen]; exact hi
    have hj' : j < Ts.length := by rw [← h.flen]; exact hj
    obtain ⟨n, e1, u1⟩ := h.fst i _ (List.getElem?_eq_getElem hi')
    obtain ⟨m, e2, u2⟩ := h.fst j _ (List.getElem?_eq_getElem hj')
    rw [List.getElem?_eq_getElem hi] at e1
    rw [List.getElem?_eq_getElem hj] at e2
    simp only [Option.some.injEq] at e1 e2
    rw [e1, e2] at e
    subst e
    have := u1.uniq u2
    exact absurd this ((List.pairwise_iff_getElem.1 (List.nodup_iff_pairwise_ne.1 h.nodup)) i j hi' hj' hij)
  have := nodup_le A.length F hnd fun x hx => by
    obtain ⟨k, hk, rfl⟩ := List.getElem_of_mem hx
    have hk' : k < Ts.length := by rw [← h.flen]; exact hk
    obtain ⟨n, e1, u1⟩ := h.fst k _ (List.getElem?_eq_getElem hk')
    rw [List.getElem?_eq_getElem hk] at e1
    simp only [Option.some.injEq] at e1
    rw [e1]
    exact u1.lt
  rw [h.flen] at this
  exact this
/-- The class of a state that has one. -/
theorem FI.val {A : List Sta} {Ts : List Trie} {C F : List Nat} (h : FI A Ts C F) {i c : Nat} {t : Trie} (hc : C[i]? = some (c + 1)) (hu : Unf A i t) : t ∈ Ts ∧ clsT Ts t = c + 1 := by
  obtain ⟨t', u, e⟩ := h.cls i c hc
  obtain rfl := hu.uniq u
  exact ⟨List.mem_of_getElem? e, clsT_get h.nodup e⟩
/-- What a call of fold leaves. -/
structure FStep (A : List Sta) (Ts Ts' : List Trie) (C C' F' : List Nat) : Prop where
  inv : FI A Ts' C' F'
  ext : Ts <+: Ts'
  keep : ∀ (i c : Nat), C[i]? = some (c + 1) → C'[i]? = some (c + 1)
theorem FStep.trans {A : List Sta} {T1 T2 T3 : List Trie} {C1 C2 C3 F2 F3 : List Nat} (h : FStep A T1 T2 C1 C2 F2) (k : FStep A T2 T3 C2 C3 F3) : FStep A T1 T3 C1 C3 F3 :=
  ⟨k.inv, h.ext.trans k.ext, fun i c hc => k.keep i c (h.keep i c hc)⟩
/-- The bytes of the first j edges, by the classes of the states. -/
def pk (C : List Nat) (es : List Ed) (j : Nat) : List UInt8 := (es.take j).flatMap fun e => e.1 :: uintL (C.getD e.2.toNat 0)
theorem pk_succ {C : List Nat} {es : List Ed} {j : Nat} {e : Ed} (h : es[j]? = some e) : pk C es (j + 1) = pk C es j ++ [e.1] ++ uintL (C.getD e.2.toNat 0) := by
  unfold pk
  rw [List.take_add_one, h]
  simp
theorem pk_keep {C C' : List Nat} {es : List Ed} {j : Nat} (h : ∀ q e, q < j → es[q]? = some e → C'.getD e.2.toNat 0 = C.getD e.2.toNat 0) : pk C' es j = pk C es j := by
  have hm : ∀ e ∈ es.take j, C'.getD e.2.toNat 0 = C.getD e.2.toNat 0 := fun e he => by
    obtain ⟨q, hq, rfl⟩ := List.getElem_of_mem he
    rw [List.length_take] at hq
    rw [List.getElem_take]
    exact h q _ (by omega) (List.getElem?_eq_getElem (by omega))
  unfold pk
  generalize es.take j = l at hm
  induction l with
  | nil => rfl
  | cons a l ih => simp only [List.flatMap_cons]; rw [hm a (by simp), ih fun e he => hm e (by simp [he])]
theorem pk_sgE {A : List Sta} {Ts : List Trie} {C : List Nat} : ∀ {t : Trie} {f : Bool} {es : List Ed}, UnfE A t f es → (∀ e ∈ es, ∀ c, Unf A e.2.toNat c → C.getD e.2.toNat 0 = clsT Ts c) → es.flatMap (fun e => e.1 :: uintL (C.getD e.2.toNat 0)) = sgE (clsT Ts) t
  | .fin _, f, es, h, _ => by obtain ⟨rfl, _⟩ := h; rfl
  | .edge b d r, f, es, h, hc => by
    obtain ⟨m, es', rfl, ⟨x, hm, hx, hd⟩, hr⟩ := h
    simp only [List.flatMap_cons, sgE]
    rw [hc (b, m) (by simp) d ⟨x, hx, hd⟩, pk_sgE hr fun e he => hc e (by simp [he])]
    rfl
theorem pk_len {C : List Nat} {es : List Ed} (hb : ∀ e ∈ es, C.getD e.2.toNat 0 < 18446744073709551616) (j : Nat) : (pk C es j).length ≤ 11 * min j es.length := by
  unfold pk
  have h1 : ∀ l : List Ed, (∀ e ∈ l, C.getD e.2.toNat 0 < 18446744073709551616) → (l.flatMap fun e => e.1 :: uintL (C.getD e.2.toNat 0)).length ≤ 11 * l.length := fun l => by
    induction l with
    | nil => simp
    | cons x l ih =>
      intro h
      have h2 := ih fun e he => h e (by simp [he])
      have h3 := uintL_length10 (h x (by simp))
      rw [List.flatMap_cons, List.length_append, List.length_cons, List.length_cons]
      omega
  have h2 := h1 (es.take j) fun e he => hb e (List.mem_of_mem_take he)
  rw [List.length_take] at h2
  exact h2
/-- A new class. -/
theorem FI.new {A : List Sta} {Ts : List Trie} {C F : List Nat} (h : FI A Ts C F) {n : Nat} {t : Trie} (hu : Unf A n t) (hk : ∀ c ∈ kids t, c ∈ Ts) (hn : t ∉ Ts) : FI A (Ts ++ [t]) C (F ++ [n]) := by
  refine ⟨List.nodup_append.2 ⟨h.nodup, by simp, fun a ha b hb e => ?_⟩, fun s hs c hc => ?_, by simp [h.flen], fun k s hs => ?_, h.clen, fun i c hc => ?_, h.reach⟩
  · rw [List.mem_singleton] at hb
    subst hb
    subst e
    exact hn ha
  · rcases List.mem_append.1 hs with hs | hs
    · exact List.mem_append_left _ (h.closed s hs c hc)
    · rw [List.mem_singleton] at hs
      subst hs
      exact List.mem_append_left _ (hk c hc)
  · by_cases hlt : k < Ts.length
    · rw [List.getElem?_append_left hlt] at hs
      obtain ⟨m, e1, u1⟩ := h.fst k s hs
      exact ⟨m, by rw [List.getElem?_append_left (by rw [h.flen]; exact hlt)]; exact e1, u1⟩
    · have hke : k = Ts.length := by
        have := (List.getElem?_eq_some_iff.1 hs).1
        simp at this
        omega
      subst hke
      rw [List.getElem?_append_right (Nat.le_refl _), Nat.sub_self] at hs
      simp at hs
      subst hs
      exact ⟨n, by rw [← h.flen, List.getElem?_append_right (Nat.le_refl _), Nat.sub_self]; rfl, hu⟩
  · obtain ⟨s, u, e⟩ := h.cls i c hc
    exact ⟨s, u, by rw [List.getElem?_append_left (List.getElem?_eq_some_iff.1 e).1]; exact e⟩
/-- The state gets its class. -/
theorem FI.set {A : List Sta} {Ts : List Trie} {C F : List Nat} (h : FI A Ts C F) {n : Nat} {t : Trie} {x : Sta} (hx : A[n]? = some x) (hu : Unf A n t) (ht : t ∈ Ts) (hk : ∀ e ∈ x.edges, ∃ d, C[e.2.toNat]? = some (d + 1)) :
    FI A Ts (C.set n (clsT Ts t)) F ∧ ∀ (i c : Nat), C[i]? = some (c + 1) → (C.set n (clsT Ts t))[i]? = some (c + 1) := by
  have hlt : n < C.length := by rw [h.clen]; exact hu.lt
  have hkeep : ∀ (i c : Nat), C[i]? = some (c + 1) → (C.set n (clsT Ts t))[i]? = some (c + 1) := fun i c hc => by
    by_cases he : n = i
    · subst he; rw [List.getElem?_set_self hlt, (h.val hc hu).2]
    · rw [List.getElem?_set_ne he]; exact hc
  refine ⟨⟨h.nodup, h.closed, h.flen, h.fst, by simpa using h.clen, fun i c hc => ?_, fun i c hc j hj => ?_⟩, hkeep⟩
  · by_cases he : n = i
    · subst he
      rw [List.getElem?_set_self hlt] at hc
      simp only [Option.some.injEq, clsT, Nat.add_right_cancel_iff] at hc
      refine ⟨t, hu, ?_⟩
      rw [← hc]
      exact ixT_get ht
    · rw [List.getElem?_set_ne he] at hc
      exact h.cls i c hc
  · by_cases he : n = i
    · subst he
      cases hj with
      | refl => exact ⟨ixT Ts t, by rw [List.getElem?_set_self hlt]; rfl⟩
      | edge hx' he' h0 hr =>
        rw [hx] at hx'
        cases hx'
        obtain ⟨d, hd⟩ := hk _ he'
        obtain ⟨d', hd'⟩ := h.reach _ d hd j hr
        exact ⟨d', hkeep _ _ hd'⟩
    · rw [List.getElem?_set_ne he] at hc
      obtain ⟨d', hd'⟩ := h.reach i c hc j hj
      exact ⟨d', hkeep _ _ hd'⟩
end

section
/-- The edges of a tree, one after the other: the trees met by then, the states that are laid, the edges' numbers. -/
def layE : Trie → List Trie → List Trie × List Sta × List Ed
  | .fin _, Ts => (Ts, [], [])
  | .edge b c r, Ts =>
    if c ∈ Ts then ((layE r Ts).1, (layE r Ts).2.1, (b, (ixT Ts c : Int)) :: (layE r Ts).2.2)
    else ((layE r (layE c (Ts ++ [c])).1).1, ⟨c.final, (layE c (Ts ++ [c])).2.2⟩ :: (layE c (Ts ++ [c])).2.1 ++ (layE r (layE c (Ts ++ [c])).1).2.1, (b, (Ts.length : Int)) :: (layE r (layE c (Ts ++ [c])).1).2.2)
/-- The least automaton. -/
def minT (t : Trie) : List Sta := ⟨t.final, (layE t [t]).2.2⟩ :: (layE t [t]).2.1
theorem layE_old {b : UInt8} {c r : Trie} {Ts : List Trie} (h : c ∈ Ts) : layE (.edge b c r) Ts = ((layE r Ts).1, (layE r Ts).2.1, (b, (ixT Ts c : Int)) :: (layE r Ts).2.2) := by
  simp only [layE]; rw [if_pos h]
theorem layE_new {b : UInt8} {c r : Trie} {Ts : List Trie} (h : c ∉ Ts) : layE (.edge b c r) Ts =
    ((layE r (layE c (Ts ++ [c])).1).1, ⟨c.final, (layE c (Ts ++ [c])).2.2⟩ :: (layE c (Ts ++ [c])).2.1 ++ (layE r (layE c (Ts ++ [c])).1).2.1, (b, (Ts.length : Int)) :: (layE r (layE c (Ts ++ [c])).1).2.2) := by
  simp only [layE]; rw [if_neg h]

/-- The edges es of a tree, by the numbers of what they lead to. -/
def EdR (T : List Trie) : Trie → List Ed → Prop
  | .fin _, es => es = []
  | .edge b c r, es => ∃ (m : Nat) (es' : List Ed), es = (b, (m : Int)) :: es' ∧ T[m]? = some c ∧ EdR T r es'
theorem get_prefix {α : Type} {T U : List α} (h : T <+: U) {i : Nat} {x : α} (hx : T[i]? = some x) : U[i]? = some x := by
  obtain ⟨V, rfl⟩ := h
  rw [List.getElem?_append_left (List.getElem?_eq_some_iff.1 hx).1]
  exact hx
theorem EdR.ext {T U : List Trie} (h : T <+: U) : ∀ {t : Trie} {es : List Ed}, EdR T t es → EdR U t es
  | .fin _, es, k => k
  | .edge b c r, es, k => by
    obtain ⟨m, es', rfl, h1, h2⟩ := k
    exact ⟨m, es', rfl, get_prefix h h1, EdR.ext h h2⟩
/-- The list A tells of every tree of T. -/
def Tells (T : List Trie) (A : List Sta) : Prop := A.length = T.length ∧ ∀ (i : Nat) (s : Trie), T[i]? = some s → ∃ es, A[i]? = some ⟨s.final, es⟩ ∧ EdR T s es
theorem Tells.edges {T : List Trie} {A : List Sta} (h : Tells T A) : ∀ {t : Trie} {es : List Ed}, EdR T t es → UnfE A t t.final es
  | .fin f, es, k => ⟨k, rfl⟩
  | .edge b c r, es, k => by
    obtain ⟨m, es', rfl, h1, h2⟩ := k
    obtain ⟨ec, h3, h4⟩ := h.2 m c h1
    exact ⟨m, es', rfl, ⟨_, Int.natCast_nonneg m, by rw [Int.toNat_natCast]; exact h3, h.edges h4⟩, h.edges h2⟩
theorem Tells.unf {T : List Trie} {A : List Sta} (h : Tells T A) {i : Nat} {s : Trie} (hs : T[i]? = some s) : Unf A i s := by
  obtain ⟨es, h1, h2⟩ := h.2 i s hs
  exact ⟨_, h1, h.edges h2⟩

/-- What layE does. -/
structure LayS (t : Trie) (Ts T1 Us : List Trie) (o : List Sta) (es : List Ed) : Prop where
  eq : T1 = Ts ++ Us
  len : o.length = Us.length
  ed : EdR T1 t es
  all : ∀ (j : Nat) (s : Trie), Us[j]? = some s → ∃ e, o[j]? = some ⟨s.final, e⟩ ∧ EdR T1 s e
  nodup : Ts.Nodup → T1.Nodup
theorem layE_spec : ∀ (t : Trie) (Ts : List Trie), ∃ Us, LayS t Ts (layE t Ts).1 Us (layE t Ts).2.1 (layE t Ts).2.2
  | .fin _, Ts => ⟨[], by simp [layE], rfl, rfl, fun j s h => by simp at h, fun h => h⟩
  | .edge b c r, Ts => by
    by_cases hc : c ∈ Ts
    · obtain ⟨Us, h⟩ := layE_spec r Ts
      rw [layE_old hc]
      exact ⟨Us, h.eq, h.len, ⟨ixT Ts c, _, rfl, by rw [h.eq]; exact get_prefix ⟨Us, rfl⟩ (ixT_get hc), h.ed⟩, h.all, h.nodup⟩
    · obtain ⟨Us, h⟩ := layE_spec c (Ts ++ [c])
      obtain ⟨Vs, k⟩ := layE_spec r (layE c (Ts ++ [c])).1
      rw [layE_new hc]
      have hpre : (layE c (Ts ++ [c])).1 <+: (layE r (layE c (Ts ++ [c])).1).1 := ⟨Vs, k.eq.symm⟩
      refine ⟨c :: Us ++ Vs, ?_, ?_, ⟨Ts.length, _, rfl, ?_, k.ed⟩, fun j s hj => ?_, fun hn => k.nodup (h.nodup ?_)⟩
      · rw [k.eq, h.eq]; simp
      · simp [h.len, k.len]
      · refine get_prefix hpre ?_
        rw [h.eq, List.append_assoc, List.getElem?_append_right (Nat.le_refl _), Nat.sub_self]; rfl
      · cases j with
        | zero => simp at hj; subst hj; exact ⟨_, by simp, h.ed.ext hpre⟩
        | succ j =>
          simp only [List.cons_append, List.getElem?_cons_succ] at hj ⊢
          by_cases hlt : j < Us.length
          · rw [List.getElem?_append_left hlt] at hj
            rw [List.getElem?_append_left (by rw [h.len]; exact hlt)]
            obtain ⟨e, h1, h2⟩ := h.all j s hj
            exact ⟨e, h1, h2.ext hpre⟩
          · rw [List.getElem?_append_right (by omega)] at hj
            rw [List.getElem?_append_right (by rw [h.len]; omega), h.len]
            exact k.all _ s hj
      · exact List.nodup_append.2 ⟨hn, by simp, fun a ha d hd e => by rw [List.mem_singleton] at hd; subst hd; subst e; exact hc ha⟩
theorem minT_tells (t : Trie) : Tells (layE t [t]).1 (minT t) ∧ (layE t [t]).1[0]? = some t ∧ (layE t [t]).1.Nodup := by
  obtain ⟨Us, h⟩ := layE_spec t [t]
  have h0 : (layE t [t]).1[0]? = some t := by rw [h.eq]; rfl
  refine ⟨⟨by unfold minT; rw [h.eq]; simp [h.len], fun i s hs => ?_⟩, h0, h.nodup (by simp)⟩
  cases i with
  | zero =>
    rw [h0] at hs
    cases hs
    exact ⟨_, rfl, h.ed⟩
  | succ i =>
    have hs2 : Us[i]? = some s := by rw [h.eq] at hs; simpa using hs
    obtain ⟨e, h1, h2⟩ := h.all i s hs2
    exact ⟨e, by unfold minT; simpa using h1, h2⟩
/-- The least automaton leads on as the tree does. -/
theorem minT_unf (t : Trie) : Unf (minT t) 0 t := (minT_tells t).1.unf (minT_tells t).2.1
theorem minT_inj {t t' : Trie} (h : minT t = minT t') : t = t' := (minT_unf t).uniq (h ▸ minT_unf t')
/-- What is met is reached. -/
theorem layE_sub {A : List Sta} : ∀ {t : Trie} {f : Bool} {es : List Ed} (Ts : List Trie), UnfE A t f es → (∀ s ∈ Ts, ∃ m, Unf A m s) → ∀ s ∈ (layE t Ts).1, ∃ m, Unf A m s
  | .fin _, f, es, Ts, _, h => by simpa [layE] using h
  | .edge b c r, f, es, Ts, hu, h => by
    obtain ⟨m, es', rfl, ⟨x, hm, hx, hd⟩, hr⟩ := hu
    by_cases hc : c ∈ Ts
    · rw [layE_old hc]
      exact layE_sub Ts hr h
    · rw [layE_new hc]
      refine layE_sub _ hr (layE_sub _ hd fun s hs => ?_)
      rcases List.mem_append.1 hs with hs | hs
      · exact h s hs
      · rw [List.mem_singleton] at hs
        subst hs
        exact ⟨_, x, hx, hd⟩
/-- Trees that are each reached, and of which no two are alike, are no more than the states. -/
theorem trees_le {A : List Sta} {T : List Trie} (hn : T.Nodup) (h : ∀ s ∈ T, ∃ m, Unf A m s) : T.length ≤ A.length := by
  have hm : ∀ l : List Trie, l.Nodup → (∀ s ∈ l, ∃ m, Unf A m s) → ∃ F : List Nat, F.length = l.length ∧ F.Nodup ∧ (∀ n ∈ F, n < A.length) ∧ ∀ n ∈ F, ∃ s ∈ l, Unf A n s := by
    intro l
    induction l with
    | nil => intro _ _; exact ⟨[], rfl, List.nodup_nil, by simp, by simp⟩
    | cons a l ih =>
      intro h1 h2
      obtain ⟨F, f1, f2, f3, f4⟩ := ih (List.nodup_cons.1 h1).2 fun s hs => h2 s (List.mem_cons_of_mem _ hs)
      obtain ⟨m, hm⟩ := h2 a (List.mem_cons_self ..)
      refine ⟨m :: F, by simp [f1], List.nodup_cons.2 ⟨fun hmF => ?_, f2⟩, fun n hn => ?_, fun n hn => ?_⟩
      · obtain ⟨s, hs, hu⟩ := f4 m hmF
        obtain rfl := hm.uniq hu
        exact (List.nodup_cons.1 h1).1 hs
      · rcases List.mem_cons.1 hn with rfl | hn
        · exact hm.lt
        · exact f3 n hn
      · rcases List.mem_cons.1 hn with rfl | hn
        · exact ⟨a, List.mem_cons_self .., hm⟩
        · obtain ⟨s, hs, hu⟩ := f4 n hn
          exact ⟨s, List.mem_cons_of_mem _ hs, hu⟩
  obtain ⟨F, f1, f2, f3, _⟩ := hm T hn h
  rw [← f1]
  exact nodup_le A.length F f2 f3
theorem minT_le {A : List Sta} {n : Nat} {t : Trie} (h : Unf A n t) : (minT t).length ≤ A.length := by
  obtain ⟨x, hx, hu⟩ := h
  rw [(minT_tells t).1.1]
  refine trees_le (minT_tells t).2.2 (layE_sub [t] hu fun s hs => ?_)
  rw [List.mem_singleton] at hs
  subst hs
  exact ⟨n, x, hx, hu⟩

theorem layE_vis {A : List Sta} {T : List Trie} (hA : Tells T A) (hn : T.Nodup) : ∀ (t : Trie) (Ts : List Trie) (p : Int) (k h : Nat) (d : List Bool) (es : List Ed), (layE t Ts).1 <+: T → okE False t p → htT t ≤ k → htT t ≤ h → d.length = T.length →
    (∀ (i : Nat) (s : Trie), Ts[i]? = some s → d.getD i false = true ∨ h ≤ htT s) → EdR T t es →
    ∃ d', visE (visN A k) p es (Ts.length, d) = some ((layE t Ts).1.length, d') ∧ d'.length = T.length ∧ (∀ i, d.getD i false = true → d'.getD i false = true) ∧ ∀ i, Ts.length ≤ i → i < (layE t Ts).1.length → d'.getD i false = true
  | .fin _, Ts, p, k, h, d, es, _, _, _, _, hd, _, he => by
    obtain rfl := he
    exact ⟨d, rfl, hd, fun _ h => h, fun i h1 h2 => by simp only [layE] at h2; omega⟩
  | .edge b c r, Ts, p, k, h, d, es, hp, ho, hk, hh, hd, hi, he => by
    obtain ⟨m, es', rfl, hm, her⟩ := he
    obtain ⟨o1, o2, o3, o4⟩ := ho
    have hc0 : c ≠ .fin false := o2.resolve_right fun h => h
    have hht : htT c + 1 ≤ k ∧ htT r ≤ k ∧ htT c + 1 ≤ h ∧ htT r ≤ h := by
      simp only [htT] at hk hh
      omega
    obtain ⟨k, rfl⟩ : ∃ j, k = j + 1 := ⟨k - 1, by omega⟩
    have hb : ¬ (b.toNat : Int) ≤ p := by omega
    have hmi := ixT_of hn hm
    by_cases hc : c ∈ Ts
    · rw [layE_old hc] at hp ⊢
      have h1 := ixT_get hc
      have hpre : Ts <+: T := by
        obtain ⟨Us, q⟩ := layE_spec r Ts
        exact (show Ts <+: (layE r Ts).1 from ⟨Us, q.eq.symm⟩).trans hp
      have h2 := ixT_of hn (get_prefix hpre h1)
      have hmeq : m = ixT Ts c := by omega
      have hlt : m < Ts.length := by rw [hmeq]; exact (List.getElem?_eq_some_iff.1 h1).1
      have hD : d.getD m false = true := by
        rcases hi m c (by rw [hmeq]; exact h1) with h | h
        · exact h
        · omega
      obtain ⟨d', e1, e2, e3, e4⟩ := layE_vis hA hn r Ts b.toNat (k + 1) h d es' hp o4 (by omega) (by omega) hd hi her
      refine ⟨d', ?_, e2, e3, e4⟩
      rw [visE_some (s' := (Ts.length, d)) hb (visN_back (by show (m : Int) ≠ (Ts.length : Int); omega) ⟨by omega, by show (m : Int) < (Ts.length : Int); omega, by rw [Int.toNat_natCast]; exact hD⟩)]
      exact e1
    · rw [layE_new hc] at hp ⊢
      obtain ⟨Us, q⟩ := layE_spec c (Ts ++ [c])
      obtain ⟨Vs, q2⟩ := layE_spec r (layE c (Ts ++ [c])).1
      have hp1 : (layE c (Ts ++ [c])).1 <+: T := (show (layE c (Ts ++ [c])).1 <+: (layE r (layE c (Ts ++ [c])).1).1 from ⟨Vs, q2.eq.symm⟩).trans hp
      have hcl : (layE c (Ts ++ [c])).1[Ts.length]? = some c := by rw [q.eq, List.append_assoc, List.getElem?_append_right (Nat.le_refl _), Nat.sub_self]; rfl
      have h2 := ixT_of hn (get_prefix hp1 hcl)
      have hmeq : m = Ts.length := by omega
      subst hmeq
      have hlen1 : (layE c (Ts ++ [c])).1.length = Ts.length + 1 + Us.length := by rw [q.eq]; simp; omega
      obtain ⟨ec, a1, a2⟩ := hA.2 _ c hm
      obtain ⟨d1, e1, e2, e3, e4⟩ := layE_vis hA hn c (Ts ++ [c]) (-1) k (htT c) d ec hp1 o3 (by omega) (Nat.le_refl _) hd (fun i s hs => by
        by_cases hlt : i < Ts.length
        · rw [List.getElem?_append_left hlt] at hs
          rcases hi i s hs with h | h
          · exact .inl h
          · exact .inr (by omega)
        · rw [List.getElem?_append_right (by omega)] at hs
          have : i - Ts.length = 0 := by have := (List.getElem?_eq_some_iff.1 hs).1; simp at this; omega
          rw [this] at hs
          simp at hs
          subst hs
          exact .inr (Nat.le_refl _)) a2
      have hTl : Ts.length < T.length := (List.getElem?_eq_some_iff.1 hm).1
      have hset : ∀ i, (d1.getD i false = true ∨ i = Ts.length) → (d1.set Ts.length true).getD i false = true := fun i h => by
        by_cases hi : Ts.length = i
        · subst hi; exact getD_set_same (by omega)
        · rw [getD_set_other hi]; exact h.resolve_right fun h => hi h.symm
      have hrun : visN A (k + 1) (Ts.length, d) (Ts.length : Int) = some ((layE c (Ts ++ [c])).1.length, d1.set Ts.length true) := by
        have h5 := visN_in (A := A) (k := k) (s := (Ts.length, d)) a1
        dsimp only at h5
        rw [List.length_append] at e1
        have e1' : visE (visN A k) (-1) ec (Ts.length + 1, d) = some ((layE c (Ts ++ [c])).1.length, d1) := e1
        rw [h5, e1']
        dsimp only
        rw [if_neg]
        rintro ⟨z1, z2, _⟩
        subst z1
        cases c with
        | fin f => simp only [Trie.final] at z2; subst z2; exact hc0 rfl
        | edge b' c' r' => obtain ⟨_, _, z, _⟩ := a2; cases z
      obtain ⟨d', f1, f2, f3, f4⟩ := layE_vis hA hn r (layE c (Ts ++ [c])).1 b.toNat (k + 1) h (d1.set Ts.length true) es' hp o4 (by omega) (by omega) (by simpa using e2) (fun i s hs => by
        by_cases hlt : i < Ts.length
        · have hs2 : Ts[i]? = some s := by
            rw [q.eq, List.append_assoc, List.getElem?_append_left hlt] at hs
            exact hs
          rcases hi i s hs2 with h | h
          · exact .inl (hset i (.inl (e3 i h)))
          · exact .inr h
        · by_cases hie : i = Ts.length
          · exact .inl (hset i (.inr hie))
          · exact .inl (hset i (.inl (e4 i (by simp; omega) (List.getElem?_eq_some_iff.1 hs).1)))) her
      refine ⟨d', ?_, f2, fun i hi => f3 i (hset i (.inl (e3 i hi))), fun i h1 h2 => ?_⟩
      · rw [visE_some hb hrun]
        exact f1
      · by_cases hlt : i < (layE c (Ts ++ [c])).1.length
        · refine f3 i (hset i ?_)
          by_cases hie : i = Ts.length
          · exact .inr hie
          · exact .inl (e4 i (by simp; omega) hlt)
        · exact f4 i (by omega) h2
/-- The least automaton is in its one shape. -/
theorem minT_shape {t : Trie} (hg : Good t) (hl : (minT t).length ≤ 1048576) : shapeB (minT t) = true := by
  obtain ⟨h1, h2, h3⟩ := minT_tells t
  have hht := htT_lt (minT_unf t)
  obtain ⟨es, a1, a2⟩ := h1.2 0 t h2
  have hlen : (List.replicate (minT t).length false).length = (layE t [t]).1.length := by rw [List.length_replicate]; exact h1.1
  obtain ⟨d', e1, e2, _, _⟩ := layE_vis h1 h3 t [t] (-1) (minT t).length (htT t) (List.replicate (minT t).length false) es List.prefix_rfl hg (by omega) (Nat.le_refl _) hlen (fun i s hs => by
    have : i = 0 := by have := (List.getElem?_eq_some_iff.1 hs).1; simp at this; omega
    subst this
    simp at hs
    subst hs
    exact .inr (Nat.le_refl _)) a2
  unfold shapeB
  have hpos : 1 ≤ (minT t).length := by unfold minT; simp
  rw [if_neg (by omega)]
  have h5 := visN_in (A := minT t) (k := (minT t).length) (s := (0, List.replicate (minT t).length false)) a1
  dsimp only at h5
  have e1' : visE (visN (minT t) (minT t).length) (-1) es (0 + 1, List.replicate (minT t).length false) = some ((layE t [t]).1.length, d') := e1
  have h6 : visN (minT t) ((minT t).length + 1) (0, List.replicate (minT t).length false) 0 = some ((layE t [t]).1.length, d'.set 0 true) := by
    refine Eq.trans h5 ?_
    rw [e1']
    dsimp only
    rw [if_neg]
    rintro ⟨z1, z2, z3⟩
    subst z1
    cases t with
    | fin f => exact z3 (by simp [minT, layE])
    | edge b' c' r' => obtain ⟨_, _, z, _⟩ := a2; cases z
  rw [h6]
  simp [h1.1]
end

section
/-- What a state's edges say, by the classes. -/
def sgK (K : List Nat) (es : List Ed) : List UInt8 := es.flatMap fun e => e.1 :: uintL (K.getD e.2.toNat 0)
/-- A state's sign. -/
def sgA (K : List Nat) (x : Sta) : List UInt8 := (if x.final = true then 43 else 45) :: sgK K x.edges
/-- N tells the states apart by their signs under K. -/
def RefK (A : List Sta) (K N : List Nat) : Prop := ∀ (i j : Nat) (x y : Sta), A[i]? = some x → A[j]? = some y → (N.getD i 0 = N.getD j 0 ↔ sgA K x = sgA K y)
/-- Like trees have like classes. -/
def LikeK (A : List Sta) (K : List Nat) : Prop := ∀ (i j : Nat) (t : Trie), Unf A i t → Unf A j t → K.getD i 0 = K.getD j 0
theorem sgA_final {K : List Nat} {x y : Sta} (h : sgA K x = sgA K y) : x.final = y.final ∧ sgK K x.edges = sgK K y.edges := by
  unfold sgA at h
  simp only [List.cons.injEq] at h
  refine ⟨?_, h.2⟩
  cases h1 : x.final <;> cases h2 : y.final <;> rw [h1, h2] at h <;> simp at h ⊢
theorem like_edges {A : List Sta} {K : List Nat} (hK : LikeK A K) : ∀ {t : Trie} {f f' : Bool} {es es' : List Ed}, UnfE A t f es → UnfE A t f' es' → sgK K es = sgK K es'
  | .fin _, f, f', es, es', h, h' => by rw [h.1, h'.1]
  | .edge b c r, f, f', es, es', h, h' => by
    obtain ⟨m, e1, rfl, ⟨x, hm, hx, hc⟩, hr⟩ := h
    obtain ⟨m', e1', rfl, ⟨x', hm', hx', hc'⟩, hr'⟩ := h'
    have h1 := hK m.toNat m'.toNat c ⟨x, hx, hc⟩ ⟨x', hx', hc'⟩
    have h2 := like_edges hK hr hr'
    unfold sgK at h2 ⊢
    simp only [List.flatMap_cons]
    rw [h1, h2]
/-- Like trees keep like classes. -/
theorem RefK.like {A : List Sta} {K N : List Nat} (h : RefK A K N) (hK : LikeK A K) : LikeK A N := by
  rintro i j t ⟨x, hx, hu⟩ ⟨y, hy, hu'⟩
  refine (h i j x y hx hy).2 ?_
  unfold sgA
  rw [like_edges hK hu hu', ← hu.final, ← hu'.final]
theorem sgK_cons {K : List Nat} {e e' : Ed} {es es' : List Ed} (hb : ∀ i, K.getD i 0 < 18446744073709551616) (h : sgK K (e :: es) = sgK K (e' :: es')) : e.1 = e'.1 ∧ K.getD e.2.toNat 0 = K.getD e'.2.toNat 0 ∧ sgK K es = sgK K es' := by
  unfold sgK at h ⊢
  simp only [List.flatMap_cons, List.cons_append, List.cons.injEq] at h
  obtain ⟨h1, h2⟩ := h
  obtain ⟨h3, h4⟩ := uintL_cancel (hb _) (hb _) h2
  exact ⟨h1, h3, h4⟩
/-- What a state's signs say is kept where the classes are finer. -/
theorem sgK_coarse {K K0 : List Nat} {A : List Sta} (hb : ∀ i, K.getD i 0 < 18446744073709551616) (hf : ∀ i j, i < A.length → j < A.length → K.getD i 0 = K.getD j 0 → K0.getD i 0 = K0.getD j 0) :
    ∀ {es es' : List Ed}, (∀ e ∈ es, e.2.toNat < A.length) → (∀ e ∈ es', e.2.toNat < A.length) → sgK K es = sgK K es' → sgK K0 es = sgK K0 es'
  | [], [], _, _, _ => rfl
  | [], e' :: es', _, _, h => by simp [sgK] at h
  | e :: es, [], _, _, h => by simp [sgK] at h
  | e :: es, e' :: es', h1, h2, h => by
    obtain ⟨g1, g2, g3⟩ := sgK_cons hb h
    have g4 := hf _ _ (h1 e (by simp)) (h2 e' (by simp)) g2
    have g5 := sgK_coarse hb hf (fun d hd => h1 d (by simp [hd])) (fun d hd => h2 d (by simp [hd])) g3
    unfold sgK at g5 ⊢
    simp only [List.flatMap_cons]
    rw [g1, g4, g5]
/-- Finer classes give finer ones. -/
theorem RefK.finer {A : List Sta} {K0 K N : List Nat} (hb : ∀ i, K.getD i 0 < 18446744073709551616) (hA : ∀ x ∈ A, ∀ e ∈ x.edges, e.2.toNat < A.length) (h0 : RefK A K0 K) (h : RefK A K N)
    (hf : ∀ i j, i < A.length → j < A.length → K.getD i 0 = K.getD j 0 → K0.getD i 0 = K0.getD j 0) : ∀ i j, i < A.length → j < A.length → N.getD i 0 = N.getD j 0 → K.getD i 0 = K.getD j 0 := by
  intro i j hi hj e
  have hx := List.getElem?_eq_getElem hi
  have hy := List.getElem?_eq_getElem hj
  obtain ⟨h1, h2⟩ := sgA_final ((h i j _ _ hx hy).1 e)
  refine (h0 i j _ _ hx hy).2 ?_
  unfold sgA
  rw [h1, sgK_coarse hb hf (fun e he => hA _ (List.getElem_mem hi) e he) (fun e he => hA _ (List.getElem_mem hj) e he) h2]
/-- Where nothing more is told apart, like classes are like trees. -/
theorem stable_edges {A : List Sta} {K N : List Nat} (hR : RefK A K N) (hb : ∀ i, K.getD i 0 < 18446744073709551616) (hst : ∀ i j, i < A.length → j < A.length → K.getD i 0 = K.getD j 0 → N.getD i 0 = N.getD j 0) :
    ∀ {t t' : Trie} {f : Bool} {es es' : List Ed}, UnfE A t f es → UnfE A t' f es' → sgK K es = sgK K es' → t = t'
  | .fin _, .fin _, f, es, es', h, h', _ => by rw [h.2.symm.trans h'.2]
  | .fin _, .edge _ _ _, f, es, es', h, h', e => by
    obtain ⟨rfl, _⟩ := h
    obtain ⟨_, _, rfl, _⟩ := h'
    simp [sgK] at e
  | .edge _ _ _, .fin _, f, es, es', h, h', e => by
    obtain ⟨rfl, _⟩ := h'
    obtain ⟨_, _, rfl, _⟩ := h
    simp [sgK] at e
  | .edge b c r, .edge b' c' r', f, es, es', h, h', e => by
    obtain ⟨m, e1, rfl, ⟨x, hm, hx, hc⟩, hr⟩ := h
    obtain ⟨m', e1', rfl, ⟨x', hm', hx', hc'⟩, hr'⟩ := h'
    obtain ⟨g1, g2, g3⟩ := sgK_cons hb e
    have g4 := hst _ _ (List.getElem?_eq_some_iff.1 hx).1 (List.getElem?_eq_some_iff.1 hx').1 g2
    obtain ⟨g5, g6⟩ := sgA_final ((hR _ _ _ _ hx hx').1 g4)
    rw [← g5] at hc'
    have g7 := stable_edges hR hb hst hc hc' g6
    have g8 := stable_edges hR hb hst hr hr' g3
    simp only at g1
    rw [g1, g7, g8]
theorem stable_trees {A : List Sta} {K N : List Nat} (hR : RefK A K N) (hb : ∀ i, K.getD i 0 < 18446744073709551616) (hst : ∀ i j, i < A.length → j < A.length → K.getD i 0 = K.getD j 0 → N.getD i 0 = N.getD j 0)
    {i j : Nat} {t t' : Trie} (hi : Unf A i t) (hj : Unf A j t') (e : N.getD i 0 = N.getD j 0) : t = t' := by
  obtain ⟨x, hx, hu⟩ := hi
  obtain ⟨y, hy, hu'⟩ := hj
  obtain ⟨h1, h2⟩ := sgA_final ((hR i j x y hx hy).1 e)
  rw [← h1] at hu'
  exact stable_edges hR hb hst hu hu' h2

/-- Of every class one. -/
theorem onto_reps {n : Nat} {K N : Nat → Nat} (hf : ∀ i j, i < n → j < n → N i = N j → K i = K j) : ∀ (c : Nat), (∀ p, p < c → ∃ i, i < n ∧ K i = p) →
    ∃ M : List Nat, M.length = c ∧ M.Nodup ∧ (∀ v ∈ M, ∃ i, i < n ∧ N i = v ∧ K i < c) ∧ ∀ i j, i < n → j < n → N i ∈ M → N j ∈ M → K i = K j → N i = N j
  | 0, _ => ⟨[], rfl, List.nodup_nil, by simp, fun i j _ _ h => by simp at h⟩
  | c + 1, hon => by
    obtain ⟨M, m1, m2, m3, m4⟩ := onto_reps hf c fun p hp => hon p (by omega)
    obtain ⟨i0, hi0, hk0⟩ := hon c (by omega)
    have hlow : ∀ i, i < n → N i ∈ M → K i < c := fun i hi hm => by
      obtain ⟨i', hi', e1, e2⟩ := m3 _ hm
      have := hf i' i hi' hi e1
      omega
    refine ⟨N i0 :: M, by simp [m1], List.nodup_cons.2 ⟨fun hm => ?_, m2⟩, fun v hv => ?_, fun i j hi hj h1 h2 e => ?_⟩
    · have := hlow i0 hi0 hm
      omega
    · rcases List.mem_cons.1 hv with rfl | hv
      · exact ⟨i0, hi0, rfl, by omega⟩
      · obtain ⟨i, hi, e1, e2⟩ := m3 v hv
        exact ⟨i, hi, e1, by omega⟩
    · rcases List.mem_cons.1 h1 with h1 | h1
      · have e1 := hf i i0 hi hi0 h1
        rcases List.mem_cons.1 h2 with h2 | h2
        · rw [h1, h2]
        · have := hlow j hj h2
          omega
      · have e1 := hlow i hi h1
        rcases List.mem_cons.1 h2 with h2 | h2
        · have e2 := hf j i0 hj hi0 h2
          omega
        · exact m4 i j hi hj h1 h2 e
/-- As many classes as before, and finer: the same. -/
theorem onto_same {n c : Nat} {K N : Nat → Nat} (hf : ∀ i j, i < n → j < n → N i = N j → K i = K j) (hon : ∀ p, p < c → ∃ i, i < n ∧ K i = p) (hN : ∀ i, i < n → N i < c) : ∀ i j, i < n → j < n → K i = K j → N i = N j := by
  obtain ⟨M, m1, m2, m3, m4⟩ := onto_reps hf c hon
  have hin : ∀ i, i < n → N i ∈ M := fun i hi => Classical.byContradiction fun hm => by
    have := nodup_le c (N i :: M) (List.nodup_cons.2 ⟨hm, m2⟩) fun v hv => by
      rcases List.mem_cons.1 hv with rfl | hv
      · exact hN i hi
      · obtain ⟨i', hi', rfl, _⟩ := m3 v hv
        exact hN i' hi'
    simp [m1] at this
    omega
  exact fun i j hi hj e => m4 i j hi hj (hin i hi) (hin j hj) e
/-- Finer and onto: no fewer classes. -/
theorem onto_le {n c d : Nat} {K N : Nat → Nat} (hf : ∀ i j, i < n → j < n → N i = N j → K i = K j) (hon : ∀ p, p < c → ∃ i, i < n ∧ K i = p) (hN : ∀ i, i < n → N i < d) : c ≤ d := by
  obtain ⟨M, m1, m2, m3, _⟩ := onto_reps hf c hon
  rw [← m1]
  exact nodup_le d M m2 fun v hv => by
    obtain ⟨i, hi, rfl, _⟩ := m3 v hv
    exact hN i hi

/-! ### One round -/

/-- A text's place in the list. -/
def ixS : List (List UInt8) → List UInt8 → Nat
  | [], _ => 0
  | a :: l, t => if a = t then 0 else ixS l t + 1
theorem ixS_get : ∀ {S : List (List UInt8)} {t : List UInt8}, t ∈ S → S[ixS S t]? = some t
  | [], t, h => by simp at h
  | a :: l, t, h => by
    simp only [ixS]
    by_cases he : a = t
    · rw [if_pos he, he]; rfl
    · rw [if_neg he]
      rcases List.mem_cons.1 h with h | h
      · exact absurd h.symm he
      · rw [List.getElem?_cons_succ]; exact ixS_get h
theorem ixS_ext : ∀ {S U : List (List UInt8)} {t : List UInt8}, t ∈ S → ixS (S ++ U) t = ixS S t
  | [], U, t, h => by simp at h
  | a :: l, U, t, h => by
    simp only [List.cons_append, ixS]
    by_cases he : a = t
    · rw [if_pos he, if_pos he]
    · rw [if_neg he, if_neg he]
      rcases List.mem_cons.1 h with h | h
      · exact absurd h.symm he
      · rw [ixS_ext h]
theorem ixS_new : ∀ {S : List (List UInt8)} {t : List UInt8}, t ∉ S → ixS S t = S.length
  | [], t, _ => rfl
  | a :: l, t, h => by
    simp only [ixS, List.length_cons]
    rw [if_neg (fun e => h (by simp [e])), ixS_new fun hm => h (by simp [hm])]
theorem ixS_of : ∀ {S : List (List UInt8)}, S.Nodup → ∀ {k : Nat} {t : List UInt8}, S[k]? = some t → ixS S t = k
  | [], _, k, t, h => by simp at h
  | a :: l, hn, k, t, h => by
    simp only [ixS]
    cases k with
    | zero => simp at h; rw [if_pos h]
    | succ k =>
      rw [List.getElem?_cons_succ] at h
      rw [if_neg (fun e => by subst e; exact (List.nodup_cons.1 hn).1 (List.mem_of_getElem? h)), ixS_of (List.nodup_cons.1 hn).2 h]
/-- The round behind the first states: the signs so far, the classes so far. -/
structure RdK (A : List Sta) (K : List Nat) (i : Nat) (S : List (List UInt8)) (N : List Nat) : Prop where
  nodup : S.Nodup
  len : N.length = i
  get : ∀ (j : Nat) (x : Sta), j < i → A[j]? = some x → sgA K x ∈ S ∧ N.getD j 0 = ixS S (sgA K x)
  onto : ∀ s ∈ S, ∃ (j : Nat) (x : Sta), j < i ∧ A[j]? = some x ∧ sgA K x = s
theorem RdK.start (A : List Sta) (K : List Nat) : RdK A K 0 [] [] := ⟨List.nodup_nil, rfl, fun j x h => by omega, by simp⟩
/-- One state more. -/
def addS (S : List (List UInt8)) (s : List UInt8) : List (List UInt8) := if s ∈ S then S else S ++ [s]
theorem addS_mem (S : List (List UInt8)) (s : List UInt8) : s ∈ addS S s := by
  unfold addS
  split
  · assumption
  · simp
theorem RdK.step {A : List Sta} {K : List Nat} {i : Nat} {S : List (List UInt8)} {N : List Nat} (h : RdK A K i S N) {x : Sta} (hx : A[i]? = some x) : RdK A K (i + 1) (addS S (sgA K x)) (N ++ [ixS S (sgA K x)]) := by
  have hpre : ∃ U, addS S (sgA K x) = S ++ U := by
    unfold addS
    split
    · exact ⟨[], by simp⟩
    · exact ⟨_, rfl⟩
  obtain ⟨U, hU⟩ := hpre
  have hix : ixS (addS S (sgA K x)) (sgA K x) = ixS S (sgA K x) := by
    unfold addS
    split
    · rfl
    · rename_i hn
      rw [ixS_new hn]
      have := ixS_of (S := S ++ [sgA K x]) (List.nodup_append.2 ⟨h.nodup, by simp, fun a ha b hb e => by rw [List.mem_singleton] at hb; subst hb; subst e; exact hn ha⟩) (k := S.length) (t := sgA K x) (by simp)
      exact this
  refine ⟨?_, by simp [h.len], fun j y hj hy => ?_, fun s hs => ?_⟩
  · unfold addS
    split
    · exact h.nodup
    · rename_i hn
      exact List.nodup_append.2 ⟨h.nodup, by simp, fun a ha b hb e => by rw [List.mem_singleton] at hb; subst hb; subst e; exact hn ha⟩
  · by_cases hji : j = i
    · subst hji
      rw [hx] at hy
      cases hy
      refine ⟨addS_mem S _, ?_⟩
      rw [hix, List.getD_eq_getElem?_getD, List.getElem?_append_right (by rw [h.len]; exact Nat.le_refl _), h.len, Nat.sub_self]
      rfl
    · obtain ⟨g1, g2⟩ := h.get j y (by omega) hy
      refine ⟨by rw [hU]; exact List.mem_append_left _ g1, ?_⟩
      rw [hU, ixS_ext g1, ← g2, List.getD_eq_getElem?_getD, List.getElem?_append_left (by rw [h.len]; omega), List.getD_eq_getElem?_getD]
  · have hs2 : s ∈ S ∨ s = sgA K x := by
      unfold addS at hs
      split at hs
      · exact .inl hs
      · rcases List.mem_append.1 hs with hs | hs
        · exact .inl hs
        · exact .inr (by simpa using hs)
    rcases hs2 with hs2 | rfl
    · obtain ⟨j, y, h1, h2, h3⟩ := h.onto s hs2
      exact ⟨j, y, by omega, h2, h3⟩
    · exact ⟨i, x, by omega, hx, rfl⟩
/-- The whole round. -/
theorem RdK.ref {A : List Sta} {K : List Nat} {S : List (List UInt8)} {N : List Nat} (h : RdK A K A.length S N) : RefK A K N ∧ (∀ i, i < A.length → N.getD i 0 < S.length) ∧ ∀ p, p < S.length → ∃ i, i < A.length ∧ N.getD i 0 = p := by
  refine ⟨fun i j x y hx hy => ?_, fun i hi => ?_, fun p hp => ?_⟩
  · obtain ⟨g1, g2⟩ := h.get i x (List.getElem?_eq_some_iff.1 hx).1 hx
    obtain ⟨k1, k2⟩ := h.get j y (List.getElem?_eq_some_iff.1 hy).1 hy
    rw [g2, k2]
    constructor
    · intro e
      have h1 := ixS_get g1
      have h2 := ixS_get k1
      rw [e, h2] at h1
      exact (Option.some.inj h1).symm
    · intro e; rw [e]
  · obtain ⟨g1, g2⟩ := h.get i _ hi (List.getElem?_eq_getElem hi)
    rw [g2]
    exact (List.getElem?_eq_some_iff.1 (ixS_get g1)).1
  · obtain ⟨j, x, h1, h2, h3⟩ := h.onto S[p] (List.getElem_mem hp)
    obtain ⟨g1, g2⟩ := h.get j x h1 h2
    refine ⟨j, h1, ?_⟩
    rw [g2, h3]
    exact ixS_of h.nodup (List.getElem?_eq_getElem hp)

/-- What holds ahead of every round: the classes K, c of them. -/
structure MzK (A : List Sta) (K : List Nat) (c : Nat) : Prop where
  like : LikeK A K
  prev : ∀ N, RefK A K N → ∀ i j, i < A.length → j < A.length → N.getD i 0 = N.getD j 0 → K.getD i 0 = K.getD j 0
  lt : ∀ i, K.getD i 0 < 18446744073709551616
  bnd : ∀ i, i < A.length → K.getD i 0 < c
  onto : ∀ p, p < c → ∃ i, i < A.length ∧ K.getD i 0 = p
theorem zero_getD (n i : Nat) : (List.replicate n 0).getD i 0 = 0 := by
  rw [List.getD_eq_getElem?_getD, List.getElem?_replicate]
  split <;> rfl
theorem MzK.start {A : List Sta} (h : 0 < A.length) : MzK A (List.replicate A.length 0) 1 :=
  ⟨fun i j t _ _ => by rw [zero_getD, zero_getD], fun N _ i j _ _ _ => by rw [zero_getD, zero_getD], fun i => by rw [zero_getD]; omega, fun i _ => by rw [zero_getD]; omega, fun p hp => ⟨0, h, by rw [zero_getD]; omega⟩⟩
/-- A round. -/
theorem MzK.step {A : List Sta} {K : List Nat} {c : Nat} {S : List (List UInt8)} {N : List Nat} (h : MzK A K c) (hA : ∀ x ∈ A, ∀ e ∈ x.edges, e.2.toNat < A.length) (hl : A.length ≤ 1048576) (hr : RdK A K A.length S N) :
    MzK A N S.length ∧ c ≤ S.length ∧ S.length ≤ A.length ∧ (S.length = c → ∀ (i j : Nat) (t t' : Trie), Unf A i t → Unf A j t' → N.getD i 0 = N.getD j 0 → t = t') := by
  obtain ⟨h1, h2, h3⟩ := hr.ref
  have hfin := h.prev N h1
  have hSl : S.length ≤ A.length := by
    have hon : ∀ (c : Nat), c ≤ S.length → ∃ M : List Nat, M.length = c ∧ M.Nodup ∧ ∀ v ∈ M, v < A.length ∧ N.getD v 0 < c := fun c => by
      induction c with
      | zero => intro _; exact ⟨[], rfl, List.nodup_nil, by simp⟩
      | succ c ih =>
        intro hc
        obtain ⟨M, m1, m2, m3⟩ := ih (by omega)
        obtain ⟨i, hi, e⟩ := h3 c (by omega)
        refine ⟨i :: M, by simp [m1], List.nodup_cons.2 ⟨fun hm => by have := (m3 i hm).2; omega, m2⟩, fun v hv => ?_⟩
        rcases List.mem_cons.1 hv with rfl | hv
        · exact ⟨hi, by omega⟩
        · have := m3 v hv
          exact ⟨this.1, by omega⟩
    obtain ⟨M, m1, m2, m3⟩ := hon S.length (Nat.le_refl _)
    rw [← m1]
    exact nodup_le A.length M m2 fun v hv => (m3 v hv).1
  have hN : ∀ i, N.getD i 0 < 18446744073709551616 := fun i => by
    by_cases hi : i < A.length
    · have := h2 i hi
      omega
    · rw [List.getD_eq_getElem?_getD, List.getElem?_eq_none (by rw [hr.len]; omega)]
      decide
  refine ⟨⟨h1.like h.like, fun N' h' => h1.finer hN hA h' hfin, hN, h2, h3⟩, onto_le (K := fun i => K.getD i 0) (N := fun i => N.getD i 0) hfin h.onto h2, hSl, fun e i j t t' hi hj he => ?_⟩
  exact stable_trees h1 h.lt (onto_same (K := fun i => K.getD i 0) (N := fun i => N.getD i 0) hfin h.onto (fun i hi => by rw [← e]; exact h2 i hi)) hi hj he
end

section
/-- s is the tree of a state. -/
def InA (A : List Sta) (s : Trie) : Prop := ∃ m, Unf A m s
/-- The classes K tell the trees apart, the class of s is cl s; F has a state of each class. -/
structure ClK (A : List Sta) (K : List Nat) (c : Nat) (F : List Nat) (cl : Trie → Nat) : Prop where
  klen : K.length = A.length
  cls : ∀ i s, Unf A i s → K[i]? = some (cl s)
  inj : ∀ s s', InA A s → InA A s' → cl s = cl s' → s = s'
  lt : ∀ s, InA A s → cl s < c
  flen : F.length = c
  fst : ∀ s, InA A s → ∃ i, F[cl s]? = some i ∧ Unf A i s
/-- The numbers of the classes: the place of their tree in T, -1 if it is not met. -/
structure NQ (A : List Sta) (cl : Trie → Nat) (c : Nat) (T : List Trie) (Q : List Int) : Prop where
  len : Q.length = c
  hit : ∀ s, InA A s → s ∈ T → Q[cl s]? = some (ixT T s : Int)
  miss : ∀ s, InA A s → s ∉ T → Q[cl s]? = some (-1)
theorem NQ.start (A : List Sta) {cl : Trie → Nat} {c : Nat} (h : ∀ s, InA A s → cl s < c) : NQ A cl c [] (List.replicate c (-1)) :=
  ⟨by simp, fun s _ hs => by simp at hs, fun s hs _ => by rw [List.getElem?_replicate, if_pos (h s hs)]⟩
theorem ixT_newN : ∀ {l : List Trie} {t : Trie}, t ∉ l → ixT (l ++ [t]) t = l.length
  | [], t, _ => by simp [ixT]
  | a :: l, t, h => by
    simp only [List.cons_append, ixT, List.length_cons]
    rw [if_neg (fun e => h (by simp [e])), ixT_newN fun hm => h (by simp [hm])]
theorem NQ.set {A : List Sta} {K : List Nat} {c : Nat} {F : List Nat} {cl : Trie → Nat} (hc : ClK A K c F cl) {T : List Trie} {Q : List Int} (h : NQ A cl c T Q) {t : Trie} (ht : InA A t) (hn : t ∉ T) : NQ A cl c (T ++ [t]) (Q.set (cl t) (T.length : Int)) := by
  have hlt : cl t < Q.length := by rw [h.len]; exact hc.lt t ht
  refine ⟨by simpa using h.len, fun s hs hm => ?_, fun s hs hm => ?_⟩
  · by_cases he : s = t
    · subst he
      rw [List.getElem?_set_self hlt, ixT_newN hn]
    · have hm2 : s ∈ T := by
        rcases List.mem_append.1 hm with hm | hm
        · exact hm
        · exact absurd (by simpa using hm) he
      rw [List.getElem?_set_ne (fun e => he (hc.inj s t hs ht e.symm)), ixT_ext hm2]
      exact h.hit s hs hm2
  · have hne : s ≠ t := fun e => hm (by simp [e])
    have hm2 : s ∉ T := fun h => hm (by simp [h])
    rw [List.getElem?_set_ne (fun e => hne (hc.inj s t hs ht e.symm))]
    exact h.miss s hs hm2
/-- The classes of the last round tell the trees apart. -/
theorem ClK.of {A : List Sta} {N : List Nat} {c : Nat} (hlen : N.length = A.length) (hm : MzK A N c) (hst : ∀ (i j : Nat) (t t' : Trie), Unf A i t → Unf A j t' → N.getD i 0 = N.getD j 0 → t = t') {F : List Nat} (hfl : F.length = c)
    (hF : ∀ i, i < A.length → ∃ j, F[N.getD i 0]? = some j ∧ j < A.length ∧ N.getD j 0 = N.getD i 0) (hA : ∀ i, i < A.length → ∃ t, Unf A i t) : ∃ cl, ClK A N c F cl := by
  classical
  let cl : Trie → Nat := fun s => if h : ∃ i, Unf A i s then N.getD h.choose 0 else 0
  have hcl : ∀ i s, Unf A i s → cl s = N.getD i 0 := fun i s hs => by
    have h : ∃ i, Unf A i s := ⟨i, hs⟩
    simp only [cl, dif_pos h]
    exact hm.like _ _ s h.choose_spec hs
  refine ⟨cl, hlen, fun i s hs => ?_, fun s s' hs hs' e => ?_, fun s hs => ?_, hfl, fun s hs => ?_⟩
  · rw [hcl i s hs, List.getD_eq_getElem?_getD, List.getElem?_eq_getElem (by rw [hlen]; exact hs.lt)]; rfl
  · obtain ⟨i, hi⟩ := hs
    obtain ⟨j, hj⟩ := hs'
    rw [hcl i s hi, hcl j s' hj] at e
    exact hst i j s s' hi hj e
  · obtain ⟨i, hi⟩ := hs
    rw [hcl i s hi]
    exact hm.bnd i hi.lt
  · obtain ⟨i, hi⟩ := hs
    rw [hcl i s hi]
    obtain ⟨j, h1, h2, h3⟩ := hF i hi.lt
    obtain ⟨s', hs'⟩ := hA j h2
    obtain rfl := hst j i s' s hs' hi h3
    exact ⟨j, h1, hs'⟩
/-- The first states of the classes, told from the end on. -/
structure FrS (A : List Sta) (N : List Nat) (c i : Nat) (F : List Nat) : Prop where
  len : F.length = c
  fst : ∀ j, i ≤ j → j < A.length → ∃ k, F[N.getD j 0]? = some k ∧ k < A.length ∧ N.getD k 0 = N.getD j 0
theorem FrS.start (A : List Sta) (N : List Nat) (c : Nat) : FrS A N c A.length (List.replicate c 0) := ⟨by simp, fun j h1 h2 => by omega⟩
theorem FrS.step {A : List Sta} {N : List Nat} {c i : Nat} {F : List Nat} (h : FrS A N c (i + 1) F) (hb : ∀ i, i < A.length → N.getD i 0 < c) (hi : i < A.length) : FrS A N c i (F.set (N.getD i 0) i) := by
  refine ⟨by simpa using h.len, fun j h1 h2 => ?_⟩
  by_cases he : N.getD i 0 = N.getD j 0
  · rw [he, List.getElem?_set_self (by rw [h.len]; exact hb j h2)]
    exact ⟨i, rfl, hi, he⟩
  · rw [List.getElem?_set_ne he]
    exact h.fst j (by
      have : j ≠ i := fun e => he (by rw [e])
      omega) h2
/-- What is met is of the automaton. -/
theorem layE_inA {A : List Sta} {t : Trie} {T : List Trie} (ht : InA A t) (hT : ∀ s ∈ T, InA A s) : ∀ s ∈ (layE t T).1, InA A s := by
  obtain ⟨m, x, hx, hu⟩ := ht
  exact layE_sub T hu hT
/-- A tree is met: what is met then, the states laid, its number. -/
def numS (t : Trie) (T : List Trie) : List Trie × List Sta × Nat := if t ∈ T then (T, [], ixT T t) else ((layE t (T ++ [t])).1, ⟨t.final, (layE t (T ++ [t])).2.2⟩ :: (layE t (T ++ [t])).2.1, T.length)
theorem numS_hit {t : Trie} {T : List Trie} (h : t ∈ T) : numS t T = (T, [], ixT T t) := by unfold numS; rw [if_pos h]
theorem numS_new {t : Trie} {T : List Trie} (h : t ∉ T) : numS t T = ((layE t (T ++ [t])).1, ⟨t.final, (layE t (T ++ [t])).2.2⟩ :: (layE t (T ++ [t])).2.1, T.length) := by unfold numS; rw [if_neg h]
theorem layE_edge (b : UInt8) (c r : Trie) (T : List Trie) : layE (.edge b c r) T = ((layE r (numS c T).1).1, (numS c T).2.1 ++ (layE r (numS c T).1).2.1, (b, ((numS c T).2.2 : Int)) :: (layE r (numS c T).1).2.2) := by
  by_cases h : c ∈ T
  · rw [layE_old h, numS_hit h]; simp
  · rw [layE_new h, numS_new h]
theorem numS_in {A : List Sta} {t : Trie} {T : List Trie} (ht : InA A t) (hT : ∀ s ∈ T, InA A s) (hn : T.Nodup) : (∀ s ∈ (numS t T).1, InA A s) ∧ (numS t T).1.Nodup ∧ (numS t T).1.length = T.length + (numS t T).2.1.length := by
  by_cases h : t ∈ T
  · rw [numS_hit h]; exact ⟨hT, hn, rfl⟩
  · rw [numS_new h]
    obtain ⟨Us, q⟩ := layE_spec t (T ++ [t])
    refine ⟨layE_inA ht fun s hs => ?_, q.nodup (List.nodup_append.2 ⟨hn, by simp, fun a ha b hb e => by rw [List.mem_singleton] at hb; subst hb; subst e; exact h ha⟩), ?_⟩
    · rcases List.mem_append.1 hs with hs | hs
      · exact hT s hs
      · rw [List.mem_singleton] at hs; subst hs; exact ht
    · rw [q.eq]
      simp [q.len]
      try omega
end
end Go.Proofs.Ytcbdncjknpdnbaa
