/- What the builder of automata makes of rising words: the least automaton of their tree, whose words they are; no program. -/
import Derived.Test.YtcbdncjknpdnbaaDawgT
import Derived.Test.YtcbdncjknpdnbaaMinPl
import Derived.Test.YtcbdncjknpdnbaaWkOrdP
namespace Go.Proofs.Ytcbdncjknpdnbaa

/-! ### The numbering -/

/-- The places of the trees met. -/
def plN (S T : List Trie) : List (Nat × Nat) := T.map fun u => (clsT S u, ixT T u)
theorem plN_new {S T : List Trie} {t : Trie} (h : t ∉ T) : plN S (T ++ [t]) = plN S T ++ [(clsT S t, T.length)] := by
  unfold plN
  rw [List.map_append]
  congr 1
  · exact List.map_congr_left fun u hu => by rw [ixT_ext hu]
  · simp only [List.map_cons, List.map_nil]
    rw [ixT_newN h]
theorem plN_hit {S T : List Trie} {t : Trie} (hS : ∀ u ∈ T, u ∈ S) (ht : t ∈ T) : lookN (plN S T) (clsT S t) = some (ixT T t) := by
  cases h : lookN (plN S T) (clsT S t) with
  | none => exact absurd rfl (lookN_none h (clsT S t, ixT T t) (List.mem_map.2 ⟨t, ht, rfl⟩))
  | some o =>
    obtain ⟨u, hu, e⟩ := List.mem_map.1 (lookN_some h)
    simp only [Prod.mk.injEq] at e
    have := clsT_inj (hS u hu) (hS t ht) e.1
    rw [← e.2, this]
theorem plN_miss {S T : List Trie} {t : Trie} (hS : ∀ u ∈ T, u ∈ S) (hs : t ∈ S) (ht : t ∉ T) : lookN (plN S T) (clsT S t) = none := by
  cases h : lookN (plN S T) (clsT S t) with
  | none => rfl
  | some o =>
    obtain ⟨u, hu, e⟩ := List.mem_map.1 (lookN_some h)
    simp only [Prod.mk.injEq] at e
    have := clsT_inj (hS u hu) hs e.1
    exact absurd (this ▸ hu) ht
theorem layE_inS {S : List Trie} (hc : ClosedT S) : ∀ (t : Trie) (T : List Trie), (∀ c ∈ kids t, c ∈ S) → (∀ s ∈ T, s ∈ S) → ∀ s ∈ (layE t T).1, s ∈ S
  | .fin _, T, _, h => by simpa [layE] using h
  | .edge b c r, T, hk, h => by
    have h1 : c ∈ S := hk c (by simp [kids])
    by_cases hm : c ∈ T
    · rw [layE_old hm]
      exact layE_inS hc r T (fun d hd => hk d (by simp [kids, hd])) h
    · rw [layE_new hm]
      refine layE_inS hc r _ (fun d hd => hk d (by simp [kids, hd])) (layE_inS hc c _ (hc c h1) fun s hs => ?_)
      rcases List.mem_append.1 hs with hs | hs
      · exact h s hs
      · rw [List.mem_singleton] at hs; subst hs; exact h1
theorem numS_inS {S : List Trie} (hc : ClosedT S) {t : Trie} {T : List Trie} (ht : t ∈ S) (hT : ∀ s ∈ T, s ∈ S) : ∀ s ∈ (numS t T).1, s ∈ S := by
  by_cases h : t ∈ T
  · rw [numS_hit h]; exact hT
  · rw [numS_new h]
    refine layE_inS hc t _ (hc t ht) fun s hs => ?_
    rcases List.mem_append.1 hs with hs | hs
    · exact hT s hs
    · rw [List.mem_singleton] at hs; subst hs; exact ht
theorem numS_len (t : Trie) (T : List Trie) : (numS t T).1.length = T.length + (numS t T).2.1.length := by
  by_cases h : t ∈ T
  · rw [numS_hit h]; rfl
  · rw [numS_new h]
    obtain ⟨Us, q⟩ := layE_spec t (T ++ [t])
    rw [q.eq]
    simp [q.len]
    try omega
theorem numE_tree {s : Fz} {S : List Trie} {k : Nat} (hc : ClosedT S)
    (hrec : ∀ (t : Trie) (q : NdKey) (n : Nat) (T : List Trie) (xs : List Sta), t ∈ S → s.known[ixT S t]? = some (q, n) → htT t < k → (∀ u ∈ T, u ∈ S) → xs.length = T.length → numN s.N k (xs, plN S T) n = some ((xs ++ (numS t T).2.1, plN S (numS t T).1), (numS t T).2.2)) :
    ∀ {t : Trie} {f : Bool} {es : List (UInt8 × Nat)} (T : List Trie) (xs : List Sta) (ed : List Ed), EdF s.known S t f es → htT t ≤ k → (∀ u ∈ T, u ∈ S) → xs.length = T.length →
      numE (numN s.N k) es ((xs, plN S T), ed) = some ((xs ++ (layE t T).2.1, plN S (layE t T).1), ed ++ (layE t T).2.2)
  | .fin _, f, es, T, xs, ed, h, _, _, _ => by
    obtain ⟨rfl, _⟩ := h
    simp [numE, layE]
  | .edge b c r, f, es, T, xs, ed, h, hk, hT, hx => by
    obtain ⟨n, es', q, rfl, h2, h3, h4⟩ := h
    simp only [htT] at hk
    have h5 := hrec c q n T xs h2 h3 (by omega) hT hx
    simp only [numE]
    rw [h5]
    dsimp only
    have hl := numS_len c T
    rw [numE_tree hc hrec _ _ _ h4 (by omega) (numS_inS hc h2 hT) (by rw [List.length_append, hl]; omega), layE_edge]
    simp
theorem numN_tree {s : Fz} {S : List Trie} (h : FrI s S) : ∀ (k : Nat) (t : Trie) (q : NdKey) (n : Nat) (T : List Trie) (xs : List Sta), t ∈ S → s.known[ixT S t]? = some (q, n) → htT t < k → (∀ u ∈ T, u ∈ S) → xs.length = T.length →
    numN s.N k (xs, plN S T) n = some ((xs ++ (numS t T).2.1, plN S (numS t T).1), (numS t T).2.2)
  | 0, t, q, n, T, xs, _, _, hk, _, _ => absurd hk (Nat.not_lt_zero _)
  | k + 1, t, q, n, T, xs, ht, hn, hk, hT, hx => by
    obtain ⟨g1, g2, t', g3, g4, _⟩ := h.kn _ _ _ hn
    rw [ixT_get ht] at g3
    cases g3
    have hid : (nodeAt s.N n).id = clsT S t := g2
    simp only [numN]
    rw [hid]
    by_cases hm : t ∈ T
    · rw [plN_hit hT hm, numS_hit hm]
      simp
    · rw [plN_miss hT ht hm, numS_new hm]
      dsimp only
      have hx2 : (xs ++ [(⟨(nodeAt s.N n).final, []⟩ : Sta)], plN S T ++ [(clsT S t, xs.length)]) = (xs ++ [(⟨(nodeAt s.N n).final, []⟩ : Sta)], plN S (T ++ [t])) := by rw [hx, plN_new hm]
      rw [hx2]
      have hT2 : ∀ u ∈ T ++ [t], u ∈ S := fun u hu => by
        rcases List.mem_append.1 hu with hu | hu
        · exact hT u hu
        · rw [List.mem_singleton] at hu; subst hu; exact ht
      rw [numE_tree h.closed (fun t q n T xs a b c d e => numN_tree h k t q n T xs a b c d e) (T ++ [t]) (xs ++ [(⟨(nodeAt s.N n).final, []⟩ : Sta)]) [] g4 (by omega) hT2 (by simp [hx])]
      dsimp only
      rw [← g4.final, List.nil_append, ← hx]
      simp
theorem htT_frozen {s : Fz} {S : List Trie} (h : FrI s S) {t : Trie} (ht : t ∈ S) : htT t < S.length := by
  -- the heights below it are all of trees of S
  have key : ∀ (k : Nat) (t : Trie), t ∈ S → htT t < k → ∀ j, j ≤ htT t → ∃ u ∈ S, htT u = j := by
    intro k
    induction k with
    | zero => intro t _ hk; omega
    | succ k ih =>
      intro t ht hk j hj
      by_cases he : j = htT t
      · exact ⟨t, ht, he.symm⟩
      · have hkid : ∀ (t : Trie), j < htT t → ∃ c ∈ kids t, j ≤ htT c ∧ htT c < htT t := by
          intro t
          induction t with
          | fin f => intro h; simp [htT] at h
          | edge b c r _ ihr =>
            intro h
            simp only [htT] at h ⊢
            by_cases h1 : j ≤ htT c
            · exact ⟨c, by simp [kids], h1, by omega⟩
            · obtain ⟨d, d1, d2, d3⟩ := ihr (by omega)
              exact ⟨d, by simp [kids, d1], d2, by omega⟩
        obtain ⟨c, c1, c2, c3⟩ := hkid t (by omega)
        exact ih c (h.closed t ht c c1) (by omega) j c2
  have h2 : ∀ j, j ≤ htT t → ∃ i, ∃ u, S[i]? = some u ∧ htT u = j := fun j hj => by
    obtain ⟨u, hu, e⟩ := key (htT t + 1) t ht (Nat.lt_succ_self _) j hj
    obtain ⟨i, hi⟩ := List.getElem?_of_mem hu
    exact ⟨i, u, hi, e⟩
  let g : Nat → Nat := fun j => if hj : j ≤ htT t then (h2 j hj).choose else 0
  have hg : ∀ j, j ≤ htT t → ∃ u, S[g j]? = some u ∧ htT u = j := fun j hj => by
    simp only [g, dif_pos hj]
    exact (h2 j hj).choose_spec
  have hnd : ((List.range (htT t + 1)).map g).Nodup := by
    rw [List.Nodup, List.pairwise_map]
    refine (List.pairwise_lt_range (n := htT t + 1)).imp_of_mem ?_
    intro a b ha hb hab e
    rw [List.mem_range] at ha hb
    obtain ⟨ua, u1, v1⟩ := hg a (by omega)
    obtain ⟨ub, u2, v2⟩ := hg b (by omega)
    rw [e, u2] at u1
    cases u1
    omega
  have h3 := nodup_le S.length _ hnd fun x hx => by
    obtain ⟨k, hk, rfl⟩ := List.mem_map.1 hx
    rw [List.mem_range] at hk
    obtain ⟨u, hu, _⟩ := hg k (by omega)
    exact (List.getElem?_eq_some_iff.1 hu).1
  simp at h3
  omega
theorem known_le {s : Fz} {S : List Trie} (h : FrI s S) : S.length ≤ s.N.length := by
  have hnd : (s.known.map (·.2)).Nodup := by
    rw [List.Nodup, List.pairwise_map, List.pairwise_iff_getElem]
    intro i j hi hj hij e
    have h1 := (h.kn i s.known[i].1 s.known[i].2 (List.getElem?_eq_getElem hi)).2.1
    have h2 := (h.kn j s.known[j].1 s.known[j].2 (List.getElem?_eq_getElem hj)).2.1
    rw [e] at h1
    omega
  have := nodup_le s.N.length _ hnd fun v hv => by
    obtain ⟨p, hp, rfl⟩ := List.mem_map.1 hv
    obtain ⟨j, hj⟩ := List.getElem?_of_mem hp
    exact (h.kn j p.1 p.2 hj).1
  rw [h.len]
  simpa using this
/-- The frozen root, numbered. -/
theorem numberP_tree {s : Fz} {S : List Trie} (h : FrI s S) {t : Trie} (ht : t ∈ S) {q : NdKey} {n : Nat} (hn : s.known[ixT S t]? = some (q, n)) : numberP s n = some (minT t) := by
  unfold numberP
  have h1 := htT_frozen h ht
  have h2 := known_le h
  have h3 := numN_tree h (s.N.length + 1) t q n [] [] ht hn (by omega) (by simp) rfl
  rw [show plN S [] = [] from rfl, numS_new (by simp)] at h3
  rw [h3]
  simp [minT]

/-! ### Rising words -/

theorem lt_common : ∀ {a b : List UInt8}, LtW a b → commonL b a < b.length
  | [], [], h => by rw [LtW, bl_nil] at h; cases h
  | [], y :: b, _ => by simp [commonL]
  | x :: a, [], h => by rw [LtW, bl_nil] at h; cases h
  | x :: a, y :: b, h => by
    simp only [commonL]
    by_cases hxy : y = x
    · subst hxy
      rw [if_pos rfl]
      rw [LtW, bl_cons] at h
      have := lt_common h
      simp only [List.length_cons]
      omega
    · rw [if_neg hxy]; simp
theorem fold_invP : ∀ (L : List (List UInt8)) (b : Bd), (∀ r ∈ L, r.length ≤ 255) → BInv b → b.last.length ≤ 255 →
    BInv (L.foldl addP b) ∧ (L.foldl addP b).f.N.length ≤ b.f.N.length + 255 * L.length ∧ (L.foldl addP b).f.known.length ≤ b.f.known.length + 255 * L.length ∧ (L.foldl addP b).last.length ≤ 255
  | [], b, _, h, hl => ⟨h, by simp, by simp, hl⟩
  | w :: L, b, hL, h, hl => by
    obtain ⟨h1, h2, h3⟩ := addP_inv h w
    have hw := hL w (by simp)
    obtain ⟨i1, i2, i3, i4⟩ := fold_invP L (addP b w) (fun r hr => hL r (by simp [hr])) h1 hw
    refine ⟨i1, ?_, ?_, i4⟩
    · rw [List.foldl_cons, List.length_cons]; omega
    · rw [List.foldl_cons, List.length_cons]; omega
theorem fold_T : ∀ (L : List (List UInt8)) (b : Bd) (T : Trie), (∀ r ∈ L, r.length ≤ 255) → BInv b → b.last.length ≤ 255 → b.f.known.length + 255 * L.length + 255 < 18446744073709551616 → BdT' b T → (b.last = [] ∨ ∀ w ∈ L, LtW b.last w) → RisesL L → BdT' (L.foldl addP b) (L.foldl insW T)
  | [], b, T, _, _, _, _, h, _, _ => h
  | w :: L, b, T, hL, hI, hbl, hk, h, hlt, hr => by
    simp only [List.length_cons] at hk
    obtain ⟨h1, h2, h3⟩ := addP_inv hI w
    have hw := hL w (by simp)
    refine fold_T L (addP b w) (insW T w) (fun r hr => hL r (by simp [hr])) h1 hw (by omega) (addP_T h w ?_ (by omega)) (.inr fun u hu => (List.pairwise_cons.1 hr).1 u hu) (List.pairwise_cons.1 hr).2
    rcases hlt with h5 | h5
    · exact .inr h5
    · exact .inl (lt_common (h5 w (by simp)))
/-- The builder makes the least automaton of the words' tree. -/
theorem build_tree {L : List (List UInt8)} (hL : ∀ r ∈ L, r.length ≤ 255) (hn : L.length ≤ 1073741824) (hr : RisesL L) : buildP L = some (minT (setT L)) := by
  obtain ⟨hI1, hI2, hI3, hI4⟩ := fold_invP L freshB hL freshB_inv (by decide)
  have hf2 : freshB.f.known.length = 0 := rfl
  rw [hf2] at hI3
  obtain ⟨S, fs, f, hp, hlast, hT⟩ := fold_T L freshB (.fin false) hL freshB_inv (by decide) (by have : freshB.f.known.length = 0 := rfl; omega) freshB_T (.inl rfl) hr
  have hll : (L.foldl addP freshB).last.length = fs.length := by rw [hlast]; simp
  obtain ⟨S1, h1⟩ := PtI.cut 0 (L.foldl addP freshB).last.length hp (by omega) (by omega)
  rw [List.take_zero, List.drop_zero] at h1
  obtain ⟨x, hx, hB⟩ := h1.base
  rw [List.length_nil] at hx
  have hx0 : (L.foldl addP freshB).path.getD 0 0 = x := by
    rw [List.getElem?_take_of_lt (by omega)] at hx
    rw [List.getD_eq_getElem?_getD, hx]; rfl
  have hkn : (cutL (L.foldl addP freshB).path 0 (L.foldl addP freshB).last.length (L.foldl addP freshB).f).known.length < 18446744073709551616 := by
    have h9 := (cutL_inv (path := (L.foldl addP freshB).path) (n := 0) (L.foldl addP freshB).last.length (L.foldl addP freshB).f hI1.f (getD_lt hI1.pin hI1.pos)).2.2
    omega
  obtain ⟨S2, k, g1, g2, g3, g4, g5, _⟩ := freezeP_tree h1.fr hkn (h1.lt x (List.mem_of_getElem? hx)) (fun k hk e => h1.kn k hk (e ▸ List.mem_of_getElem? hx)) hB
  unfold buildP rootP
  dsimp only
  rw [hx0]
  have h10 := numberP_tree g1 g4 g5
  rw [← hT] at h10
  exact h10

/-! ### The words of the tree -/

theorem has_word : ∀ {t : Trie} {p : Int}, okE False t p → t ≠ .fin false → ∃ u, u ∈ wT t []
  | .fin f, _, _, h => by
    cases f with
    | false => exact absurd rfl h
    | true => exact ⟨[], by simp [wT, headL, Trie.final]⟩
  | .edge b c r, p, h, _ => by
    obtain ⟨u, hu⟩ := has_word h.2.2.1 (h.2.1.resolve_right fun h => h)
    refine ⟨b :: u, ?_⟩
    unfold wT
    rw [lE_some (nextF_nil b)]
    simp [hu]
theorem lE_edge (b : UInt8) (c r : Trie) : lE (.edge b c r) [] = (wT c []).map (b :: ·) ++ lE r [] := lE_some (nextF_nil b)
theorem wT_newT : ∀ (w : List UInt8), wT (newT w) [] = [w]
  | [] => rfl
  | c :: w => by
    unfold wT
    rw [newT, lE_edge, wT_newT w]
    simp [headL, Trie.final, lE]
theorem newT_ok : ∀ (w : List UInt8), okE False (newT w) (-1) ∧ newT w ≠ .fin false
  | [] => ⟨trivial, by simp [newT]⟩
  | c :: w => by
    obtain ⟨h1, h2⟩ := newT_ok w
    exact ⟨⟨by omega, .inl h2, h1, trivial⟩, by simp [newT]⟩
theorem insW_ne (T : Trie) (w : List UInt8) : insW T w ≠ .fin false := by
  cases T with
  | fin f => cases w <;> simp [insW, addW, markT, snocT]
  | edge b c r =>
    cases r with
    | fin f =>
      cases w with
      | nil => simp [insW]
      | cons x w => simp only [insW]; split <;> simp
    | edge b' c' r' => simp [insW]
theorem bl_le {x y : UInt8} {a b : List UInt8} (h : LtW (x :: a) (y :: b)) : x.toNat ≤ y.toNat := by
  apply Classical.byContradiction
  intro hn
  rw [LtW, bl_gt (by omega)] at h
  cases h
theorem insW_words : ∀ (T : Trie) (x : UInt8) (w : List UInt8) {p : Int}, okE False T p → p < x.toNat → (∀ u ∈ lE T [], LtW u (x :: w)) →
    lE (insW T (x :: w)) [] = lE T [] ++ [x :: w] ∧ okE False (insW T (x :: w)) p ∧ (insW T (x :: w)).final = T.final
  | .fin f, x, w, p, _, hp, _ => by
    refine ⟨?_, ⟨hp, .inl (newT_ok w).2, (newT_ok w).1, trivial⟩, rfl⟩
    show lE (.edge x (newT w) (.fin f)) [] = _
    rw [lE_edge, wT_newT]
    simp [lE]
  | .edge b c (.fin f), x, w, p, hk, hp, hl => by
    have hc0 := hk.2.1.resolve_right fun h => h
    rw [lE_edge] at hl
    simp only [insW]
    by_cases hbx : b = x
    · subst hbx
      rw [if_pos rfl]
      have hcl : ∀ u ∈ wT c [], LtW u w := fun u hu => by
        have := hl (b :: u) (by simp [hu])
        rwa [LtW, bl_cons] at this
      have h1 : wT (insW c w) [] = wT c [] ++ [w] ∧ okE False (insW c w) (-1) := by
        cases w with
        | nil =>
          obtain ⟨u, hu⟩ := has_word hk.2.2.1 hc0
          have := hcl u hu
          rw [LtW, bl_nil] at this
          cases this
        | cons y w =>
          obtain ⟨i1, i2, i3⟩ := insW_words c y w hk.2.2.1 (by omega) fun u hu => hcl u (by unfold wT; simp [hu])
          refine ⟨?_, i2⟩
          unfold wT
          rw [i1]
          unfold headL
          rw [i3, List.append_assoc]
      refine ⟨?_, ⟨hk.1, .inl (insW_ne _ _), h1.2, trivial⟩, rfl⟩
      rw [lE_edge, lE_edge, h1.1]
      simp [lE]
    · rw [if_neg hbx]
      obtain ⟨u, hu⟩ := has_word hk.2.2.1 hc0
      have hle := bl_le (hl (b :: u) (by simp [hu]))
      have hne : b.toNat ≠ x.toNat := fun e => hbx (UInt8.toNat_inj.1 e)
      refine ⟨?_, ⟨hk.1, hk.2.1, hk.2.2.1, by omega, .inl (newT_ok w).2, (newT_ok w).1, trivial⟩, rfl⟩
      rw [lE_edge, lE_edge, lE_edge, wT_newT]
      simp [lE]
  | .edge b c (.edge b' c' r'), x, w, p, hk, hp, hl => by
    rw [lE_edge] at hl
    have hc0' := hk.2.2.2.2.1.resolve_right fun h => h
    obtain ⟨u, hu⟩ := has_word hk.2.2.2.2.2.1 hc0'
    have hle := bl_le (hl (b' :: u) (by rw [lE_edge]; simp [hu]))
    have hb := hk.2.2.2.1
    obtain ⟨i1, i2, i3⟩ := insW_words (.edge b' c' r') x w hk.2.2.2 (by omega) fun u hu => hl u (by simp [hu])
    refine ⟨?_, ⟨hk.1, hk.2.1, hk.2.2.1, i2⟩, i3⟩
    show lE (.edge b c (insW (.edge b' c' r') (x :: w))) [] = _
    rw [lE_edge, i1, lE_edge b c, List.append_assoc]
theorem insW_wT {T : Trie} (hk : Good T) (w : List UInt8) (hl : ∀ u ∈ wT T [], LtW u w) : wT (insW T w) [] = wT T [] ++ [w] ∧ Good (insW T w) := by
  cases w with
  | cons x w =>
    obtain ⟨i1, i2, i3⟩ := insW_words T x w hk (by omega) fun u hu => hl u (by unfold wT; simp [hu])
    refine ⟨?_, i2⟩
    unfold wT
    rw [i1]
    unfold headL
    rw [i3, List.append_assoc]
  | nil =>
    have hT : T = .fin false := Classical.byContradiction fun h => by
      obtain ⟨u, hu⟩ := has_word hk h
      have := hl u hu
      rw [LtW, bl_nil] at this
      cases this
    subst hT
    exact ⟨rfl, trivial⟩
theorem fold_words : ∀ (L : List (List UInt8)) (T : Trie), Good T → RisesL (wT T [] ++ L) → wT (L.foldl insW T) [] = wT T [] ++ L ∧ Good (L.foldl insW T)
  | [], T, h, _ => ⟨by simp, h⟩
  | w :: L, T, h, hr => by
    obtain ⟨h1, h2⟩ := insW_wT h w fun u hu => (List.pairwise_append.1 hr).2.2 u hu w (by simp)
    obtain ⟨h3, h4⟩ := fold_words L (insW T w) h2 (by rw [h1, List.append_assoc]; exact hr)
    exact ⟨by rw [List.foldl_cons, h3, h1, List.append_assoc]; rfl, h4⟩
/-- The words of the tree of rising words are these. -/
theorem setT_words {L : List (List UInt8)} (hr : RisesL L) : wT (setT L) [] = L ∧ Good (setT L) := by
  have := fold_words L (.fin false) trivial (by rw [show wT (.fin false) [] = [] from rfl]; exact hr)
  have e0 : wT (.fin false) [] = [] := rfl
  rw [e0, List.nil_append] at this
  exact this
end Go.Proofs.Ytcbdncjknpdnbaa
