/- Trees: how many words, how high; no program. -/
import Derived.Test.YthjkfiniafblbaaTrie
namespace Go.Proofs.Ythjkfiniafblbaa

/-- How many words lead on. -/
def cntT : Trie → Nat
  | .fin f => if f then 1 else 0
  | .edge _ t r => cntT t + cntT r
/-- How high. -/
def htT : Trie → Nat
  | .fin _ => 0
  | .edge _ t r => max (htT t + 1) (htT r)
def capN (n : Nat) : Nat := min n 1099511627777
theorem capN_le (n : Nat) : capN n ≤ 1099511627777 := Nat.min_le_right _ _
theorem capN_add (a b : Nat) : capN (capN a + b) = capN (a + b) := by unfold capN; omega
theorem capN_add' (a b : Nat) : capN (a + capN b) = capN (a + b) := by unfold capN; omega
/-- The edges' words, each child's cut. -/
def uE : Trie → Nat
  | .fin _ => 0
  | .edge _ t r => capN (cntT t) + uE r
def finN (f : Bool) : Nat := if f then 1 else 0
theorem capN_uE : ∀ (t : Trie), capN (finN t.final + uE t) = capN (cntT t)
  | .fin f => by cases f <;> rfl
  | .edge b c r => by
    have h := capN_uE r
    simp only [Trie.final, uE, cntT]
    have e1 : finN r.final + (capN (cntT c) + uE r) = capN (cntT c) + (finN r.final + uE r) := by omega
    rw [e1, capN_add, ← capN_add', h, capN_add']
theorem uE_le {A : List Sta} : ∀ {t : Trie} {f : Bool} {es : List Ed}, UnfE A t f es → uE t ≤ es.length * 1099511627777
  | .fin _, _, _, _ => by simp [uE]
  | .edge b c r, f, es, h => by
    obtain ⟨m, es', rfl, _, hr⟩ := h
    have := uE_le hr
    have := capN_le (cntT c)
    simp only [uE, List.length_cons, Nat.add_mul]
    omega
/-- What the j-th edge leads to, and what is behind it. -/
theorem UnfE.drop {A : List Sta} : ∀ {t : Trie} {f : Bool} {es : List Ed}, UnfE A t f es → ∀ j, j ≤ es.length → ∃ t', UnfE A t' f (es.drop j)
  | t, f, es, h, 0, _ => ⟨t, h⟩
  | .fin _, f, es, h, j + 1, hj => by obtain ⟨rfl, _⟩ := h; simp at hj
  | .edge b c r, f, es, h, j + 1, hj => by
    obtain ⟨m, es', rfl, _, hr⟩ := h
    exact UnfE.drop hr j (by simpa using hj)
theorem UnfE.cons {A : List Sta} {t : Trie} {f : Bool} {e : Ed} {es : List Ed} (h : UnfE A t f (e :: es)) : ∃ c r, t = .edge e.1 c r ∧ 0 ≤ e.2 ∧ Unf A e.2.toNat c ∧ UnfE A r f es := by
  cases t with
  | fin g => obtain ⟨h1, _⟩ := h; cases h1
  | edge b c r =>
    obtain ⟨m, es', h1, ⟨x, hm, hx, hc⟩, hr⟩ := h
    simp only [List.cons.injEq] at h1
    obtain ⟨rfl, rfl⟩ := h1
    exact ⟨c, r, rfl, hm, ⟨x, hx, hc⟩, hr⟩
theorem UnfE.nil {A : List Sta} {t : Trie} {f : Bool} (h : UnfE A t f []) : t = .fin f := by
  cases t with
  | fin g => obtain ⟨_, rfl⟩ := h; rfl
  | edge b c r => obtain ⟨m, es', h1, _⟩ := h; cases h1
theorem UnfE.mem {A : List Sta} : ∀ {t : Trie} {f : Bool} {es : List Ed}, UnfE A t f es → ∀ e ∈ es, ∃ c, 0 ≤ e.2 ∧ Unf A e.2.toNat c ∧ htT c + 1 ≤ htT t
  | .fin _, f, es, h, e, he => by obtain ⟨rfl, _⟩ := h; cases he
  | .edge b c r, f, es, h, e, he => by
    obtain ⟨m, es', rfl, ⟨x, hm, hx, hc⟩, hr⟩ := h
    rcases List.mem_cons.1 he with rfl | he
    · exact ⟨c, hm, ⟨x, hx, hc⟩, Nat.le_max_left _ _⟩
    · obtain ⟨c', h1, h2, h3⟩ := UnfE.mem hr e he
      exact ⟨c', h1, h2, Nat.le_trans h3 (Nat.le_max_right _ _)⟩
theorem Gets.trans {A : List Sta} {a b c : Nat} (h : Gets A a b) (k : Gets A b c) : Gets A a c := by
  induction h with
  | refl => exact k
  | edge hx he h0 _ ih => exact .edge hx he h0 (ih k)
/-- Where the highest way begins. -/
theorem UnfE.high {A : List Sta} : ∀ {t : Trie} {f : Bool} {es : List Ed}, UnfE A t f es → ∀ h, h < htT t → ∃ e ∈ es, ∃ c, 0 ≤ e.2 ∧ Unf A e.2.toNat c ∧ h ≤ htT c ∧ htT c < htT t
  | .fin _, f, es, _, h, hh => by simp [htT] at hh
  | .edge b c r, f, es, hu, h, hh => by
    obtain ⟨m, es', rfl, ⟨x, hm, hx, hc⟩, hr⟩ := hu
    simp only [htT] at hh ⊢
    by_cases h1 : h ≤ htT c
    · exact ⟨(b, m), by simp, c, hm, ⟨x, hx, hc⟩, h1, by omega⟩
    · obtain ⟨e, he, c', h2, h3, h4, h5⟩ := UnfE.high hr h (by omega)
      exact ⟨e, by simp [he], c', h2, h3, h4, by omega⟩
theorem all_heights {A : List Sta} : ∀ (k : Nat) {n : Nat} {t : Trie}, Unf A n t → htT t < k → ∀ h, h ≤ htT t → ∃ j t', Unf A j t' ∧ htT t' = h
  | 0, _, _, _, hk, _, _ => absurd hk (Nat.not_lt_zero _)
  | k + 1, n, t, hu, hk, h, hh => by
    by_cases he : h = htT t
    · exact ⟨n, t, hu, he.symm⟩
    · obtain ⟨x, hx, hx2⟩ := hu
      obtain ⟨e, _, c, _, hc, h1, h2⟩ := hx2.high h (by omega)
      exact all_heights k hc (by omega) h h1
theorem nodup_le : ∀ (n : Nat) (l : List Nat), l.Nodup → (∀ x ∈ l, x < n) → l.length ≤ n
  | 0, l, _, h => by
    cases l with
    | nil => simp
    | cons a l => exact absurd (h a (by simp)) (Nat.not_lt_zero _)
  | n + 1, l, hn, h => by
    by_cases hm : n ∈ l
    · have h1 := nodup_le n (l.erase n) (hn.erase n) fun x hx => by
        have h2 := h x (List.mem_of_mem_erase hx)
        have h3 : x ≠ n := fun e => by
          subst e
          exact (List.Nodup.not_mem_erase hn) hx
        omega
      rw [List.length_erase_of_mem hm] at h1
      omega
    · have h1 := nodup_le n l hn fun x hx => by
        have h2 := h x hx
        have h3 : x ≠ n := fun e => hm (e ▸ hx)
        omega
      omega
/-- No way is longer than there are states. -/
theorem htT_lt {A : List Sta} {n : Nat} {t : Trie} (h : Unf A n t) : htT t < A.length := by
  have h1 := all_heights (htT t + 1) h (Nat.lt_succ_self _)
  have h2 : ∀ k, k ≤ htT t → ∃ j, (∃ t', Unf A j t' ∧ htT t' = k) := fun k hk => by
    obtain ⟨j, t', h3⟩ := h1 k hk
    exact ⟨j, t', h3⟩
  let g : Nat → Nat := fun k => if hk : k ≤ htT t then Classical.choose (h2 k hk) else 0
  have hg : ∀ k, k ≤ htT t → ∃ t', Unf A (g k) t' ∧ htT t' = k := fun k hk => by
    simp only [g, dif_pos hk]
    exact Classical.choose_spec (h2 k hk)
  have hnd : ((List.range (htT t + 1)).map g).Nodup := by
    rw [List.Nodup, List.pairwise_map]
    refine (List.pairwise_lt_range (n := htT t + 1)).imp_of_mem ?_
    intro a b ha hb hab e
    rw [List.mem_range] at ha hb
    obtain ⟨ta, u1, v1⟩ := hg a (by omega)
    obtain ⟨tb, u2, v2⟩ := hg b (by omega)
    rw [e] at u1
    have := u1.uniq u2
    subst this
    omega
  have h3 := nodup_le A.length _ hnd fun x hx => by
    obtain ⟨k, hk, rfl⟩ := List.mem_map.1 hx
    rw [List.mem_range] at hk
    obtain ⟨t', u, _⟩ := hg k (by omega)
    exact u.lt
  simp at h3
  omega
/-- The table's entry of j is what it shall be. -/
def GoodC (A : List Sta) (F : Trie → Int) (cs : List Int) (j : Nat) : Prop := ∃ t, Unf A j t ∧ cs[j]? = some (F t)
/-- What is filled in is right, and so is all that is behind it. -/
structure CInv (A : List Sta) (F : Trie → Int) (z : Int) (cs : List Int) : Prop where
  len : cs.length = A.length
  ok : ∀ i v, cs[i]? = some v → v ≠ z → ∀ j, Gets A i j → GoodC A F cs j
theorem GoodC.val {A : List Sta} {F : Trie → Int} {cs : List Int} {j : Nat} {t : Trie} (h : GoodC A F cs j) (hu : Unf A j t) : cs[j]? = some (F t) := by
  obtain ⟨t', u, e⟩ := h
  rw [hu.uniq u]; exact e
theorem GoodC.set {A : List Sta} {F : Trie → Int} {cs : List Int} {j n : Nat} {t : Trie} (h : GoodC A F cs j) (hn : Unf A n t) (hl : cs.length = A.length) : GoodC A F (cs.set n (F t)) j := by
  have hlt : n < cs.length := by rw [hl]; exact hn.lt
  by_cases he : n = j
  · subst he; exact ⟨t, hn, by simp [hlt]⟩
  · obtain ⟨t', u, e⟩ := h
    exact ⟨t', u, by rw [List.getElem?_set_ne he]; exact e⟩
theorem CInv.set {A : List Sta} {F : Trie → Int} {z : Int} {cs : List Int} {n : Nat} {t : Trie} {x : Sta} (h : CInv A F z cs) (hn : Unf A n t) (hx : A[n]? = some x) (hall : ∀ e ∈ x.edges, ∀ i, Gets A e.2.toNat i → GoodC A F cs i) :
    CInv A F z (cs.set n (F t)) ∧ (∀ j, GoodC A F cs j → GoodC A F (cs.set n (F t)) j) ∧ ∀ j, Gets A n j → GoodC A F (cs.set n (F t)) j := by
  have hlt : n < cs.length := by rw [h.len]; exact hn.lt
  have hm : ∀ j, GoodC A F cs j → GoodC A F (cs.set n (F t)) j := fun j hj => hj.set hn h.len
  have hg : ∀ j, Gets A n j → GoodC A F (cs.set n (F t)) j := fun j hj => by
    cases hj with
    | refl => exact ⟨t, hn, by simp [hlt]⟩
    | edge hx' he h0 hr =>
      rw [hx] at hx'
      cases hx'
      exact hm j (hall _ he j hr)
  refine ⟨⟨by simpa using h.len, fun i v hv hz j hj => ?_⟩, hm, hg⟩
  by_cases he : n = i
  · subst he; exact hg j hj
  · rw [List.getElem?_set_ne he] at hv
    exact hm j (h.ok i v hv hz j hj)
def cntI (t : Trie) : Int := (capN (cntT t) : Nat)
def htI (t : Trie) : Int := (htT t : Nat)
end Go.Proofs.Ythjkfiniafblbaa
