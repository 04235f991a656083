/- The document's table of rests; where a tree's words lie among words; no program. · hornbookref18's table walked: place, put; and Rest. -/
import Derived.Test.YtcbdncjknpdnbaaDlSet
import Derived.Test.YtcbdncjknpdnbaaPlain
import Derived.Test.YtcbdncjknpdnbaaFrU
import Derived.Test.YtcbdncjknpdnbaaMinMz
namespace Go.Proofs.Ytcbdncjknpdnbaa
section
/-- The rest that a tree stands for. -/
def restT (t : Trie) : List UInt8 := frameL (wT t [])
/-- A tree of words that fit. -/
def FitT (t : Trie) : Prop := Good t ∧ ∀ w ∈ wT t [], w.length ≤ 255
theorem fits_all {L : List (List UInt8)} (h : ∀ w ∈ L, w.length ≤ 255) : fits L = true := fits_of fun _ _ r hr => h r (List.mem_of_getElem? hr)
theorem rest_inj {t t' : Trie} (h : FitT t) (h' : FitT t') (e : restT t = restT t') : t = t' := by
  refine wT_inj h.1 h'.1 ?_
  have h1 := headsL_frame (fits_all h.2)
  have h2 := headsL_frame (fits_all h'.2)
  unfold restT at e
  rw [e, h2] at h1
  exact (congrArg Prod.fst h1).symm

/-! ### The table -/

/-- The trees met, by their rests. -/
structure TabOk (ks : List (List UInt8)) (ns : List Nat) (T : List Trie) : Prop where
  len : ns.length = ks.length
  size : ks.length = T.length
  rise : RisesL ks
  know : ∀ (i : Nat) (k : List UInt8), ks[i]? = some k → ∃ (n : Nat) (s : Trie), ns[i]? = some n ∧ T[n]? = some s ∧ restT s = k
  all : ∀ s ∈ T, restT s ∈ ks
theorem TabOk.nil : TabOk [] [] [] := ⟨rfl, rfl, List.Pairwise.nil, fun i k h => by simp at h, fun s h => by cases h⟩
theorem TabOk.mem {ks : List (List UInt8)} {ns : List Nat} {T : List Trie} (h : TabOk ks ns T) (hT : ∀ s ∈ T, FitT s) {t : Trie} (ht : FitT t) : restT t ∈ ks ↔ t ∈ T := by
  constructor
  · intro hm
    obtain ⟨i, hi⟩ := List.mem_iff_getElem?.1 hm
    obtain ⟨n, s, _, h2, h3⟩ := h.know i _ hi
    have hs := List.mem_of_getElem? h2
    rw [← rest_inj (hT s hs) ht h3]; exact hs
  · exact h.all t
theorem below_at {ks : List (List UInt8)} (hr : RisesL ks) {z : List UInt8} (hz : z ∈ ks) : ks[belowL ks z]? = some z := by
  obtain ⟨i, hi⟩ := List.mem_iff_getElem?.1 hz
  have h1 : ¬ i < belowL ks z := fun h => LtW.ne ((belowL_iff hr z i z hi).1 h) rfl
  have h2 : ¬ belowL ks z < i := fun h => by
    obtain ⟨y, hy⟩ : ∃ y, ks[belowL ks z]? = some y := ⟨_, List.getElem?_eq_getElem (by have := (List.getElem?_eq_some_iff.1 hi).1; omega)⟩
    have := (belowL_iff hr z _ y hy).2 (rises_get hr h hy hi)
    omega
  obtain rfl : i = belowL ks z := by omega
  exact hi
theorem TabOk.hit {ks : List (List UInt8)} {ns : List Nat} {T : List Trie} (h : TabOk ks ns T) (hT : ∀ s ∈ T, FitT s) (hn : T.Nodup) {t : Trie} (ht : t ∈ T) : ks[belowL ks (restT t)]? = some (restT t) ∧ ns[belowL ks (restT t)]? = some (ixT T t) := by
  have h1 := below_at h.rise (h.all t ht)
  obtain ⟨n, s, h2, h3, h4⟩ := h.know _ _ h1
  have h5 := rest_inj (hT s (List.mem_of_getElem? h3)) (hT t ht) h4
  subst h5
  rw [ixT_of hn h3]
  exact ⟨h1, h2⟩
theorem TabOk.put {ks : List (List UInt8)} {ns : List Nat} {T : List Trie} (h : TabOk ks ns T) {t : Trie} (hz : restT t ∉ ks) :
    TabOk (ks.take (belowL ks (restT t)) ++ restT t :: ks.drop (belowL ks (restT t))) (ns.take (belowL ks (restT t)) ++ T.length :: ns.drop (belowL ks (restT t))) (T ++ [t]) := by
  have hb := belowL_le ks (restT t)
  have hlen := h.len
  refine ⟨by simp; omega, by simp [← h.size]; omega, ?_, ?_, ?_⟩
  · refine List.pairwise_append.2 ⟨List.Pairwise.sublist (List.take_sublist _ _) h.rise, List.pairwise_cons.2 ⟨fun x hx => ?_, List.Pairwise.sublist (List.drop_sublist _ _) h.rise⟩, fun x hx y hy => ?_⟩
    · obtain ⟨j, hj⟩ := List.mem_iff_getElem?.1 hx
      rw [List.getElem?_drop] at hj
      have h1 : ¬ LtW x (restT t) := fun hl => by have := (belowL_iff h.rise _ _ _ hj).2 hl; omega
      exact bl_total (by unfold LtW at h1; simpa using h1) (fun e => hz (e ▸ List.mem_of_getElem? hj))
    · have hx2 := belowL_take h.rise _ x hx
      rcases List.mem_cons.1 hy with rfl | hy
      · exact hx2
      · obtain ⟨j, hj⟩ := List.mem_iff_getElem?.1 hy
        rw [List.getElem?_drop] at hj
        obtain ⟨i, hi⟩ := List.mem_iff_getElem?.1 hx
        rw [List.getElem?_take] at hi
        split at hi
        · exact rises_get h.rise (by omega) hi hj
        · cases hi
  · intro i k hi
    have hold : ∀ j, ks[j]? = some k → ∃ n s, ns[j]? = some n ∧ (T ++ [t])[n]? = some s ∧ restT s = k := fun j hj => by
      obtain ⟨n, s, h1, h2, h3⟩ := h.know j k hj
      exact ⟨n, s, h1, by rw [List.getElem?_append_left (List.getElem?_eq_some_iff.1 h2).1]; exact h2, h3⟩
    have hlt : (ks.take (belowL ks (restT t))).length = belowL ks (restT t) := by rw [List.length_take]; omega
    have hlt2 : (ns.take (belowL ks (restT t))).length = belowL ks (restT t) := by rw [List.length_take]; omega
    rcases Nat.lt_trichotomy i (belowL ks (restT t)) with h1 | h1 | h1
    · rw [List.getElem?_append_left (by omega), List.getElem?_take, if_pos h1] at hi
      rw [List.getElem?_append_left (by omega), List.getElem?_take, if_pos h1]
      exact hold i hi
    · rw [List.getElem?_append_right (by omega)] at hi ⊢
      rw [hlt] at hi
      rw [hlt2]
      subst h1
      simp only [Nat.sub_self, List.getElem?_cons_zero, Option.some.injEq] at hi
      exact ⟨T.length, t, by simp, by simp, hi⟩
    · rw [List.getElem?_append_right (by omega)] at hi ⊢
      rw [hlt] at hi
      rw [hlt2]
      obtain ⟨q, hq⟩ : ∃ q, i - belowL ks (restT t) = q + 1 := ⟨i - belowL ks (restT t) - 1, by omega⟩
      rw [hq, List.getElem?_cons_succ, List.getElem?_drop] at hi ⊢
      exact hold _ hi
  · intro s hs
    rcases List.mem_append.1 hs with h1 | h1
    · have := h.all s h1
      rw [← List.take_append_drop (belowL ks (restT t)) ks] at this
      rcases List.mem_append.1 this with h2 | h2
      · exact List.mem_append.2 (.inl h2)
      · exact List.mem_append.2 (.inr (List.mem_cons_of_mem _ h2))
    · rw [List.mem_singleton] at h1; subst h1
      simp

/-! ### One element put in, the others moved -/

/-- The last is at v, those behind v are moved up. -/
def shiftL {α : Type} (ks : List α) (e : α) (v : Nat) : List α := (ks ++ [e]).take (v + 1) ++ ks.drop v
theorem shift_all {α : Type} (ks : List α) (e : α) : shiftL ks e ks.length = ks ++ [e] := by
  unfold shiftL
  rw [List.take_of_length_le (by simp), List.drop_eq_nil_of_le (Nat.le_refl _), List.append_nil]
theorem shift_len {α : Type} {ks : List α} {e : α} {v : Nat} (h : v ≤ ks.length) : (shiftL ks e v).length = ks.length + 1 := by
  unfold shiftL; simp; omega
theorem shift_get {α : Type} {ks : List α} {e : α} {u : Nat} (h : u < ks.length) : (shiftL ks e (u + 1))[u]? = ks[u]? := by
  unfold shiftL
  rw [List.getElem?_append_left (by simp; omega), List.getElem?_take, if_pos (by omega), List.getElem?_append_left h]
theorem shift_set {α : Type} {ks : List α} {e : α} {u : Nat} {x : α} (h : ks[u]? = some x) : (shiftL ks e (u + 1)).set (u + 1) x = shiftL ks e u := by
  obtain ⟨h1, h2⟩ := List.getElem?_eq_some_iff.1 h
  apply List.ext_getElem?
  intro i
  have hl1 := shift_len (ks := ks) (e := e) (v := u + 1) (by omega)
  unfold shiftL at hl1 ⊢
  rw [List.getElem?_set, hl1]
  have hA : ((ks ++ [e]).take (u + 1 + 1)).length = u + 2 := by simp; omega
  have hB : ((ks ++ [e]).take (u + 1)).length = u + 1 := by simp; omega
  by_cases he : u + 1 = i
  · subst he
    rw [if_pos rfl, if_pos (by omega), List.getElem?_append_right (by omega), hB, List.getElem?_drop]
    simpa using h.symm
  · rw [if_neg he]
    by_cases hlt : i < u + 1
    · rw [List.getElem?_append_left (by omega), List.getElem?_append_left (by omega), List.getElem?_take, List.getElem?_take, if_pos (by omega), if_pos (by omega)]
    · rw [List.getElem?_append_right (by omega), List.getElem?_append_right (by omega), hA, hB, List.getElem?_drop, List.getElem?_drop]
      congr 1; omega
theorem shift_end {α : Type} {ks : List α} {e : α} {v : Nat} (h : v ≤ ks.length) (x : α) : (shiftL ks e v).set v x = ks.take v ++ x :: ks.drop v := by
  have hl := shift_len (e := e) h
  have hA : ((ks ++ [e]).take (v + 1)).length = v + 1 := by simp; omega
  have hB : (ks.take v).length = v := by simp; omega
  apply List.ext_getElem?
  intro i
  rw [List.getElem?_set, hl]
  by_cases he : v = i
  · subst he
    rw [if_pos rfl, if_pos (by omega), List.getElem?_append_right (by omega), hB]
    simp
  · rw [if_neg he]
    unfold shiftL
    by_cases hlt : i < v
    · rw [List.getElem?_append_left (by omega), List.getElem?_append_left (by omega), List.getElem?_take, List.getElem?_take, if_pos (by omega), if_pos hlt, List.getElem?_append_left (by omega)]
    · rw [List.getElem?_append_right (by omega), List.getElem?_append_right (by omega), hA, hB]
      obtain ⟨q, hq⟩ : ∃ q, i - v = q + 1 := ⟨i - v - 1, by omega⟩
      rw [hq, List.getElem?_cons_succ]
      congr 1; omega

/-! ### Where a tree's words lie -/

/-- From lo to hi lie these words, behind a beginning of d bytes. -/
def Spn (L : List (List UInt8)) (lo hi d : Nat) (V : List (List UInt8)) : Prop := ∃ p : List UInt8, p.length = d ∧ (L.take hi).drop lo = pwT p V ∧ lo + V.length = hi ∧ hi ≤ L.length
theorem Spn.get {L V : List (List UInt8)} {lo hi d j : Nat} {x : List UInt8} (h : Spn L lo hi d V) (hj : V[j]? = some x) : ∃ p : List UInt8, p.length = d ∧ L[lo + j]? = some (p ++ x) := by
  obtain ⟨p, h1, h2, h3, h4⟩ := h
  refine ⟨p, h1, ?_⟩
  have h5 : (pwT p V)[j]? = some (p ++ x) := by simp [pwT, hj]
  rw [← h2, List.getElem?_drop, List.getElem?_take] at h5
  split at h5
  · exact h5
  · cases h5
theorem Spn.tails {L V : List (List UInt8)} {lo hi d : Nat} (h : Spn L lo hi d V) : ((L.take hi).drop lo).map (List.drop d) = V := by
  obtain ⟨p, h1, h2, _, _⟩ := h
  rw [h2]
  subst h1
  simp [pwT, Function.comp_def]
theorem Spn.whole (L : List (List UInt8)) : Spn L 0 L.length 0 L := ⟨[], rfl, by simp [pwT], by omega, Nat.le_refl _⟩
theorem Spn.split {L U V : List (List UInt8)} {lo hi d : Nat} (h : Spn L lo hi d (U ++ V)) : Spn L lo (lo + U.length) d U ∧ Spn L (lo + U.length) hi d V := by
  obtain ⟨p, h1, h2, h3, h4⟩ := h
  rw [List.length_append] at h3
  rw [pwT_app] at h2
  have hl : (pwT p U).length = U.length := by simp [pwT]
  refine ⟨⟨p, h1, ?_, rfl, by omega⟩, ⟨p, h1, ?_, by omega, h4⟩⟩
  · have e : (L.take (lo + U.length)).drop lo = ((L.take hi).drop lo).take U.length := by
      rw [List.take_drop, List.take_take, Nat.min_eq_left (by omega)]
    rw [e, h2, List.take_left' hl]
  · have e : (L.take hi).drop (lo + U.length) = ((L.take hi).drop lo).drop U.length := by rw [List.drop_drop]
    rw [e, h2, List.drop_left' hl]
theorem Spn.deep {L V : List (List UInt8)} {lo hi d : Nat} {b : UInt8} (h : Spn L lo hi d (V.map (b :: ·))) : Spn L lo hi (d + 1) V := by
  obtain ⟨p, h1, h2, h3, h4⟩ := h
  refine ⟨p ++ [b], by simp [h1], ?_, by simpa using h3, h4⟩
  rw [h2, pwT_cons]
/-- Behind a tree's own word. -/
theorem Spn.final {L : List (List UInt8)} {lo hi d : Nat} {t : Trie} (h : Spn L lo hi d (wT t [])) (hf : t.final = true) : (∃ p : List UInt8, p.length = d ∧ L[lo]? = some p) ∧ lo < hi ∧ Spn L (lo + 1) hi d (lE t []) := by
  unfold wT at h
  rw [headL_yes hf] at h
  obtain ⟨p, h1, h2⟩ := h.get (j := 0) (x := []) rfl
  have h3 := h.split.2
  obtain ⟨_, _, _, h4, _⟩ := h3
  exact ⟨⟨p, h1, by simpa using h2⟩, by simp at h4; omega, h.split.2⟩
theorem Spn.inner {L : List (List UInt8)} {lo hi d : Nat} {t : Trie} (h : Spn L lo hi d (wT t [])) (hf : t.final = false) : Spn L lo hi d (lE t []) := by
  unfold wT at h
  rw [headL_not (fun k => by rw [hf] at k; cases k.1), List.nil_append] at h
  exact h
theorem Spn.long {L : List (List UInt8)} {lo hi d : Nat} {t : Trie} {p : Int} (hk : okE False t p) (h : Spn L lo hi d (lE t [])) (hlt : lo < hi) : ∃ x, L[lo]? = some x ∧ d < x.length := by
  obtain ⟨_, _, _, h4, _⟩ := id h
  obtain ⟨u, hu⟩ : ∃ u, (lE t [])[0]? = some u := ⟨_, List.getElem?_eq_getElem (by omega)⟩
  obtain ⟨x, w, rfl, _⟩ := lE_above t hk u (List.mem_of_getElem? hu)
  obtain ⟨q, h1, h2⟩ := h.get hu
  exact ⟨_, by simpa using h2, by simp; omega⟩
/-- The words over the first edge, and the others. -/
structure Grp (L : List (List UInt8)) (i k hi d : Nat) (b : UInt8) (c r : Trie) : Prop where
  up : i < k
  le : k ≤ hi
  sub : Spn L i k (d + 1) (wT c [])
  rest : Spn L k hi d (lE r [])
  same : ∀ j, i ≤ j → j < k → ∃ x : List UInt8, L[j]? = some x ∧ x[d]? = some b
  other : ∀ j, k ≤ j → j < hi → ∃ x a, L[j]? = some x ∧ (x : List UInt8)[d]? = some a ∧ a ≠ b
theorem Spn.edge {L : List (List UInt8)} {i hi d : Nat} {b : UInt8} {c r : Trie} {p : Int} (hk : okE False (.edge b c r) p) (h : Spn L i hi d (lE (.edge b c r) [])) : ∃ k, Grp L i k hi d b c r := by
  rw [lE_edge] at h
  obtain ⟨h1, h2⟩ := h.split
  rw [List.length_map] at h1 h2
  obtain ⟨u, hu⟩ := has_word hk.2.2.1 (hk.2.1.resolve_right fun h => h)
  have hpos : 0 < (wT c []).length := List.length_pos_of_mem hu
  obtain ⟨_, _, _, h3, h4⟩ := id h2
  refine ⟨_, by omega, by omega, h1.deep, h2, fun j hj hjk => ?_, fun j hj hjk => ?_⟩
  · obtain ⟨x, hx⟩ : ∃ x, (wT c [])[j - i]? = some x := ⟨_, List.getElem?_eq_getElem (by omega)⟩
    obtain ⟨q, h5, h6⟩ := h1.get (j := j - i) (x := b :: x) (by simp [hx])
    refine ⟨q ++ b :: x, by rw [← h6]; congr 1; omega, ?_⟩
    rw [List.getElem?_append_right (by omega), h5]; simp
  · obtain ⟨v, hv⟩ : ∃ v, (lE r [])[j - (i + (wT c []).length)]? = some v := ⟨_, List.getElem?_eq_getElem (by omega)⟩
    obtain ⟨x, w, rfl, hx⟩ := lE_above r hk.2.2.2 v (List.mem_of_getElem? hv)
    obtain ⟨q, h5, h6⟩ := h2.get hv
    refine ⟨q ++ x :: w, x, by rw [← h6]; congr 1; omega, ?_, fun e => by subst e; omega⟩
    rw [List.getElem?_append_right (by omega), h5]; simp
theorem Spn.none {L : List (List UInt8)} {i hi d : Nat} {f : Bool} (h : Spn L i hi d (lE (.fin f) [])) : i = hi := by
  obtain ⟨_, _, _, h3, _⟩ := h
  simp [lE] at h3; exact h3
end

section
open Go.RowKit

theorem strs_more2 {W w : World} {v : Value} {zs : List (List UInt8)} {x : ByteArray} {R : Thing} (h : At W w (Both (RowG tTx 1 v (zs.length + 1) (strs zs ++ (#[.string x] : Array Value).toList)) R)) : At W w (Both (RowG tTx 1 v (zs ++ [x.data.toList]).length (strs (zs ++ [x.data.toList]))) R) := by
  have e1 : (zs ++ [x.data.toList]).length = zs.length + 1 := by simp
  have e2 : strs (zs ++ [x.data.toList]) = strs zs ++ (#[.string x] : Array Value).toList := by simp [strs]
  rw [e1, e2]
  exact h
abbrev tBl : TypeId := 133
set_option maxRecDepth 100000 in
set_option maxHeartbeats 1600000 in
theorem place_calls {w : World} {ks : List (List UInt8)} {v : Value} {bb : Nat} (hr : RisesL ks) (hv : RdRow w v ks.length 1 (strs ks)) (hn : ks.length ≤ 1099511627776) (hc : w.cell? ⟨bb, 1, none⟩ = some v) (z : List UInt8) :
    Calls Try.prog 85 #[.pointer (some ⟨bb, 1, none⟩), .string ⟨z.toArray⟩] w fun e w' => e = .returned (.int .i64 (belowL ks z)) ∧ w' = w := by
  obtain ⟨a, c, rfl, _, hcm⟩ := hv.shape
  unfold maxLen at hcm
  have HV := Lib.hid hv
  have HR := Lib.hid hr
  have hble := belowL_le ks z
  clear hv hr
  go_enter Try.func85, Try.ntmps85
  (repeat' (first | (go_big_may; fail) | go_values | go_skip | go_guarded | go_step | go_upon | go_back | dsimp only))
  go_loopw [5, 6] (fun vi vj wr => ∃ (i j : Nat), vi = .int .i64 i ∧ vj = .int .i64 j ∧ i ≤ belowL ks z ∧ belowL ks z ≤ j ∧ j ≤ ks.length ∧ wr = w) (fun vi vj _ => (intOf vj).toNat - (intOf vi).toNat)
  case atStart => exact ⟨0, ks.length, rfl, rfl, Nat.zero_le _, hble, Nat.le_refl _, rfl⟩
  case round =>
    obtain ⟨i, j, rfl, rfl, h1, h2, h3, rfl⟩ := hrel
    by_cases hlt : i < j
    · obtain ⟨m, hm⟩ : ∃ m : Nat, m = i + (j - i) / 2 := ⟨_, rfl⟩
      have hm1 : (i : Int) + ((j : Int) - i) / 2 = (m : Int) := by omega
      obtain ⟨x, hx⟩ : ∃ x, ks[m]? = some x := ⟨_, List.getElem?_eq_getElem (by omega)⟩
      have hib := belowL_iff HR.out z m x hx
      obtain ⟨g, off, cp, hsl, hcx⟩ := RdRow.str HV.out hx
      cases hsl
      have hi0 : (0 : Int) ≤ m := by omega
      have hi1 : (m : Int) < ks.length := by omega
      have HM := Lib.hid hm
      clear hx hm
      cases hb : Op.bytesLess x z with
      | true =>
        have hb1 := hib.2 hb
        clear hib
        (repeat' (first | (go_big_may; fail) | go_values | go_skip | go_guarded | go_step | go_upon | go_back | dsimp only))
        go_roundw
        case rel => exact ⟨m + 1, j, by go_num, rfl, hb1, h2, h3, trivial⟩
        case measure => have := HM.out; simp [intOf] <;> omega
      | false =>
        have hb1 : ¬ m < belowL ks z := fun h => by have := hib.1 h; rw [LtW, hb] at this; cases this
        clear hib
        (repeat' (first | (go_big_may; fail) | go_values | go_skip | go_guarded | go_step | go_upon | go_back | dsimp only))
        go_roundw
        case rel => exact ⟨i, m, rfl, rfl, h1, by omega, by omega, trivial⟩
        case measure => have := HM.out; simp [intOf] <;> omega
    · obtain rfl : i = j := by omega
      obtain rfl : i = belowL ks z := by omega
      (repeat' (first | (go_big_may; fail) | go_values | go_skip | go_guarded | go_step | go_upon | go_back | dsimp only))
      go_ret
      exact ⟨rfl, rfl⟩
set_option maxRecDepth 100000 in
set_option maxHeartbeats 1600000 in
/-- Rest: what stands behind the first d bytes. -/
theorem Rest_calls {w : World} {L : List (List UInt8)} {v : Value} (hv : RdRow w v L.length 1 (strs L)) {lo hi d : Nat} (hlo : lo ≤ hi) (hhi : hi ≤ L.length) (hL : L.length ≤ 1099511627776) (hd : ∀ (i : Nat) (x : List UInt8), lo ≤ i → i < hi → L[i]? = some x → d ≤ x.length) (_hd2 : d ≤ 255)
    {V : List (List UInt8)} (hV : ((L.take hi).drop lo).map (List.drop d) = V) (hfit : fits V = true) (hfl : (frameL V).length ≤ 70368744177664) :
    Calls Try.prog 84 #[v, .int .i64 lo, .int .i64 hi, .int .i64 d] w fun e w' => e = .returned (.string ⟨(frameL V).toArray⟩) ∧ Below w.heap.size w w' := by
  obtain ⟨a, c, rfl, _, hcm⟩ := hv.shape
  unfold maxLen at hcm
  have HV := Lib.hid hv
  have HD := Lib.hid hd
  have HVV := Lib.hid hV
  have hfr : frameR V = (frameL V, 0) := by unfold frameR; rw [hfit]; rfl
  have hfr2 : (frameR V).1 = frameL V ∧ (frameR V).2 = 0 := by rw [hfr]; exact ⟨rfl, rfl⟩
  have HFR := Lib.hid hfr2
  have HFL := Lib.hid hfl
  clear hv hd hV hfr hfr2 hfit hfl
  go_enter Try.func84, Try.ntmps84
  (repeat' (first | (go_big_may; fail) | go_values | go_skip | go_guarded | go_step | go_upon | go_back | dsimp only))
  go_loopw [9, 10] (fun vo vi wr => ∃ (i : Nat), vi = .int .i64 i ∧ lo ≤ i ∧ i ≤ hi ∧ At w wr (Both (RowG tTx 1 vo (((L.take i).drop lo).map (List.drop d)).length (strs (((L.take i).drop lo).map (List.drop d)))) Nought)) (fun _ vi _ => hi - (intOf vi).toNat)
  case atStart =>
    refine ⟨lo, rfl, Nat.le_refl _, hlo, ?_⟩
    have e : ((L.take lo).drop lo).map (List.drop d) = [] := by rw [List.drop_eq_nil_of_le (by simp; omega)]; rfl
    rw [e]
    exact (At.nought (Below.refl _ _)).noRowG Stable.nought tTx 1
  case round =>
    obtain ⟨i, rfl, hi1, hi2, h⟩ := hrel
    by_cases hlt : i < hi
    · obtain ⟨x, hx⟩ : ∃ x : ByteArray, L[i]? = some x.data.toList := ⟨⟨L[i].toArray⟩, List.getElem?_eq_getElem (by omega)⟩
      obtain ⟨g, off, cp, hsl, hcx⟩ := (HV.out.below h.below).strb hx
      cases hsl
      have hdx := HD.out i _ hi1 hlt hx
      rw [Array.length_toList, ByteArray.size_data] at hdx
      have hiI : (i : Int) < (L.length : Int) := by omega
      have hihI : (i : Int) < (hi : Int) := by omega
      have hln : (((L.take i).drop lo).map (List.drop d)).length ≤ 1099511627776 := by simp; omega
      obtain ⟨U, hU⟩ : ∃ U, ((L.take i).drop lo).map (List.drop d) = U := ⟨_, rfl⟩
      rw [hU] at h hln
      have HU := Lib.hid hU
      clear hU
      have H := Lib.hid h
      have HX := Lib.hid hx
      clear h hx
      (repeat' (first | (go_big_may; ((at_builtin; go_must (refine wpList_append_to rfl _ _ 66 tTx rfl Try.underlying66 info_Tx rfl (by decide) rfl (H.out) (Stable.nought) rfl (by first | rfl | simp) rfl (one_str _) (by unfold maxLen; omega) (by omega) ?_); intro a5 c5 w5 h5 _); have H5 := Lib.hid h5; clear h5)) | go_values | go_skip | go_guarded | go_step | go_upon | go_back | dsimp only))
      go_roundw
      case rel =>
        refine ⟨i + 1, by go_num, by omega, by omega, ?_⟩
        have e1 : ((L.take (i + 1)).drop lo).map (List.drop d) = U ++ [(x.extract d x.size).data.toList] := by
          rw [List.take_add_one, HX.out, List.drop_append_of_le_length (by simp; omega), List.map_append, HU.out]
          have e9 : (x.data.toList.drop d).length ≤ x.size - d := by simp
          simp [ByteArray.data_extract, Array.toList_extract, List.extract, List.take_of_length_le e9]
        rw [e1]
        exact strs_more2 H5.out
      case measure => simp [intOf] <;> omega
    · obtain rfl : i = hi := by omega
      have hihI : ¬ (i : Int) < (i : Int) := by omega
      rw [HVV.out] at h
      have hf := refFrame_calls V _ wr (RdRow.of_own h.rowG) HFL.out
      rw [HFR.out.1, HFR.out.2] at hf
      obtain ⟨oa, oc, rfl, _, _⟩ := own_shape h.rowG
      have HF := Lib.hid hf
      have H := Lib.hid h
      clear h hf
      (repeat' (first | (go_big_may; fail) | go_values | go_skip | go_guarded | go_step | go_upon | go_back | dsimp only))
      refine HF.out.mono ?_
      rintro e6 w6 ⟨rfl, hb6⟩
      have HB6 := Lib.hid (H.out.mono ((RowG.stable _ _ _ _ _).both Stable.nought) hb6).below
      clear hb6
      (repeat' (first | (go_big_may; fail) | go_values | go_skip | go_guarded | go_step | go_upon | go_back | dsimp only))
      go_ret
      exact ⟨rfl, HB6.out⟩
theorem strs_get2 {L : List (List UInt8)} {i : Nat} {x : List UInt8} (h : L[i]? = some x) : (strs L)[i]? = some (.string ⟨x.toArray⟩) := by simp [strs, h]
theorem strs_set2 (L : List (List UInt8)) (i : Nat) (x : List UInt8) : (strs L).set i (.string ⟨x.toArray⟩) = strs (L.set i x) := by simp [strs, List.map_set]
/-- The builder, its table's rests and numbers. -/
abbrev TabT (bb : Nat) (wv rv nv sv : Value) (ks : List (List UInt8)) (ns : List Nat) (R : Thing) : Thing :=
  Both (CellT bb #[wv, rv, nv, sv] tBl) (Both (RowG tTx 1 rv ks.length (strs ks)) (Both (RowG tInt 1 nv ns.length (nats ns)) R))
theorem TabT.stable {bb : Nat} {wv rv nv sv : Value} {ks : List (List UInt8)} {ns : List Nat} {R : Thing} (h : Stable R) : Stable (TabT bb wv rv nv sv ks ns R) :=
  (CellT.stable _ _ _).both ((RowG.stable _ _ _ _ _).both ((RowG.stable _ _ _ _ _).both h))
set_option maxRecDepth 100000 in
set_option maxHeartbeats 3200000 in
theorem put_at {W w : World} {bb : Nat} {wv rv nv sv : Value} {ks : List (List UInt8)} {ns : List Nat} {R : Thing} (h : At W w (TabT bb wv rv nv sv ks ns R)) (hR : Stable R) (hl : ns.length = ks.length) (hn : ks.length ≤ 1099511627776) {at' : Nat} (hat : at' ≤ ks.length) (z : List UInt8) (n : Nat) :
    Calls Try.prog 86 #[.pointer (some ⟨bb, 1, none⟩), .int .i64 at', .string ⟨z.toArray⟩, .int .i64 n] w fun e w' => e = .returned (.tuple #[]) ∧ ∃ rv' nv', At W w' (TabT bb wv rv' nv' sv (ks.take at' ++ z :: ks.drop at') (ns.take at' ++ n :: ns.drop at') R) := by
  obtain ⟨ra, rc, rfl, _, hrc⟩ := own_shape h.drop.rowG
  obtain ⟨na, nc, rfl, _, hnc⟩ := own_shape h.drop.drop.rowG
  obtain ⟨c1, c1f, _⟩ := h.cellF (o := 1) rfl
  have hb1 : ks.length ≤ 1099511627776 := hn
  unfold maxLen at hrc hnc
  have h1 := h.swap
  have H1 := Lib.hid h1
  have HR := Lib.hid hR
  have HL := Lib.hid hl
  clear h h1 hR hl
  go_enter Try.func86, Try.ntmps86
  have hb2 : ns.length ≤ 1099511627776 := by rw [HL.out]; exact hb1
  (repeat' (first | (go_big_may; first | ((with_reducible (show wpList _ _ _ ({ dst := some 15, op := _, type := _, pos := _, after := _, guard := _ } :: _) _ _)); (at_builtin; go_must (refine wpList_append_to rfl _ _ 66 tTx rfl Try.underlying66 info_Tx rfl (by decide) rfl (H1.out) (((CellT.stable _ _ _).both ((RowG.stable _ _ _ _ _).both HR.out))) rfl (by first | rfl | simp) rfl (one_str _) (by unfold maxLen; omega) (by omega) ?_); intro a4 c4 w4 h4 _); obtain ⟨e4, e4f, _⟩ := h4.drop.cellF (o := 1) rfl; obtain ⟨e5, e5f, _⟩ := h4.drop.cellF (o := 2) rfl; have H5 := Lib.hid (h4.swap.setCell ((RowG.stable _ _ _ _ _).both ((RowG.stable _ _ _ _ _).both HR.out)) 1 (.slice a4 (ks.length + 1) c4)).swap.pull3; clear h4) | ((with_reducible (show wpList _ _ _ ({ dst := some 24, op := _, type := _, pos := _, after := _, guard := _ } :: _) _ _)); clear e4 e5 e4f e5f; (at_builtin; go_must (refine wpList_append_to rfl _ _ 85 tInt rfl Try.underlying85 info_Int rfl (by decide) rfl (H5.out) (((RowG.stable _ _ _ _ _).both ((CellT.stable _ _ _).both HR.out))) rfl (by first | rfl | simp) rfl (one_int _ _) (by unfold maxLen; omega) (by omega) ?_); intro a6 c6 w6 h6 _); obtain ⟨e6, e6f, _⟩ := h6.drop.drop.cellF (o := 2) rfl; obtain ⟨e7, _, _⟩ := h6.drop.drop.cellF (o := 1) rfl; have H6 := Lib.hid h6; clear h6)) | go_values | go_skip | go_guarded | go_step | go_upon | go_back | dsimp only))
  obtain ⟨gn, nc2, hvn, _, hnc1, hnc2⟩ := own_cut H6.out.rowG (by omega)
  obtain ⟨gk, kc2, hvk, _, hkc1, hkc2⟩ := own_cut H6.out.drop.rowG (by omega)
  cases hvn
  cases hvk
  unfold maxLen at hnc2 hkc2
  have H7 := Lib.hid (show At W (w6.setCell ⟨bb, 2, none⟩ (.slice (some ⟨gn, 0, none⟩) (ns.length + 1) c6)) (Both (CellT bb #[wv, .slice (some ⟨gk, 0, none⟩) (ks.length + 1) c4, .slice (some ⟨gn, 0, none⟩) (ns.length + 1) c6, sv] tBl) (Both (RowG tTx 1 (.slice (some ⟨gk, 0, none⟩) (ks.length + 1) c4) (ks.length + 1) (strs (shiftL ks [] ks.length))) (Both (RowG tInt 1 (.slice (some ⟨gn, 0, none⟩) (ns.length + 1) c6) (ns.length + 1) (nats (shiftL ns 0 ns.length))) R))) from by
    have q := (H6.out.pull3.setCell ((RowG.stable _ _ _ _ _).both ((RowG.stable _ _ _ _ _).both HR.out)) 2 (.slice (some ⟨gn, 0, none⟩) (ns.length + 1) c6))
    rw [shift_all, shift_all]
    have e1 : strs (ks ++ [[]]) = strs ks ++ (#[Value.string { data := #[] }] : Array Value).toList := by simp [strs]
    have e2 : nats (ns ++ [0]) = nats ns ++ (#[Value.int IntKind.i64 0] : Array Value).toList := by simp [nats]
    rw [e1, e2]
    exact q.swap2)
  clear e6 e6f e7 H6 H1 c1 c1f H5
  (try simp only [Act.put])
  generalize w6.setCell ⟨bb, 2, none⟩ (.slice (some ⟨gn, 0, none⟩) (ns.length + 1) c6) = w7 at H7 ⊢
  have h7 := H7.out
  obtain ⟨N, hN⟩ : ∃ N, ks.length + 1 = N := ⟨_, rfl⟩
  have hN2 : ns.length + 1 = N := by rw [HL.out]; exact hN
  rw [hN, hN2] at h7
  rw [show shiftL ns 0 ns.length = shiftL ns 0 ks.length from by rw [HL.out]] at h7
  have H8 := Lib.hid h7
  have HST := Lib.hid (fun u : Nat => (CellT.stable bb #[wv, .slice (some ⟨gk, 0, none⟩) N c4, .slice (some ⟨gn, 0, none⟩) N c6, sv] tBl).both ((RowG.stable tTx 1 (.slice (some ⟨gk, 0, none⟩) N c4) N (strs (shiftL ks [] u))).both ((RowG.stable tInt 1 (.slice (some ⟨gn, 0, none⟩) N c6) N (nats (shiftL ns 0 u))).both HR.out)))
  clear h7 H7
  go_loopw [8] (fun vi wr => ∃ u : Nat, vi = .int .i64 u ∧ at' ≤ u ∧ u ≤ ks.length ∧ At W wr (Both (CellT bb #[wv, .slice (some ⟨gk, 0, none⟩) N c4, .slice (some ⟨gn, 0, none⟩) N c6, sv] tBl) (Both (RowG tTx 1 (.slice (some ⟨gk, 0, none⟩) N c4) N (strs (shiftL ks [] u))) (Both (RowG tInt 1 (.slice (some ⟨gn, 0, none⟩) N c6) N (nats (shiftL ns 0 u))) R)))) (fun vi _ => (intOf vi).toNat)
  case atStart => exact ⟨ks.length, by go_num, hat, Nat.le_refl _, H8.out⟩
  case round =>
    obtain ⟨u, rfl, hu1, hu2, h⟩ := hrel
    by_cases hlt : at' < u
    · obtain ⟨q, hq⟩ : ∃ q, u = q + 1 := ⟨u - 1, by omega⟩
      obtain ⟨x, hx⟩ : ∃ x, ks[q]? = some x := ⟨_, List.getElem?_eq_getElem (by omega)⟩
      obtain ⟨m, hm⟩ : ∃ m, ns[q]? = some m := ⟨_, List.getElem?_eq_getElem (by have := HL.out; omega)⟩
      have hsl := shift_len (ks := ks) (e := []) hu2
      have hsn : (shiftL ns 0 u).length = ns.length + 1 := shift_len (by have := HL.out; omega)
      obtain ⟨y, hy⟩ : ∃ y, (shiftL ks [] u)[u]? = some y := ⟨_, List.getElem?_eq_getElem (by omega)⟩
      obtain ⟨z2, hz⟩ : ∃ y, (shiftL ns 0 u)[u]? = some y := ⟨_, List.getElem?_eq_getElem (by have := HL.out; omega)⟩
      have hgk : (shiftL ks [] u)[q]? = some x := by subst hq; exact (shift_get (e := []) (by omega)).trans hx
      have hgn : (shiftL ns 0 u)[q]? = some m := by subst hq; exact (shift_get (e := 0) (by have := HL.out; omega)).trans hm
      have hsk2 : (shiftL ks [] u).set u x = shiftL ks [] q := by subst hq; exact shift_set hx
      have hsn2 : (shiftL ns 0 u).set u m = shiftL ns 0 q := by subst hq; exact shift_set hm
      obtain ⟨c1, _, _⟩ := h.cellF (o := 1) rfl
      obtain ⟨k1, _, _⟩ := h.drop.rowCell (strs_get2 hgk)
      obtain ⟨k2, k2f, k2l⟩ := h.drop.rowCell (strs_get2 hy)
      have hi0 : (0 : Int) ≤ (q : Int) := by omega
      have hi1 : (q : Int) < (N : Int) := by omega
      have hi2 : (u : Int) < (N : Int) := by omega
      have hi3 : (0 : Int) ≤ (u : Int) := by omega
      have hi4 : IntKind.i64.wrap ((u : Int) - 1) = (q : Int) := by rw [IntKind.wrap_i64]; omega
      have hlI : (at' : Int) < (u : Int) := by omega
      have hql : at' ≤ q ∧ q ≤ ks.length ∧ q < u := by omega
      have HQL := Lib.hid hql
      have h1 := h.swap.storeG ((CellT.stable _ _ _).both ((RowG.stable _ _ _ _ _).both HR.out)) u (.string ⟨x.toArray⟩)
      rw [strs_set2, hsk2] at h1
      have H := Lib.hid h1.swap
      clear h h1 hq hx hm hsl hsn hgk hsk2 hu1 hu2 hlt hql
      (repeat' (first | (go_big_may; fail) | go_values | go_skip | go_guarded | go_step | go_upon | go_back | dsimp only))
      (refine region_still_tail 14 (by kernel_rfl) (by kernel_rfl) ?_; simp only [List.take_succ_cons, List.take_zero, List.drop_succ_cons, List.drop_zero]; (iterate 14 (first | ((with_reducible refine still_plain ?_ rfl ?_ ?_); rotate_left; (next => (go_simp; (try with_reducible rfl))); simp only [Act.put, List.setIfInBounds_toArray, List.set_cons_zero, List.set_cons_succ]) | ((with_reducible refine still_skip ?_ ?_); (next => (go_simp; done)); simp only [Act.put, List.setIfInBounds_toArray, List.set_cons_zero, List.set_cons_succ]) | ((with_reducible refine still_val ?_ ?_ ?_ ?_); rotate_left; (next => (go_simp; done)); (next => (go_simp; (try with_reducible rfl))); simp only [Act.put, List.setIfInBounds_toArray, List.set_cons_zero, List.set_cons_succ]))); (with_reducible refine wpStill_nil ?_))
      (repeat' (first | (go_big_may; fail) | go_values | go_skip | go_guarded | go_step | go_upon | go_back | dsimp only))
      (try simp only [Act.put])
      generalize wr.setCell ⟨gk, u, none⟩ (.string ⟨x.toArray⟩) = w8 at H ⊢
      clear c1 k1 k2 k2f k2l
      have h := H.out
      obtain ⟨c2, _, _⟩ := h.cellF (o := 2) rfl
      obtain ⟨k1, _, _⟩ := h.drop.drop.rowCell (nats_get hgn)
      obtain ⟨k2, k2f, k2l⟩ := h.drop.drop.rowCell (nats_get hz)
      have h3 := h.pull3.storeG ((CellT.stable _ _ _).both ((RowG.stable _ _ _ _ _).both HR.out)) u (.int .i64 (m : Nat))
      rw [nats_set, hsn2] at h3
      have H3 := Lib.hid ((h3.pull3.swap2.swap.drew (HST.out q)).drew (HST.out q))
      clear h h3 H
      (refine region_still_tail 14 (by kernel_rfl) (by kernel_rfl) ?_; simp only [List.take_succ_cons, List.take_zero, List.drop_succ_cons, List.drop_zero]; (iterate 14 (first | ((with_reducible refine still_plain ?_ rfl ?_ ?_); rotate_left; (next => (go_simp; (try with_reducible rfl))); simp only [Act.put, List.setIfInBounds_toArray, List.set_cons_zero, List.set_cons_succ]) | ((with_reducible refine still_skip ?_ ?_); (next => (go_simp; done)); simp only [Act.put, List.setIfInBounds_toArray, List.set_cons_zero, List.set_cons_succ]) | ((with_reducible refine still_val ?_ ?_ ?_ ?_); rotate_left; (next => (go_simp; done)); (next => (go_simp; (try with_reducible rfl))); simp only [Act.put, List.setIfInBounds_toArray, List.set_cons_zero, List.set_cons_succ]))); (with_reducible refine wpStill_nil ?_))
      (repeat' (first | (go_big_may; fail) | go_values | go_skip | go_guarded | go_step | go_upon | go_back | dsimp only))
      go_roundw
      case rel => exact ⟨q, by go_num, HQL.out.1, HQL.out.2.1, H3.out⟩
      case measure => have := HQL.out; simp [intOf] <;> omega
    · obtain rfl : u = at' := by omega
      have hlI : ¬ (u : Int) < (u : Int) := by omega
      obtain ⟨y, hy⟩ : ∃ y, (shiftL ks [] u)[u]? = some y := ⟨_, List.getElem?_eq_getElem (by rw [shift_len hu2]; omega)⟩
      obtain ⟨z2, hz⟩ : ∃ y, (shiftL ns 0 u)[u]? = some y := ⟨_, List.getElem?_eq_getElem (by rw [shift_len (by have := HL.out; omega)]; have := HL.out; omega)⟩
      obtain ⟨c1, _, _⟩ := h.cellF (o := 1) rfl
      obtain ⟨k2, k2f, k2l⟩ := h.drop.rowCell (strs_get2 hy)
      have hi0 : (0 : Int) ≤ (u : Int) := by omega
      have hi1 : (u : Int) < (N : Int) := by omega
      have h1 := h.swap.storeG ((CellT.stable _ _ _).both ((RowG.stable _ _ _ _ _).both HR.out)) u (.string ⟨z.toArray⟩)
      rw [strs_set2, shift_end hu2] at h1
      have H := Lib.hid h1.swap
      clear h h1
      (repeat' (first | (go_big_may; fail) | go_values | go_skip | go_guarded | go_step | go_upon | go_back | dsimp only))
      (try simp only [Act.put])
      generalize wr.setCell ⟨gk, u, none⟩ (.string ⟨z.toArray⟩) = w8 at H ⊢
      clear c1 k2 k2f k2l
      have h := H.out
      obtain ⟨c2, _, _⟩ := h.cellF (o := 2) (u := .slice (some ⟨gn, 0, none⟩) N c6) rfl
      obtain ⟨k2, k2f, k2l⟩ := h.drop.drop.rowCell (nats_get hz)
      have h3 := h.pull3.storeG ((CellT.stable _ _ _).both ((RowG.stable _ _ _ _ _).both HR.out)) u (.int .i64 (n : Nat))
      rw [nats_set, shift_end (by have := HL.out; omega)] at h3
      have H3 := Lib.hid h3.pull3.swap2
      clear h h3 H
      simp only [c2, Result.andThen]
      (repeat' (first | (go_big_may; fail) | go_values | go_skip | go_guarded | go_step | go_upon | go_back | dsimp only))
      refine bodyPost_end (v := .tuple #[]) (by simp [results, Try.results86, go_sem]) rfl ?_
      refine ⟨rfl, .slice (some ⟨gk, 0, none⟩) N c4, .slice (some ⟨gn, 0, none⟩) N c6, ?_⟩
      have e1 : (ks.take u ++ z :: ks.drop u).length = N := by simp; omega
      have e2 : (ns.take u ++ n :: ns.drop u).length = N := by have := HL.out; simp; omega
      unfold TabT
      rw [e1, e2]
      exact H3.out.swap
end
end Go.Proofs.Ytcbdncjknpdnbaa
