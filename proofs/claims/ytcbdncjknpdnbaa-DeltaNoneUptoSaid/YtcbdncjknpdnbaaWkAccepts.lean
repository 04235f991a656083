/- The document's Step, the search by halves and walk.step walked. · The search by halves and walk.step walked. · walk.step; Accepts and the document's Accepts walked. · Accepts walked. -/
import Derived.Test.YtcbdncjknpdnbaaTrie
import Derived.Test.YtcbdncjknpdnbaaWkNth
namespace Go.Proofs.Ytcbdncjknpdnbaa
section
open Go.RowKit

/-- Where the step leads, as a number. -/
def StepTo (A : List Sta) (t : Trie) (x : UInt8) (m : Int) : Prop :=
  match stepE t x with
  | none => m = -1
  | some c => ∃ k : Nat, m = k ∧ Unf A k c

end

section
open Go.RowKit

set_option maxRecDepth 100000 in
set_option maxHeartbeats 1600000 in
theorem cmp_calls (w : World) (e : Ed) (x : UInt8) :
    Calls Try.prog 57 #[.agg #[bv e.1, .int .i64 e.2], bv x] w fun r w' => r = .returned (.int .i64 ((e.1.toNat : Int) - (x.toNat : Int))) ∧ Below w.heap.size w w' := by
  have h1 : e.1.toNat < 256 := e.1.toNat_lt
  have h2 : x.toNat < 256 := x.toNat_lt
  have hw : IntKind.i64.wrap ((e.1.toNat : Int) - (x.toNat : Int)) = (e.1.toNat : Int) - (x.toNat : Int) := by rw [IntKind.wrap_i64] <;> omega
  have hw1 : IntKind.i64.wrap (e.1.toNat : Int) = (e.1.toNat : Int) := by rw [IntKind.wrap_i64] <;> omega
  have hw2 : IntKind.i64.wrap (x.toNat : Int) = (x.toNat : Int) := by rw [IntKind.wrap_i64] <;> omega
  go_enter Try.func57, Try.ntmps57
  (repeat' (first | (go_big_may; fail) | go_values | go_skip | go_guarded | go_step | go_upon | go_back | dsimp only))
  go_ret
  exact ⟨rfl, (Below.refl _ _).alloc (Nat.le_refl _) _⟩

/-- Where the byte stands among the edges. -/
def Found (es : List Ed) (x : UInt8) (i : Nat) (b : Bool) : Prop :=
  if b = true then ∃ e, es[i]? = some e ∧ e.1 = x else ∀ e ∈ es, e.1 ≠ x
set_option maxRecDepth 100000 in
set_option maxHeartbeats 3200000 in
theorem search_calls {w : World} {es : List Ed} {v : Value} (hE : RdEds w v es) (hl : es.length ≤ 1048576) (hr : ∀ (i j : Nat) (a b : Ed), i < j → es[i]? = some a → es[j]? = some b → a.1.toNat < b.1.toNat) (x : UInt8) :
    Calls Try.prog 56 #[v, bv x, .func (.func 57) #[] #[]] w fun e w' => ∃ i b, e = .returned (.tuple #[.int .i64 (i : Nat), .bool b]) ∧ Found es x i b ∧ Below w.heap.size w w' := by
  obtain ⟨a0, c0, rfl, _, hc0⟩ := hE.shape
  unfold maxLen at hc0
  have HE := Lib.hid hE
  have HR := Lib.hid hr
  clear hE hr
  go_enter Try.func56, Try.ntmps56
  (repeat' (first | (go_big_may; fail) | go_values | go_skip | go_guarded | go_step | go_upon | go_back | dsimp only))
  go_loopw [9, 10] (fun vi vj wr => ∃ i j : Nat, vi = .int .i64 i ∧ vj = .int .i64 j ∧ i ≤ j ∧ j ≤ es.length ∧ (∀ q e, q < i → es[q]? = some e → e.1.toNat < x.toNat) ∧ (∀ q e, j ≤ q → es[q]? = some e → x.toNat ≤ e.1.toNat) ∧ Below w.heap.size w wr) (fun vi vj _ => (intOf vj).toNat - (intOf vi).toNat)
  case atStart => exact ⟨0, es.length, rfl, rfl, Nat.zero_le _, Nat.le_refl _, fun q _ hq => absurd hq (Nat.not_lt_zero q), fun q e hq he => by have := (List.getElem?_eq_some_iff.1 he).1; omega, Below.refl _ _⟩
  case round =>
    obtain ⟨i, j, rfl, rfl, hij, hj, hlo, hhi, hb⟩ := hrel
    have HLO := Lib.hid hlo
    have HHI := Lib.hid hhi
    have HB := Lib.hid hb
    by_cases hlt : i < j
    · have h1 : i ≤ (i + j) / 2 := by omega
      have h2 : (i + j) / 2 < j := by omega
      have hw : IntKind.i64.wrap ((i : Int) + (j : Int)) = ((i + j : Nat) : Int) := by rw [IntKind.wrap_i64] <;> omega
      obtain ⟨e, he⟩ : ∃ e, es[(i + j) / 2]? = some e := ⟨_, List.getElem?_eq_getElem (by omega)⟩
      obtain ⟨be, oe, ce, hse, e0, e1⟩ := RdEds.at (HE.out.below hb) he
      cases hse
      have HED := Lib.hid he
      have HC := Lib.hid (fun wz => cmp_calls wz e x)
      have hltI : (i : Int) < (j : Int) := by omega
      clear hlo hhi hb he
      (repeat' (first | (go_big_may; fail) | go_values | go_skip | go_guarded | go_step | go_upon | go_back | dsimp only))
      refine (HC.out _).mono ?_
      rintro r w5 ⟨rfl, hb5⟩
      have HB5 := Lib.hid (HB.out.trans (hb5.mono HB.out.size))
      have hwn : IntKind.i64.wrap (((i : Int) + (j : Int)) / 2 + 1) = ((i : Int) + (j : Int)) / 2 + 1 := by rw [IntKind.wrap_i64] <;> omega
      clear hb5 e0 e1 HC
      by_cases hc : e.1.toNat < x.toNat
      · have hcI : (e.1.toNat : Int) - (x.toNat : Int) < 0 := by omega
        (repeat' (first | (go_big_may; fail) | go_values | go_skip | go_guarded | go_step | go_upon | go_back | dsimp only))
        go_roundw
        case rel =>
          refine ⟨(i + j) / 2 + 1, j, by simp <;> omega, rfl, by omega, hj, fun q e' hq he' => ?_, HHI.out, HB5.out⟩
          rcases Nat.lt_or_ge q ((i + j) / 2) with h | h
          · have := HR.out q _ e' e h he' HED.out
            omega
          · have hqe : q = (i + j) / 2 := by omega
            subst hqe
            rw [HED.out] at he'
            cases he'
            exact hc
        case measure => simp [intOf] <;> omega
      · have hcI : ¬ (e.1.toNat : Int) - (x.toNat : Int) < 0 := by omega
        (repeat' (first | (go_big_may; fail) | go_values | go_skip | go_guarded | go_step | go_upon | go_back | dsimp only))
        go_roundw
        case rel =>
          refine ⟨i, (i + j) / 2, rfl, by simp <;> omega, h1, by omega, HLO.out, fun q e' hq he' => ?_, HB5.out⟩
          rcases Nat.lt_or_ge ((i + j) / 2) q with h | h
          · have := HR.out _ q e e' h HED.out he'
            omega
          · have hqe : q = (i + j) / 2 := by omega
            subst hqe
            rw [HED.out] at he'
            cases he'
            omega
        case measure => simp [intOf] <;> omega
    · obtain rfl : i = j := by omega
      have HF := Lib.hid (fun hno : ∀ e, es[i]? = some e → e.1 ≠ x => show Found es x i false from fun e he => by
        obtain ⟨q, hq, rfl⟩ := List.getElem_of_mem he
        have hq' := List.getElem?_eq_getElem hq
        intro hx
        rcases Nat.lt_trichotomy q i with h | h | h
        · have := HLO.out q _ h hq'; rw [hx] at this; omega
        · subst h; exact hno _ hq' hx
        · have h3 : i < es.length := by omega
          have h4 := List.getElem?_eq_getElem h3
          have h5 := HHI.out i _ (Nat.le_refl _) h4
          have h6 := HR.out i q _ _ h h4 hq'
          rw [hx] at h6
          omega)
      clear hlo hhi hij hlt
      by_cases hin : i < es.length
      · obtain ⟨e, he⟩ : ∃ e, es[i]? = some e := ⟨_, List.getElem?_eq_getElem hin⟩
        obtain ⟨be, oe, ce, hse, e0, e1⟩ := RdEds.at (HE.out.below hb) he
        cases hse
        have HC := Lib.hid (fun wz => cmp_calls wz e x)
        have hinI : (i : Int) < (es.length : Int) := by omega
        have HED := Lib.hid he
        clear he hb
        (repeat' (first | (go_big_may; fail) | go_values | go_skip | go_guarded | go_step | go_upon | go_back | dsimp only))
        refine (HC.out _).mono ?_
        rintro r w5 ⟨rfl, hb5⟩
        have HB5 := Lib.hid (HB.out.trans (hb5.mono HB.out.size))
        clear hb5 e0 e1 HC
        by_cases hc : e.1 = x
        · have hcI : (e.1.toNat : Int) - (x.toNat : Int) = 0 := by rw [hc]; omega
          have HCC := Lib.hid hc
          clear hc
          (repeat' (first | (go_big_may; fail) | go_values | go_skip | go_guarded | go_step | go_upon | go_back | dsimp only))
          go_ret2
          exact ⟨i, true, rfl, ⟨e, HED.out, HCC.out⟩, HB5.out⟩
        · have hcI : ((e.1.toNat : Int) - (x.toNat : Int) == 0) = false := by
            rw [beq_eq_false_iff_ne]
            intro h
            exact hc (UInt8.toNat_inj.1 (by omega))
          have HCC := Lib.hid hc
          clear hc
          (repeat' (first | (go_big_may; fail) | go_values | go_skip | go_guarded | go_step | go_upon | go_back | dsimp only))
          go_ret2
          exact ⟨i, false, rfl, HF.out (fun e' he' => by rw [HED.out] at he'; cases he'; exact HCC.out), HB5.out⟩
      · have hinI : ¬ (i : Int) < (es.length : Int) := by omega
        clear hb
        (repeat' (first | (go_big_may; fail) | go_values | go_skip | go_guarded | go_step | go_upon | go_back | dsimp only))
        go_ret2
        exact ⟨i, false, rfl, HF.out (fun e' he' => absurd (List.getElem?_eq_some_iff.1 he').1 hin), HB.out⟩
end

section
open Go.RowKit

theorem lk' {w a b : World} (h : Below w.heap.size w a) (k : Below a.heap.size a b) : Below w.heap.size w b := h.trans (k.mono h.size)

set_option maxRecDepth 100000 in
set_option maxHeartbeats 1600000 in
theorem step_calls {w : World} {A : List Sta} {va : Value} (hA : RdAut w va A) (hl : A.length ≤ 1048576 ∧ edgesN A ≤ 1048576) {n : Nat} {t : Trie} (ht : Unf A n t) (hg : Good t) (x : UInt8) :
    Calls Try.prog 35 #[va, .int .i64 n, bv x] w fun e w' => ∃ m, e = .returned (.int .i64 m) ∧ StepTo A t x m ∧ Below w.heap.size w w' := by
  have hn := ht.lt
  have hnI : (n : Int) < (A.length : Int) := by omega
  obtain ⟨y, hy, hu⟩ := ht
  obtain ⟨b, off, cap, u, hsv, d0, d1, hue⟩ := hA.at hy
  obtain ⟨ua, uc, rfl, _, huc⟩ := hue.shape
  unfold maxLen at huc
  subst hsv
  have hel := edgesN_le hy
  have D1 := Lib.hid d1
  have HE := Lib.hid (show RdEds w (.slice ua y.edges.length uc) y.edges from hue)
  have HU := Lib.hid hu
  have HR := Lib.hid (rising_edges hu hg).2
  have HS := Lib.hid (search_calls hue (by omega) HR.out x)
  clear hA hy hu hue d0
  go_enter Try.func35, Try.ntmps35
  (repeat' (first | (go_big_may; fail) | go_values | go_skip | go_guarded | go_step | go_upon | go_back | dsimp only))
  refine HS.out.mono ?_
  rintro e1 w1 ⟨i, bf, rfl, hf, hb1⟩
  have HB1 := Lib.hid hb1
  have d1' := (hb1.cell (World.block_lt_of_cell? _ _ D1.out)).trans D1.out
  have HF := Lib.hid hf
  cases bf with
  | false =>
    clear hf hb1 HS d1
    (repeat' (first | (go_big_may; fail) | go_values | go_skip | go_guarded | go_step | go_upon | go_back | dsimp only))
    go_ret
    refine ⟨-1, rfl, ?_, HB1.out⟩
    have hno : ∀ e ∈ y.edges, e.1 ≠ x := HF.out
    unfold StepTo
    cases hs : stepE t x with
    | none => rfl
    | some c =>
      obtain ⟨j, e', h1, h2, _⟩ := stepE_unf HU.out hs
      exact absurd h2 (hno e' (List.mem_of_getElem? h1))
  | true =>
    obtain ⟨e, he, hex⟩ : ∃ e, y.edges[i]? = some e ∧ e.1 = x := hf
    have hil := (List.getElem?_eq_some_iff.1 he).1
    have hiI : (i : Int) < (y.edges.length : Int) := by omega
    obtain ⟨be, oe, ce, hse, e0, e1⟩ := RdEds.at (HE.out.below hb1) he
    cases hse
    have HED := Lib.hid (And.intro he hex)
    clear he hex hb1 HS d1 e0
    (repeat' (first | (go_big_may; fail) | go_values | go_skip | go_guarded | go_step | go_upon | go_back | dsimp only))
    go_ret
    refine ⟨e.2, rfl, ?_, HB1.out⟩
    unfold StepTo
    cases hs : stepE t x with
    | none => exact absurd HED.out.2 (stepE_miss HU.out hs e (List.mem_of_getElem? HED.out.1))
    | some c =>
      obtain ⟨j, e', h1, h2, h3, h4, h5⟩ := stepE_unf HU.out hs
      have hij : j = i := by
        rcases Nat.lt_trichotomy i j with h | h | h
        · exact absurd HED.out.2 (h3 i h e HED.out.1)
        · exact h.symm
        · have := HR.out j i e' e h h1 HED.out.1
          rw [h2, HED.out.2] at this
          omega
      subst hij
      rw [HED.out.1] at h1
      cases h1
      obtain ⟨k, hk⟩ := Int.eq_ofNat_of_zero_le h4
      rw [hk, Int.toNat_natCast] at h5
      exact ⟨k, hk, h5⟩

theorem toList_getElem {s : ByteArray} {i : Nat} (h : i < s.size) : s.data.toList[i]? = some s[i] := by
  rw [List.getElem?_eq_getElem (by simpa using h)]; rfl
end

section
open Go.RowKit

theorem good_at {A : List Sta} (h : Shaped A) {n : Nat} {t : Trie} (hu : Unf A n t) : Good t := by
  obtain ⟨t', h1, h2, _⟩ := h.tr n hu.lt
  rw [hu.uniq h1]; exact h2
set_option maxRecDepth 100000 in
set_option maxHeartbeats 1600000 in
theorem Accepts_calls {w : World} {A : List Sta} {va : Value} (hA : RdAut w va A) (hl : A.length ≤ 1048576 ∧ edgesN A ≤ 1048576) (hsh : shapeB A = true) {t : Trie} (ht : Unf A 0 t) (s : ByteArray) (hs : s.size ≤ 1048576) :
    Calls Try.prog 20 #[va, .string s] w fun e w' => e = .returned (.tuple #[.bool (accT t s.data.toList).1, .int .i64 ((accT t s.data.toList).2 : Nat), .int .i64 0]) ∧ Below w.heap.size w w' := by
  obtain ⟨a0, c0, hv, _, hc0⟩ := hA.shape
  unfold maxLen at hc0
  have HS0 := Lib.hid (Shape_calls hA hl)
  rw [shapeV_ok hsh] at HS0
  have HA := Lib.hid hA
  have HT := Lib.hid ht
  have HSH := Lib.hid (shaped_of hsh)
  have hN : A.length ≤ 1048576 := by omega
  clear hA ht hsh
  subst hv
  go_enter Try.func20, Try.ntmps20
  (repeat' (first | (go_big_may; fail) | go_values | go_skip | go_guarded | go_step | go_upon | go_back | dsimp only))
  refine HS0.out.mono ?_
  rintro e0 w0 ⟨rfl, hb0⟩
  have HB0 := Lib.hid hb0
  clear hb0 HS0
  (repeat' (first | (go_big_may; fail) | go_values | go_skip | go_guarded | go_step | go_upon | go_back | dsimp only))
  go_loopw [8, 18] (fun vk vi wr => ∃ (i k : Nat) (t' : Trie), vi = .int .i64 i ∧ vk = .int .i64 k ∧ i ≤ s.size ∧ Unf A k t' ∧ accT t s.data.toList = ((accT t' (s.data.toList.drop i)).1, i + (accT t' (s.data.toList.drop i)).2) ∧ Below w.heap.size w wr) (fun _ vi _ => s.size - (intOf vi).toNat)
  case atStart => exact ⟨0, 0, t, rfl, rfl, Nat.zero_le _, HT.out, by simp, HB0.out⟩
  case round =>
    obtain ⟨i, k, t', rfl, rfl, hi, hk, hacc, hb⟩ := hrel
    have HK := Lib.hid hk
    have HACC := Lib.hid hacc
    have HB := Lib.hid hb
    have hkl := hk.lt
    have hkI : (k : Int) < (A.length : Int) := by omega
    by_cases hlt : i < s.size
    · have hiI : (i : Int) < (s.size : Int) := by omega
      have hgi := toList_getElem hlt
      obtain ⟨x, hx⟩ : ∃ x, s[i] = x := ⟨_, rfl⟩
      rw [hx] at hgi
      have HG := Lib.hid (drop_at hgi)
      have HS := Lib.hid (step_calls (HA.out.below hb) hl hk (good_at HSH.out hk) x)
      clear hk hacc hb hgi
      (repeat' (first | (go_big_may; fail) | go_values | go_skip | go_guarded | go_step | go_upon | go_back | dsimp only))
      refine HS.out.mono ?_
      rintro e1 w1 ⟨m, rfl, hm, hb1⟩
      have HB1 := Lib.hid (lk' HB.out hb1)
      clear hb1 HS
      unfold StepTo at hm
      cases hst : stepE t' x with
      | none =>
        rw [hst] at hm
        dsimp only at hm
        subst hm
        have HST := Lib.hid hst
        clear hst
        (repeat' (first | (go_big_may; fail) | go_values | go_skip | go_guarded | go_step | go_upon | go_back | dsimp only))
        go_ret3
        exact ⟨by rw [HACC.out, HG.out, accT_none HST.out]; simp, HB1.out⟩
      | some c =>
        rw [hst] at hm
        obtain ⟨k2, rfl, hk2⟩ := hm
        have HST := Lib.hid hst
        have HK2 := Lib.hid hk2
        have hk2n : ¬ (k2 : Int) < 0 := by omega
        clear hst hk2
        (repeat' (first | (go_big_may; fail) | go_values | go_skip | go_guarded | go_step | go_upon | go_back | dsimp only))
        go_roundw
        case rel => exact ⟨i + 1, k2, c, by simp, rfl, by omega, HK2.out, by rw [HACC.out, HG.out, accT_some HST.out]; simp <;> omega, HB1.out⟩
        case measure => simp [intOf] <;> omega
    · obtain rfl : i = s.size := by omega
      obtain ⟨y, hy, hu⟩ := hk
      obtain ⟨b, off, cap, u, hsv, d0, d1, hue⟩ := (HA.out.below hb).at hy
      cases hsv
      have HF := Lib.hid hu.final
      clear hacc hb hy hu hue d1
      (repeat' (first | (go_big_may; fail) | go_values | go_skip | go_guarded | go_step | go_upon | go_back | dsimp only))
      go_ret3
      exact ⟨by rw [HACC.out, List.drop_eq_nil_of_le (by simp), ← HF.out]; rfl, HB.out⟩
set_option maxRecDepth 100000 in
set_option maxHeartbeats 1600000 in
theorem Accepts_bad {w : World} {A : List Sta} {va : Value} (hA : RdAut w va A) (hl : A.length ≤ 1048576 ∧ edgesN A ≤ 1048576) (hs : shapeB A = false) (s : ByteArray) :
    Calls Try.prog 20 #[va, .string s] w fun e w' => e = .returned (.tuple #[.bool false, .int .i64 0, .int .i64 190]) ∧ Below w.heap.size w w' := by
  have HS := Lib.hid (Shape_calls hA hl)
  rw [shapeV_bad hs] at HS
  clear hs hA
  go_enter Try.func20, Try.ntmps20
  (repeat' (first | (go_big_may; fail) | go_values | go_skip | go_guarded | go_step | go_upon | go_back | dsimp only))
  refine HS.out.mono ?_
  rintro e1 w1 ⟨rfl, hb1⟩
  have HB1 := Lib.hid hb1
  clear hb1
  (repeat' (first | (go_big_may; fail) | go_values | go_skip | go_guarded | go_step | go_upon | go_back | dsimp only))
  go_ret3
  exact ⟨rfl, HB1.out⟩
end
end Go.Proofs.Ytcbdncjknpdnbaa
