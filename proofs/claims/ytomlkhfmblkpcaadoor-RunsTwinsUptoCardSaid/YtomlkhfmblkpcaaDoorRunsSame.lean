/- runs: the law's own 'same' and 'list', walked at equal answers. -/
import Derived.Test.YtomlkhfmblkpcaaDoorRunsPlay
namespace Go.Proofs.YtomlkhfmblkpcaaDoor
open Go.RowKit

theorem intsV_get {l : List Int} {k : Nat} (h : k < l.length) : (intsV l)[k]? = some (.int .i64 (l.getD k 0)) := by
  simp [intsV, List.getD_eq_getElem?_getD, List.getElem?_eq_getElem h]
theorem RdRow.int {w : World} {v : Value} {l : List Int} (h : RdRow w v l.length 1 (intsV l)) {k : Nat} (hk : k < l.length) : ∃ b off cap, v = .slice (some ⟨b, off, none⟩) l.length cap ∧ w.cell? ⟨b, off + k, none⟩ = some (.int .i64 (l.getD k 0)) := by
  obtain ⟨_, a, cap, rfl, _, _, hc⟩ := h
  obtain ⟨b, off, rfl, h⟩ := hc k _ (intsV_get hk)
  exact ⟨b, off, cap, rfl, h⟩
set_option maxRecDepth 100000 in
set_option maxHeartbeats 1600000 in
theorem list_refl {w : World} {va vb : Value} {l : List Int} (ha : RdRow w va l.length 1 (intsV l)) (hb : RdRow w vb l.length 1 (intsV l)) :
    Calls Tryd.prog 26 #[va, vb] w fun e w' => e = .returned (.bool true) ∧ Below w.heap.size w w' := by
  obtain ⟨aa, ca, hva, hca, hcma⟩ := ha.shape
  obtain ⟨ab, cb, hvb, hcb, hcmb⟩ := hb.shape
  subst hva hvb
  have HA := Lib.hid ha
  have HB := Lib.hid hb
  clear ha hb
  unfold maxLen at hcma
  go_enter Tryd.func26, Tryd.ntmps26
  (repeat' (first | (go_big_may; fail) | go_values | go_skip | go_guarded | go_step | go_upon | go_back | dsimp only))
  go_loopw [13] (fun i wr => ∃ k : Nat, i = .int .i64 k ∧ k ≤ l.length ∧ Below w.heap.size w wr) (fun i _ => l.length - (intOf i).toNat)
  case atStart => exact ⟨0, rfl, by omega, Below.refl _ _⟩
  case round =>
    obtain ⟨k, rfl, hk, hbl⟩ := hrel
    have HBL := Lib.hid hbl
    by_cases hlt : (k : Int) < l.length
    · have hkl : k < l.length := by omega
      obtain ⟨ba, oa, c1, hsl, x0⟩ := (HA.out.below hbl).int hkl
      cases hsl
      obtain ⟨bb, ob, c2, hsl, y0⟩ := (HB.out.below hbl).int hkl
      cases hsl
      generalize l.getD k 0 = x at *
      have hk0 : (0 : Int) ≤ k := by omega
      clear hbl
      (repeat' (first | (go_big_may; fail) | go_values | go_skip | go_guarded | go_step | go_upon | go_back | dsimp only))
      go_quiet (fail)
      (repeat' (first | (go_big_may; fail) | go_values | go_skip | go_guarded | go_step | go_upon | go_back | dsimp only))
      go_roundw
      case rel => exact ⟨k + 1, by simp, by omega, HBL.out.trans ((below_dW _ _).mono HBL.out.size)⟩
      case measure => simp [intOf] <;> omega
    · clear hbl
      (repeat' (first | (go_big_may; fail) | go_values | go_skip | go_guarded | go_step | go_upon | go_back | dsimp only))
      go_ret
      exact ⟨rfl, HBL.out⟩
set_option maxRecDepth 100000 in
set_option maxHeartbeats 1600000 in
theorem same_refl {w : World} {va vb : Value} (A : AnsD) (ha : RdRow w va A.list.length 1 (intsV A.list)) (hb : RdRow w vb A.list.length 1 (intsV A.list)) :
    Calls Tryd.prog 22 #[ansV A va, ansV A vb] w fun e w' => e = .returned (.bool true) ∧ Below w.heap.size w w' := by
  obtain ⟨aa, ca, hva, hca, hcma⟩ := ha.shape
  obtain ⟨ab, cb, hvb, hcb, hcmb⟩ := hb.shape
  subst hva hvb
  have hb2 : Below w.heap.size w ((w.alloc (.cells #[.int .i64 A.n, .int .i64 A.code, .string ⟨A.text.toArray⟩, .slice aa A.list.length ca] tAns)).alloc (.cells #[.int .i64 A.n, .int .i64 A.code, .string ⟨A.text.toArray⟩, .slice ab A.list.length cb] tAns)) :=
    ((Below.refl _ _).alloc (Nat.le_refl _) _).alloc (by simp) _
  have HL := Lib.hid (list_refl (ha.below hb2) (hb.below hb2))
  have HB := Lib.hid hb2
  clear ha hb hb2
  go_enter Tryd.func22, Tryd.ntmps22
  (repeat' (first | (go_big_may; fail) | go_values | go_skip | go_guarded | go_step | go_upon | go_back | dsimp only))
  refine HL.out.mono ?_
  rintro e w1 ⟨rfl, hb⟩
  have HB1 := Lib.hid (HB.out.trans (hb.mono HB.out.size))
  clear hb
  (repeat' (first | (go_big_may; fail) | go_values | go_skip | go_guarded | go_step | go_upon | go_back | dsimp only))
  go_ret
  exact ⟨rfl, HB1.out⟩
theorem RowT.rd {w : World} {v : Value} {l : List Int} (h : w.ownsRow 0 tInt 1 v l.length (intsV l)) : RdRow w v l.length 1 (intsV l) := RdRow.of_own h
theorem Both.pull3 {A B C D : Thing} {w : World} {fp : List Nat} (h : Both A (Both B (Both C D)) w fp) : Both C (Both A (Both B D)) w fp := (Both.mono (fun _ _ h => h.assoc) h).assoc
theorem Both.pull4 {A B C D E : Thing} {w : World} {fp : List Nat} (h : Both A (Both B (Both C (Both D E))) w fp) : Both D (Both A (Both B (Both C E))) w fp := (Both.mono (fun _ _ h => h.pull3) h).assoc
theorem Both.pull5 {A B C D E F : Thing} {w : World} {fp : List Nat} (h : Both A (Both B (Both C (Both D (Both E F)))) w fp) : Both E (Both A (Both B (Both C (Both D F)))) w fp := (Both.mono (fun _ _ h => h.pull4) h).assoc
theorem Both.pull6 {A B C D E F G : Thing} {w : World} {fp : List Nat} (h : Both A (Both B (Both C (Both D (Both E (Both F G))))) w fp) : Both F (Both A (Both B (Both C (Both D (Both E G))))) w fp := (Both.mono (fun _ _ h => h.pull5) h).assoc
theorem Both.pull7 {A B C D E F G H : Thing} {w : World} {fp : List Nat} (h : Both A (Both B (Both C (Both D (Both E (Both F (Both G H)))))) w fp) : Both G (Both A (Both B (Both C (Both D (Both E (Both F H)))))) w fp := (Both.mono (fun _ _ h => h.pull6) h).assoc
theorem At.pull4 {W w : World} {A B C D E : Thing} (h : At W w (Both A (Both B (Both C (Both D E))))) : At W w (Both D (Both A (Both B (Both C E)))) := h.impl fun _ q => q.pull4
theorem At.pull5 {W w : World} {A B C D E F : Thing} (h : At W w (Both A (Both B (Both C (Both D (Both E F)))))) : At W w (Both E (Both A (Both B (Both C (Both D F))))) := h.impl fun _ q => q.pull5
theorem At.pull6 {W w : World} {A B C D E F G : Thing} (h : At W w (Both A (Both B (Both C (Both D (Both E (Both F G))))))) : At W w (Both F (Both A (Both B (Both C (Both D (Both E G)))))) := h.impl fun _ q => q.pull6
theorem At.pull7 {W w : World} {A B C D E F G H : Thing} (h : At W w (Both A (Both B (Both C (Both D (Both E (Both F (Both G H)))))))) : At W w (Both G (Both A (Both B (Both C (Both D (Both E (Both F H)))))))  := h.impl fun _ q => q.pull7
theorem rd_nil (w : World) : RdRow w (.slice none 0 0) ([] : List Int).length 1 (intsV []) := ⟨rfl, none, 0, rfl, Nat.le_refl _, by simp [maxLen], fun j u hu => by simp [intsV] at hu⟩
end Go.Proofs.YtomlkhfmblkpcaaDoor
