/- delta: fit walked. · delta: words walked: its iterator gives an automaton's words. -/
import Derived.Test.YtcbdncjknpdnbaaWkNth
import Derived.Test.YtcbdncjknpdnbaaWkRef
import Derived.Test.YtcbdncjknpdnbaaRng
import Derived.Test.YtcbdncjknpdnbaaWkGather
import Derived.Shelf.Abstract
import Derived.TacticsInMore
import Derived.LoopNIn
import Derived.LoopIn
import Derived.Laws.EntriesVeiled
import Derived.Outline
namespace Go.Proofs.Ytcbdncjknpdnbaa
section
open Go.RowKit

theorem lit_rd {w : World} {T : TypeId} (C : Array Value) (n size : Nat) (h : C.size = n * size) (hn : n ≤ maxLen) : RdRow (w.alloc (.cells C T)) (.slice (some ⟨w.heap.size, 0, none⟩) n n) n size C.toList := by
  refine ⟨by simpa using h, _, n, rfl, Nat.le_refl _, hn, fun j u hu => ⟨w.heap.size, 0, rfl, ?_⟩⟩
  rw [World.cell?_alloc_at _ _ _ _ rfl]
  simpa using hu
/-- What fit answers. -/
def FitR (As : List (List Sta)) (E : Int) : Prop :=
  (E = 190 ∧ ∃ A ∈ As, shapeB A = false) ∨ ((∀ A ∈ As, shapeB A = true) ∧ ((E = 191 ∧ ∃ A ∈ As, ∃ t, Unf A 0 t ∧ 65536 < cntT t) ∨ (E = 0 ∧ ∀ A ∈ As, ∃ t, Unf A 0 t ∧ cntT t ≤ 65536)))
theorem FitR.bad {As : List (List Sta)} {E : Int} (h : FitR As E) {A : List Sta} (hA : A ∈ As) (hs : shapeB A = false) : E = 190 := by
  rcases h with ⟨h, _⟩ | ⟨h, _⟩
  · exact h
  · rw [h A hA] at hs; cases hs
theorem FitR.many {As : List (List Sta)} {E : Int} (h : FitR As E) (hall : ∀ A ∈ As, shapeB A = true) {A : List Sta} (hA : A ∈ As) {t : Trie} (ht : Unf A 0 t) (hc : 65536 < cntT t) : E = 191 := by
  rcases h with ⟨_, B, hB, hs⟩ | ⟨_, ⟨h, _⟩ | ⟨_, h⟩⟩
  · rw [hall B hB] at hs; cases hs
  · exact h
  · obtain ⟨t2, h2, h3⟩ := h A hA
    rw [ht.uniq h2] at hc; omega
theorem FitR.ok {As : List (List Sta)} {E : Int} (h : FitR As E) (hall : ∀ A ∈ As, shapeB A = true) (hc : ∀ A ∈ As, ∀ t, Unf A 0 t → cntT t ≤ 65536) : E = 0 := by
  rcases h with ⟨_, B, hB, hs⟩ | ⟨_, ⟨_, A, hA, t, ht, h⟩ | ⟨h, _⟩⟩
  · rw [hall B hB] at hs; cases hs
  · have := hc A hA t ht; omega
  · exact h
theorem fitR_total (As : List (List Sta)) : ∃ E, FitR As E := by
  by_cases h1 : ∃ A ∈ As, shapeB A = false
  · exact ⟨190, .inl ⟨rfl, h1⟩⟩
  · have hall : ∀ A ∈ As, shapeB A = true := fun A hA => by
      cases hs : shapeB A with
      | true => rfl
      | false => exact absurd ⟨A, hA, hs⟩ h1
    by_cases h2 : ∃ A ∈ As, ∃ t, Unf A 0 t ∧ 65536 < cntT t
    · exact ⟨191, .inr ⟨hall, .inl ⟨rfl, h2⟩⟩⟩
    · refine ⟨0, .inr ⟨hall, .inr ⟨rfl, fun A hA => ?_⟩⟩⟩
      have hsh := shaped_of (hall A hA)
      obtain ⟨t, ht, _⟩ := hsh.tr 0 hsh.pos
      refine ⟨t, ht, Classical.byContradiction fun h => h2 ⟨A, hA, t, ht, by omega⟩⟩
theorem take_all_succ {α : Type} {p : α → Prop} {l : List α} {k : Nat} {x : α} (h : ∀ y ∈ l.take k, p y) (hx : l[k]? = some x) (hp : p x) : ∀ y ∈ l.take (k + 1), p y := fun y hy => by
  rw [List.take_add_one, hx, Option.toList_some] at hy
  rcases List.mem_append.1 hy with h1 | h1
  · exact h y h1
  · simp at h1; subst h1; exact hp
set_option maxRecDepth 100000 in
set_option maxHeartbeats 3200000 in
theorem fit_calls {w : World} {As : List (List Sta)} {vs : List Value} {v : Value} (hv : RdRow w v As.length 1 vs) (hvs : ∀ (i : Nat) (A : List Sta), As[i]? = some A → ∃ u, vs[i]? = some u ∧ RdAut w u A)
    (hl : ∀ A ∈ As, A.length ≤ 1048576 ∧ edgesN A ≤ 1048576) {E : Int} (hE : FitR As E) :
    Calls Try.prog 25 #[v] w fun e w' => e = .returned (.int .i64 E) ∧ Below w.heap.size w w' := by
  obtain ⟨a0, c0, rfl, hc1, hc2⟩ := hv.shape
  unfold maxLen at hc2
  have HV := Lib.hid hv
  have HVS := Lib.hid hvs
  have HL := Lib.hid hl
  have HE := Lib.hid hE
  clear hv hvs hl hE
  go_enter Try.func25, Try.ntmps25
  (repeat' (first | (go_big_may; fail) | go_values | go_skip | go_guarded | go_step | go_upon | go_back | dsimp only))
  go_loopw [12] (fun vi wr => ∃ k : Nat, vi = .int .i64 k ∧ k ≤ As.length ∧ Below w.heap.size w wr ∧ ∀ A ∈ As.take k, shapeB A = true) (fun vi _ => As.length - (intOf vi).toNat)
  case atStart => exact ⟨0, rfl, Nat.zero_le _, Below.refl _ _, by simp⟩
  case round =>
    obtain ⟨k, rfl, hk, hb, hall⟩ := hrel
    by_cases hlt : k < As.length
    · obtain ⟨A, hA⟩ : ∃ A, As[k]? = some A := ⟨_, List.getElem?_eq_getElem hlt⟩
      obtain ⟨u, hu, hrd⟩ := HVS.out k A hA
      obtain ⟨b, off, cap, hsl, hcx⟩ : ∃ b off cap, Value.slice a0 As.length c0 = .slice (some ⟨b, off, none⟩) As.length cap ∧ w.cell? ⟨b, off + k, none⟩ = some u := by
        obtain ⟨_, ad, cap, he, _, _, hc⟩ := HV.out
        obtain ⟨b, off, rfl, h1⟩ := hc k u hu
        exact ⟨b, off, cap, he, h1⟩
      cases hsl
      have hkI : (k : Int) < (As.length : Int) := by omega
      have hAm := List.mem_of_getElem? hA
      obtain ⟨ua, uc, rfl, _, _⟩ := hrd.shape
      have hlA := HL.out A hAm
      replace hcx := (hb.cell (World.block_lt_of_cell? _ _ hcx)).trans hcx
      have HSH := Lib.hid (Shape_calls (hrd.below hb) hlA)
      have HB := Lib.hid hb
      have HA := Lib.hid hA
      have HALL := Lib.hid hall
      have HAM := Lib.hid hAm
      clear hb hA hu hrd hall hAm
      cases hs : shapeB A with
      | false =>
        have h190 := HE.out.bad HAM.out hs
        rw [shapeV_bad hs] at HSH
        have H190 := Lib.hid h190
        clear hs h190
        (repeat' (first | (go_big_may; fail) | go_values | go_skip | go_guarded | go_step | go_upon | go_back | dsimp only))
        refine HSH.out.mono ?_
        rintro e1 w1 ⟨rfl, hb1⟩
        have HB1 := Lib.hid (HB.out.trans (hb1.mono HB.out.size))
        clear hb1
        (repeat' (first | (go_big_may; fail) | go_values | go_skip | go_guarded | go_step | go_upon | go_back | dsimp only))
        go_ret
        exact ⟨by rw [H190.out]; rfl, HB1.out⟩
      | true =>
        rw [shapeV_ok hs] at HSH
        have HS := Lib.hid hs
        clear hs
        (repeat' (first | (go_big_may; fail) | go_values | go_skip | go_guarded | go_step | go_upon | go_back | dsimp only))
        refine HSH.out.mono ?_
        rintro e1 w1 ⟨rfl, hb1⟩
        have HB1 := Lib.hid (HB.out.trans (hb1.mono HB.out.size))
        clear hb1
        (repeat' (first | (go_big_may; fail) | go_values | go_skip | go_guarded | go_step | go_upon | go_back | dsimp only))
        go_roundw
        case rel => exact ⟨k + 1, by simp, by omega, HB1.out, take_all_succ HALL.out HA.out HS.out⟩
        case measure => simp [intOf] <;> omega
    · obtain rfl : k = As.length := by omega
      have hkI : ¬ (As.length : Int) < (As.length : Int) := by omega
      rw [List.take_length] at hall
      have HALL := Lib.hid hall
      have HB0 := Lib.hid hb
      clear hall hb
      (repeat' (first | (go_big_may; fail) | go_values | go_skip | go_guarded | go_step | go_upon | go_back | dsimp only))
      go_loopw [24] (fun vi wi => ∃ k : Nat, vi = .int .i64 k ∧ k ≤ As.length ∧ Below w.heap.size w wi ∧ ∀ A ∈ As.take k, ∀ t, Unf A 0 t → cntT t ≤ 65536) (fun vi _ => As.length - (intOf vi).toNat)
      case atStart => exact ⟨0, rfl, Nat.zero_le _, HB0.out, by simp⟩
      case round =>
        obtain ⟨k, rfl, hk, hb, hcs⟩ := hrel
        by_cases hlt : k < As.length
        · obtain ⟨A, hA⟩ : ∃ A, As[k]? = some A := ⟨_, List.getElem?_eq_getElem hlt⟩
          obtain ⟨u, hu, hrd⟩ := HVS.out k A hA
          obtain ⟨b, off, cap, hsl, hcx⟩ : ∃ b off cap, Value.slice a0 As.length c0 = .slice (some ⟨b, off, none⟩) As.length cap ∧ w.cell? ⟨b, off + k, none⟩ = some u := by
            obtain ⟨_, ad, cap, he, _, _, hc⟩ := HV.out
            obtain ⟨b, off, rfl, h1⟩ := hc k u hu
            exact ⟨b, off, cap, he, h1⟩
          cases hsl
          have hkI : (k : Int) < (As.length : Int) := by omega
          have hAm := List.mem_of_getElem? hA
          obtain ⟨ua, uc, rfl, _, _⟩ := hrd.shape
          have hlA := HL.out A hAm
          replace hcx := (hb.cell (World.block_lt_of_cell? _ _ hcx)).trans hcx
          have hsA := HALL.out A hAm
          have hshA := shaped_of hsA
          obtain ⟨t, ht, _⟩ := hshA.tr 0 hshA.pos
          have HC := Lib.hid (Count_calls (hrd.below hb) hlA hsA ht)
          have HB := Lib.hid hb
          have HA := Lib.hid hA
          have HCS := Lib.hid hcs
          have HAM := Lib.hid hAm
          have HT := Lib.hid ht
          clear hb hA hu hrd hcs hAm hsA hshA ht
          by_cases hbig : 65536 < cntT t
          · have h191 := HE.out.many HALL.out HAM.out HT.out hbig
            have H191 := Lib.hid h191
            clear h191
            by_cases hc : cntT t ≤ 1099511627776
            · have e1 : countV t = (cntT t : Int) := by unfold countV; rw [if_pos hc]
              have e2 : countE t = 0 := by unfold countE; rw [if_pos hc]
              rw [e1, e2] at HC
              have hcI : (65536 : Int) < (cntT t : Int) := by omega
              clear hc e1 e2
              (repeat' (first | (go_big_may; fail) | go_values | go_skip | go_guarded | go_step | go_upon | go_back | dsimp only))
              refine HC.out.mono ?_
              rintro e1 w1 ⟨rfl, hb1⟩
              have HB1 := Lib.hid (HB.out.trans (hb1.mono HB.out.size))
              clear hb1
              (repeat' (first | (go_big_may; fail) | go_values | go_skip | go_guarded | go_step | go_upon | go_back | dsimp only))
              go_ret
              exact ⟨by rw [H191.out]; rfl, HB1.out⟩
            · have e1 : countV t = 0 := by unfold countV; rw [if_neg hc]
              have e2 : countE t = 191 := by unfold countE; rw [if_neg hc]
              rw [e1, e2] at HC
              clear hc e1 e2
              (repeat' (first | (go_big_may; fail) | go_values | go_skip | go_guarded | go_step | go_upon | go_back | dsimp only))
              refine HC.out.mono ?_
              rintro e1 w1 ⟨rfl, hb1⟩
              have HB1 := Lib.hid (HB.out.trans (hb1.mono HB.out.size))
              clear hb1
              (repeat' (first | (go_big_may; fail) | go_values | go_skip | go_guarded | go_step | go_upon | go_back | dsimp only))
              go_ret
              exact ⟨by rw [H191.out]; rfl, HB1.out⟩
          · have hc : cntT t ≤ 1099511627776 := by omega
            have e1 : countV t = (cntT t : Int) := by unfold countV; rw [if_pos hc]
            have e2 : countE t = 0 := by unfold countE; rw [if_pos hc]
            rw [e1, e2] at HC
            have hcI : ¬ (65536 : Int) < (cntT t : Int) := by omega
            clear hc e1 e2
            (repeat' (first | (go_big_may; fail) | go_values | go_skip | go_guarded | go_step | go_upon | go_back | dsimp only))
            refine HC.out.mono ?_
            rintro e1 w1 ⟨rfl, hb1⟩
            have HB1 := Lib.hid (HB.out.trans (hb1.mono HB.out.size))
            clear hb1
            (repeat' (first | (go_big_may; fail) | go_values | go_skip | go_guarded | go_step | go_upon | go_back | dsimp only))
            go_roundw
            case rel => exact ⟨k + 1, by simp, by omega, HB1.out, take_all_succ HCS.out HA.out fun t2 h2 => by rw [h2.uniq HT.out]; omega⟩
            case measure => simp [intOf] <;> omega
        · obtain rfl : k = As.length := by omega
          have hkI : ¬ (As.length : Int) < (As.length : Int) := by omega
          rw [List.take_length] at hcs
          have h0 := HE.out.ok HALL.out hcs
          have H0 := Lib.hid h0
          have HB := Lib.hid hb
          clear hcs h0 hb
          (repeat' (first | (go_big_may; fail) | go_values | go_skip | go_guarded | go_step | go_upon | go_back | dsimp only))
          go_ret
          exact ⟨by rw [H0.out]; rfl, HB.out⟩
end

section
open Go.RowKit
attribute [local go_sem] Oper.semAt_some

abbrev encW (x : List UInt8) : Array Value := #[.string ⟨x.toArray⟩]
abbrev tAuts : TypeId := 22
abbrev tYw : TypeId := 101
abbrev tBs : TypeId := 102
abbrev tVw : TypeId := 103
abbrev visV (ka ky kw kv : Nat) : Value := .func (.func 44) #[] #[ptrN ka, ptrN ky, ptrN kw, ptrN kv]
/-- What visit stands on: what the rounds hold, the automaton's box, yield, the word, itself. -/
abbrev DwT (l ka ky kw kv : Nat) (va vw : Value) (pre : List UInt8) (J R : Thing) : Thing :=
  Both J (Both (CellT ka #[va] tAuts) (Both (CellT ky #[.func (.yield l) #[] #[]] tYw) (Both (CellT kw #[vw] tBs) (Both (RowG 5 1 vw pre.length (bvs pre)) (Both (CellT kv #[visV ka ky kw kv] tVw) R)))))
theorem DwT.stable {l ka ky kw kv : Nat} {va vw : Value} {pre : List UInt8} {J R : Thing} (hJ : Stable J) (hR : Stable R) : Stable (DwT l ka ky kw kv va vw pre J R) :=
  hJ.both ((CellT.stable _ _ _).both ((CellT.stable _ _ _).both ((CellT.stable _ _ _).both ((RowG.stable _ _ _ _ _).both ((CellT.stable _ _ _).both hR)))))
/-- What a visit leaves. -/
def VisP (W : World) (L : List (List UInt8)) (l ka ky kw kv : Nat) (va : Value) (pre : List UInt8) (D : List (List UInt8)) (J Jx : List (List UInt8) → Thing) (R : Thing) (e : Ending) (w' : World) : Prop :=
  (e = .returned (.bool true) ∧ ∃ vw, At W w' (DwT l ka ky kw kv va vw pre (J D) R)) ∨ (e = .returned (.bool false) ∧ ∃ d vw pre', d <+: L ∧ At W w' (DwT l ka ky kw kv va vw pre' (Jx d) R))
theorem headL_final {t : Trie} (h : t.final = true) : headL t [] = [[]] := headL_yes h
theorem headL_none {t : Trie} (h : t.final = false) : headL t [] = [] := headL_not (by rw [h]; simp)
theorem wT_head {t : Trie} {pre : List UInt8} (h : t.final = true) : pwT pre (wT t []) = [pre] ++ pwT pre (lE t []) := by
  unfold wT; rw [pwT_app, headL_final h]; simp [pwT]
theorem wT_nohead {t : Trie} {pre : List UInt8} (h : t.final = false) : pwT pre (wT t []) = pwT pre (lE t []) := by
  unfold wT; rw [pwT_app, headL_none h]; simp [pwT]
theorem lE_cons (b : UInt8) (c r : Trie) (pre : List UInt8) : pwT pre (lE (.edge b c r) []) = pwT (pre ++ [b]) (wT c []) ++ pwT pre (lE r []) := by
  rw [lE_some (nextF_nil b), pwT_app, pwT_cons]
section
variable {W w : World} {A B C D E F G R : Thing}
theorem At.dwIn (h : At W w (Both A (Both B (Both C (Both D (Both E (Both F (Both G R)))))))) : At W w (Both D (Both E (Both F (Both A (Both B (Both G (Both C R))))))) :=
  h.pull6.pull6.pull6.impl fun _ q => Both.mono (fun _ _ q => Both.mono (fun _ _ q => Both.mono (fun _ _ q => Both.mono (fun _ _ q => Both.mono (fun _ _ q => q.assoc) q) q) q) q) q
theorem At.dwOut (h : At W w (Both A (Both B (Both C (Both D (Both E (Both F (Both G R)))))))) : At W w (Both C (Both D (Both E (Both A (Both B (Both F R)))))) :=
  h.pull7.drop.pull5.pull5.pull5
theorem At.dwLose (h : At W w (Both A (Both B (Both C (Both D (Both E (Both F (Both G R)))))))) : At W w (Both A (Both B (Both C (Both D (Both E (Both F R)))))) :=
  h.pull7.drop
end
set_option maxRecDepth 100000 in
set_option maxHeartbeats 4000000 in
theorem wvisit_at {W : World} {A : List Sta} {va : Value} (hA : RdAut W va A) (_hl : A.length ≤ 1048576 ∧ edgesN A ≤ 1048576) (L : List (List UInt8)) (l : Nat) (J Jx : List (List UInt8) → Thing) (hJ : ∀ p, Stable (J p)) (ka ky kw kv : Nat)
    (hY : ∀ pre x, pre ++ [x] <+: L → ∀ w R, Stable R → At W w (Both (J pre) (Both (CellT ka #[va] tAuts) R)) → YieldAt Fence.wide 0 Try.prog l (encW x) w fun e w' =>
      (e = .returned (.bool true) ∧ At W w' (Both (J (pre ++ [x])) (Both (CellT ka #[va] tAuts) R))) ∨ (e = .returned (.bool false) ∧ At W w' (Both (Jx (pre ++ [x])) (Both (CellT ka #[va] tAuts) R))))
    (k : Nat) : ∀ (w : World) (n : Nat) (t : Trie) (vw : Value) (pre : List UInt8) (done : List (List UInt8)) (R : Thing),
    At W w (DwT l ka ky kw kv va vw pre (J done) R) → Stable R → Unf A n t → htT t < k → pre.length + htT t ≤ 1048576 → done ++ pwT pre (wT t []) <+: L →
    Calls Try.prog 44 #[.int .i64 n, ptrN ka, ptrN ky, ptrN kw, ptrN kv] w (VisP W L l ka ky kw kv va pre (done ++ pwT pre (wT t [])) J Jx R) := by
  induction k with
  | zero => intro w n t vw pre done R _ _ _ h; omega
  | succ k ih =>
    intro w n t vw pre done R h hR hu hk hpl hpre
    have hn := hu.lt
    have hnI : (n : Int) < (A.length : Int) := by omega
    obtain ⟨x, hx, hux⟩ := hu
    obtain ⟨b, off, cap, u, hsv, d0, d1, hue⟩ := hA.at hx
    obtain ⟨ua, uc, rfl, _, huc⟩ := hue.shape
    unfold maxLen at huc
    obtain ⟨wa, wca, rfl, _, hwca⟩ := own_shape h.drop.drop.drop.drop.rowG
    unfold maxLen at hwca
    subst hsv
    have D1 := Lib.hid d1
    replace d0 := (h.below.cell (World.block_lt_of_cell? _ _ d0)).trans d0
    have hel := edgesN_le hx
    have hfin := hux.final
    have hst : ∀ vw pre D, Stable (DwT l ka ky kw kv (.slice (some ⟨b, off, none⟩) A.length cap) vw pre (J D) R) := fun _ _ _ => DwT.stable (hJ _) hR
    obtain ⟨c0, _, hkl⟩ := h.drop.cellF (o := 0) rfl
    obtain ⟨cy, _, _⟩ := h.drop.drop.cellF (o := 0) rfl
    obtain ⟨cw, _, _⟩ := h.drop.drop.drop.cellF (o := 0) rfl
    have H := Lib.hid h
    have HR := Lib.hid hR
    have HU := Lib.hid hux
    have IH := Lib.hid ih
    have HE := Lib.hid (show RdEds W (.slice ua x.edges.length uc) x.edges from hue)
    have HFIN := Lib.hid hfin
    have HST := Lib.hid hst
    have HPRE := Lib.hid hpre
    clear h hR hux hx ih hue hfin hst hpre
    clear d1
    cases hf : x.final with
    | false =>
      rw [hf] at d0
      have hwh := wT_nohead (pre := pre) (by rw [HFIN.out]; exact hf)
      have hS := H.out
      have hD : done ++ pwT pre (wT t []) = done ++ pwT pre (lE t []) := by rw [hwh]
      have d1 := (hS.below.cell (World.block_lt_of_cell? _ _ D1.out)).trans D1.out
      clear hwh hf
      generalize done ++ pwT pre (wT t []) = DD at *
      have HD := Lib.hid hD
      clear hD
      (refine (callsIn_wide (n := 0)).1 (callsIn_of_wp Try.func44 rfl trivial ?_ rfl); simp only [Try.ntmps44, List.size_toArray, List.length_cons, List.length_nil, Nat.reduceAdd, Nat.reduceSub, Array.replicate_succ, Array.replicate_zero, List.push_toArray, List.append_toArray, List.nil_append, List.cons_append])
      (repeat' (first | (gi_big_may; fail) | go_values | gi_guarded | gi_step | gi_upon | gi_back | dsimp only))
      refine ⟨fun _ _ => trivial, ?_⟩
      have hD := HD.out
      clear HD
      obtain ⟨c0, _, _⟩ := hS.drop.cellF (o := 0) rfl
      obtain ⟨cw, _, _⟩ := hS.drop.drop.drop.cellF (o := 0) rfl
      have d1 := (hS.below.cell (World.block_lt_of_cell? _ _ D1.out)).trans D1.out
      have HS := Lib.hid hS
      have HD := Lib.hid hD
      clear hS hD
      (repeat' (first | (gi_big_may; fail) | go_values | gi_guarded | gi_step | gi_upon | gi_back | dsimp only))
      clear cw c0
      gi_loopw [27] (fun vj wr => ∃ (j : Nat) (tj : Trie) (vw2 : Value) (Dj : List (List UInt8)), vj = .int .i64 j ∧ j ≤ x.edges.length ∧ UnfE A tj x.final (x.edges.drop j) ∧ htT tj ≤ htT t ∧ DD = Dj ++ pwT pre (lE tj []) ∧ At W wr (DwT l ka ky kw kv (.slice (some ⟨b, off, none⟩) A.length cap) vw2 pre (J Dj) R)) (fun vj _ => x.edges.length - (intOf vj).toNat)
      case atStart => exact ⟨0, t, _, _, rfl, Nat.zero_le _, HU.out, Nat.le_refl _, HD.out, HS.out⟩
      case round =>
        obtain ⟨j, tj, vw2, Dj, rfl, hj, hut, hhj, hDj, h3⟩ := hrel
        obtain ⟨wa2, wc2, rfl, _, hwc2⟩ := own_shape h3.drop.drop.drop.drop.rowG
        unfold maxLen at hwc2
        by_cases hlj : j < x.edges.length
        · obtain ⟨e, he⟩ : ∃ e, x.edges[j]? = some e := ⟨_, List.getElem?_eq_getElem hlj⟩
          rw [drop_at he] at hut
          obtain ⟨ct, r, rfl, he0, hct, hr⟩ := hut.cons
          obtain ⟨m, hm⟩ := Int.eq_ofNat_of_zero_le he0
          rw [hm, Int.toNat_natCast] at hct
          simp only [htT] at hhj
          have hjI : (j : Int) < (x.edges.length : Int) := by omega
          obtain ⟨be, oe, ce, hse, e0, e1⟩ := RdEds.at (HE.out.below h3.below) he
          cases hse
          rw [hm] at e1
          have hst3 := HST.out (.slice wa2 pre.length wc2) pre Dj
          have h4 := h3.newCell hst3 #[bv e.1, .int .i64 m] tPE
          have h5 := h4.pull6
          have hst5 := (CellT.stable wr.heap.size #[bv e.1, .int .i64 m] tPE).both ((hJ Dj).both ((CellT.stable ka #[.slice (some ⟨b, off, none⟩) A.length cap] tAuts).both ((CellT.stable ky #[.func (.yield l) #[] #[]] tYw).both ((CellT.stable kw #[.slice wa2 pre.length wc2] tBs).both ((CellT.stable kv #[visV ka ky kw kv] tVw).both HR.out)))))
          obtain ⟨g0, _, _⟩ := h4.cellF (o := 0) rfl
          obtain ⟨g1, gf1, _⟩ := h4.drop.drop.drop.drop.cellF (o := 0) rfl
          have hpre2 : Dj ++ pwT (pre ++ [e.1]) (wT ct []) <+: L := by
            have h1 := HPRE.out
            rw [hDj, lE_cons, ← List.append_assoc] at h1
            exact (List.prefix_append _ _).trans h1
          have hDj2 : DD = Dj ++ pwT (pre ++ [e.1]) (wT ct []) ++ pwT pre (lE r []) := by rw [hDj, lE_cons, List.append_assoc]
          have H5 := Lib.hid h5
          have HST5 := Lib.hid hst5
          have HED := Lib.hid (And.intro he hm)
          have HR2 := Lib.hid hr
          have HCT := Lib.hid hct
          have HP2 := Lib.hid hpre2
          have HDJ := Lib.hid hDj2
          clear h3 h4 h5 hst3 hst5 he hm hr hct hut he0 hpre2 hDj hDj2
          (repeat' (first | (gi_big_may; ((gi_at_builtin; go_must (refine wpListIn_append_to rfl _ _ 102 5 rfl Try.underlying102 info_u8 rfl (by decide) rfl (H5.out) (HST5.out) rfl (by first | rfl | simp) rfl (one_int _ _) (by unfold maxLen; omega) (by omega) ?_); intro a2 c2 w2 h6 _); obtain ⟨q1, qf1, _⟩ := h6.drop.drop.drop.drop.drop.cellF (o := 0) rfl; obtain ⟨q2, _, _⟩ := h6.drop.drop.drop.drop.drop.drop.cellF (o := 0) rfl; obtain ⟨q3, _, _⟩ := h6.drop.cellF (o := 1) rfl; have nk := At.cellNe (h6.drop.drop.drop.drop.drop); have nk2 := At.cellNe (h6.drop.pull5); have H6 := Lib.hid h6; clear h6 g0 g1 gf1)) | go_values | gi_guarded | gi_step | gi_upon | gi_back | dsimp only))
          have h7 := (H6.out.pull6.setCell ((RowG.stable _ _ _ _ _).both ((CellT.stable wr.heap.size #[bv e.1, .int .i64 m] tPE).both ((hJ Dj).both ((CellT.stable ka #[.slice (some ⟨b, off, none⟩) A.length cap] tAuts).both ((CellT.stable ky #[.func (.yield l) #[] #[]] tYw).both ((CellT.stable kv #[visV ka ky kw kv] tVw).both HR.out)))))) 0 (.slice a2 (pre.length + 1) c2)).dwIn
          have h8 : At W (w2.setCell ⟨kw, 0, none⟩ (.slice a2 (pre.length + 1) c2)) (DwT l ka ky kw kv (.slice (some ⟨b, off, none⟩) A.length cap) (.slice a2 (pre.length + 1) c2) (pre ++ [e.1]) (J Dj) (Both (CellT wr.heap.size #[bv e.1, .int .i64 m] tPE) R)) := by
            have z1 : (pre ++ [e.1]).length = pre.length + 1 := by simp
            have z2 : bvs (pre ++ [e.1]) = bvs pre ++ (#[bv e.1] : Array Value).toList := by rw [bvs_append]; rfl
            unfold DwT
            rw [z1, z2]
            exact h7
          have hcall := IH.out _ m ct _ (pre ++ [e.1]) Dj _ h8 ((CellT.stable _ _ _).both HR.out) HCT.out (by omega) (by rw [List.length_append, List.length_singleton]; omega) HP2.out
          have HCALL := Lib.hid hcall
          clear h7 h8 hcall q1 qf1 q2 q3 nk nk2 e0 e1 H6
          refine ⟨trivial, rfl, callsIn_wide.2 (HCALL.out.mono ?_)⟩
          rintro e5 w5 (⟨rfl, vw5, h9⟩ | ⟨rfl, d, vw5, pre5, hd, h9⟩)
          · obtain ⟨g5, cap5, rfl, _, _, _⟩ := own_cut h9.drop.drop.drop.drop.rowG (by simp)
            have h9b : At W w5 (Both (J (Dj ++ pwT (pre ++ [e.1]) (wT ct []))) (Both (CellT ka #[.slice (some ⟨b, off, none⟩) A.length cap] tAuts) (Both (CellT ky #[.func (.yield l) #[] #[]] tYw) (Both (CellT kw #[.slice (some ⟨g5, 0, none⟩) (pre.length + 1) cap5] tBs) (Both (RowG 5 1 (.slice (some ⟨g5, 0, none⟩) (pre.length + 1) cap5) (pre.length + 1) (bvs (pre ++ [e.1]))) (Both (CellT kv #[visV ka ky kw kv] tVw) (Both (CellT wr.heap.size #[bv e.1, .int .i64 m] tPE) R))))))) := by
              have z1 : (pre ++ [e.1]).length = pre.length + 1 := by simp
              have := h9
              unfold DwT at this
              rw [z1] at this
              exact this
            obtain ⟨k1, kf1, _⟩ := h9b.drop.drop.drop.cellF (o := 0) rfl
            have hcpl : (pre.length : Int) ≤ (cap5 : Int) := by have := h9b.drop.drop.drop.drop.rowG; obtain ⟨_, hh⟩ := this; rcases hh with ⟨hh, _⟩ | ⟨_, _, _, hh, _, _, h1, _⟩ <;> cases hh; omega
            have hlw : IntKind.i64.wrap (pre.length : Int) = (pre.length : Int) := by rw [IntKind.wrap_i64] <;> omega
            have hlw2 : IntKind.i64.wrap ((pre.length : Int) + 1 - 1) = (pre.length : Int) := by rw [IntKind.wrap_i64] <;> omega
            have z3 : (bvs (pre ++ [e.1])).take (pre.length * 1) = bvs pre := by rw [Nat.mul_one, bvs_append]; exact List.take_left' (bvs_length pre)
            have h10 := (h9b.pull5.rowCut (m := pre.length) (by omega)).pull5
            rw [z3] at h10
            have h11 := h10.setCell ((RowG.stable _ _ _ _ _).both ((hJ _).both ((CellT.stable _ _ _).both ((CellT.stable _ _ _).both ((CellT.stable _ _ _).both ((CellT.stable _ _ _).both HR.out)))))) 0 (.slice (some ⟨g5, 0, none⟩) pre.length cap5)
            have H12 := Lib.hid (show At W _ (DwT l ka ky kw kv (.slice (some ⟨b, off, none⟩) A.length cap) (.slice (some ⟨g5, 0, none⟩) pre.length cap5) pre (J (Dj ++ pwT (pre ++ [e.1]) (wT ct []))) R) from h11.dwOut)
            clear h9 h9b h10 h11 z3 HCALL
            (repeat' (first | (gi_big_may; fail) | go_values | gi_guarded | gi_step | gi_upon | gi_back | dsimp only))
            go_roundw
            case rel => exact ⟨j + 1, r, _, _, by simp, by omega, HR2.out, by omega, HDJ.out, H12.out⟩
            case measure => simp [intOf] <;> omega
          · have H9 := Lib.hid (show At W w5 (DwT l ka ky kw kv (.slice (some ⟨b, off, none⟩) A.length cap) vw5 pre5 (Jx d) R) from h9.dwLose)
            have HDX := Lib.hid hd
            clear h9 hd HCALL
            (repeat' (first | (gi_big_may; fail) | go_values | gi_guarded | gi_step | gi_upon | gi_back | dsimp only))
            go_ret
            exact .inr ⟨rfl, _, _, _, HDX.out, H9.out⟩
        · obtain rfl : j = x.edges.length := by omega
          rw [List.drop_eq_nil_of_le (Nat.le_refl _)] at hut
          obtain rfl := hut.nil
          simp only [lE, pwT, List.map_nil, List.append_nil] at hDj
          have H3 := Lib.hid h3
          have HDJ := Lib.hid hDj
          clear h3 hDj hut
          (repeat' (first | (gi_big_may; fail) | go_values | gi_guarded | gi_step | gi_upon | gi_back | dsimp only))
          go_ret
          exact .inl ⟨rfl, _, by rw [HDJ.out]; exact H3.out⟩
    | true =>
      rw [hf] at d0
      have hwh := wT_head (pre := pre) (by rw [HFIN.out]; exact hf)
      have hp1 : done ++ [pre] <+: L := by
        have h1 := HPRE.out
        rw [hwh, ← List.append_assoc] at h1
        exact (List.prefix_append _ _).trans h1
      have hD : done ++ pwT pre (wT t []) = done ++ [pre] ++ pwT pre (lE t []) := by rw [hwh, List.append_assoc]
      obtain ⟨fn, tmps, assign, body, hy, hRd⟩ := hY done pre hp1 w _ ((CellT.stable ky #[.func (.yield l) #[] #[]] tYw).both ((CellT.stable kw #[.slice wa pre.length wca] tBs).both ((RowG.stable 5 1 (.slice wa pre.length wca) pre.length (bvs pre)).both ((CellT.stable kv #[visV ka ky kw kv] tVw).both HR.out)))) H.out
      unfold encW at hy
      have hcv := run_string_own (P := Try.prog) (w := w) 102 9 5 (.slice wa pre.length wca) pre.length pre Try.underlying102 Try.underlying5 Try.underlying9 (H.out.drop.drop.drop.drop.rowG)
      clear hwh hf
      generalize done ++ pwT pre (wT t []) = DD at *
      have HD := Lib.hid hD
      have HP1 := Lib.hid hp1
      clear hD hp1
      (refine (callsIn_wide (n := 0)).1 (callsIn_of_wp Try.func44 rfl trivial ?_ rfl); simp only [Try.ntmps44, List.size_toArray, List.length_cons, List.length_nil, Nat.reduceAdd, Nat.reduceSub, Array.replicate_succ, Array.replicate_zero, List.push_toArray, List.append_toArray, List.nil_append, List.cons_append])
      (repeat' (first | (gi_big_may; fail) | go_values | gi_guarded | gi_step | gi_upon | gi_back | dsimp only))
      refine ⟨rfl, hRd.mono ?_⟩
      clear hRd hy hcv
      rintro e w1 (⟨rfl, hS⟩ | ⟨rfl, hS⟩)
      · have hD := HD.out
        clear H d0 c0 cy cw HD HP1
        obtain ⟨c0, _, _⟩ := hS.drop.cellF (o := 0) rfl
        obtain ⟨cw, _, _⟩ := hS.drop.drop.drop.cellF (o := 0) rfl
        have d1 := (hS.below.cell (World.block_lt_of_cell? _ _ D1.out)).trans D1.out
        have HS := Lib.hid hS
        have HD := Lib.hid hD
        clear hS hD
        (repeat' (first | (gi_big_may; fail) | go_values | gi_guarded | gi_step | gi_upon | gi_back | dsimp only))
        clear cw c0
        gi_loopw [27] (fun vj wr => ∃ (j : Nat) (tj : Trie) (vw2 : Value) (Dj : List (List UInt8)), vj = .int .i64 j ∧ j ≤ x.edges.length ∧ UnfE A tj x.final (x.edges.drop j) ∧ htT tj ≤ htT t ∧ DD = Dj ++ pwT pre (lE tj []) ∧ At W wr (DwT l ka ky kw kv (.slice (some ⟨b, off, none⟩) A.length cap) vw2 pre (J Dj) R)) (fun vj _ => x.edges.length - (intOf vj).toNat)
        case atStart => exact ⟨0, t, _, _, rfl, Nat.zero_le _, HU.out, Nat.le_refl _, HD.out, HS.out⟩
        case round =>
          obtain ⟨j, tj, vw2, Dj, rfl, hj, hut, hhj, hDj, h3⟩ := hrel
          obtain ⟨wa2, wc2, rfl, _, hwc2⟩ := own_shape h3.drop.drop.drop.drop.rowG
          unfold maxLen at hwc2
          by_cases hlj : j < x.edges.length
          · obtain ⟨e, he⟩ : ∃ e, x.edges[j]? = some e := ⟨_, List.getElem?_eq_getElem hlj⟩
            rw [drop_at he] at hut
            obtain ⟨ct, r, rfl, he0, hct, hr⟩ := hut.cons
            obtain ⟨m, hm⟩ := Int.eq_ofNat_of_zero_le he0
            rw [hm, Int.toNat_natCast] at hct
            simp only [htT] at hhj
            have hjI : (j : Int) < (x.edges.length : Int) := by omega
            obtain ⟨be, oe, ce, hse, e0, e1⟩ := RdEds.at (HE.out.below h3.below) he
            cases hse
            rw [hm] at e1
            have hst3 := HST.out (.slice wa2 pre.length wc2) pre Dj
            have h4 := h3.newCell hst3 #[bv e.1, .int .i64 m] tPE
            have h5 := h4.pull6
            have hst5 := (CellT.stable wr.heap.size #[bv e.1, .int .i64 m] tPE).both ((hJ Dj).both ((CellT.stable ka #[.slice (some ⟨b, off, none⟩) A.length cap] tAuts).both ((CellT.stable ky #[.func (.yield l) #[] #[]] tYw).both ((CellT.stable kw #[.slice wa2 pre.length wc2] tBs).both ((CellT.stable kv #[visV ka ky kw kv] tVw).both HR.out)))))
            obtain ⟨g0, _, _⟩ := h4.cellF (o := 0) rfl
            obtain ⟨g1, gf1, _⟩ := h4.drop.drop.drop.drop.cellF (o := 0) rfl
            have hpre2 : Dj ++ pwT (pre ++ [e.1]) (wT ct []) <+: L := by
              have h1 := HPRE.out
              rw [hDj, lE_cons, ← List.append_assoc] at h1
              exact (List.prefix_append _ _).trans h1
            have hDj2 : DD = Dj ++ pwT (pre ++ [e.1]) (wT ct []) ++ pwT pre (lE r []) := by rw [hDj, lE_cons, List.append_assoc]
            have H5 := Lib.hid h5
            have HST5 := Lib.hid hst5
            have HED := Lib.hid (And.intro he hm)
            have HR2 := Lib.hid hr
            have HCT := Lib.hid hct
            have HP2 := Lib.hid hpre2
            have HDJ := Lib.hid hDj2
            clear h3 h4 h5 hst3 hst5 he hm hr hct hut he0 hpre2 hDj hDj2
            (repeat' (first | (gi_big_may; ((gi_at_builtin; go_must (refine wpListIn_append_to rfl _ _ 102 5 rfl Try.underlying102 info_u8 rfl (by decide) rfl (H5.out) (HST5.out) rfl (by first | rfl | simp) rfl (one_int _ _) (by unfold maxLen; omega) (by omega) ?_); intro a2 c2 w2 h6 _); obtain ⟨q1, qf1, _⟩ := h6.drop.drop.drop.drop.drop.cellF (o := 0) rfl; obtain ⟨q2, _, _⟩ := h6.drop.drop.drop.drop.drop.drop.cellF (o := 0) rfl; obtain ⟨q3, _, _⟩ := h6.drop.cellF (o := 1) rfl; have nk := At.cellNe (h6.drop.drop.drop.drop.drop); have nk2 := At.cellNe (h6.drop.pull5); have H6 := Lib.hid h6; clear h6 g0 g1 gf1)) | go_values | gi_guarded | gi_step | gi_upon | gi_back | dsimp only))
            have h7 := (H6.out.pull6.setCell ((RowG.stable _ _ _ _ _).both ((CellT.stable wr.heap.size #[bv e.1, .int .i64 m] tPE).both ((hJ Dj).both ((CellT.stable ka #[.slice (some ⟨b, off, none⟩) A.length cap] tAuts).both ((CellT.stable ky #[.func (.yield l) #[] #[]] tYw).both ((CellT.stable kv #[visV ka ky kw kv] tVw).both HR.out)))))) 0 (.slice a2 (pre.length + 1) c2)).dwIn
            have h8 : At W (w2.setCell ⟨kw, 0, none⟩ (.slice a2 (pre.length + 1) c2)) (DwT l ka ky kw kv (.slice (some ⟨b, off, none⟩) A.length cap) (.slice a2 (pre.length + 1) c2) (pre ++ [e.1]) (J Dj) (Both (CellT wr.heap.size #[bv e.1, .int .i64 m] tPE) R)) := by
              have z1 : (pre ++ [e.1]).length = pre.length + 1 := by simp
              have z2 : bvs (pre ++ [e.1]) = bvs pre ++ (#[bv e.1] : Array Value).toList := by rw [bvs_append]; rfl
              unfold DwT
              rw [z1, z2]
              exact h7
            have hcall := IH.out _ m ct _ (pre ++ [e.1]) Dj _ h8 ((CellT.stable _ _ _).both HR.out) HCT.out (by omega) (by rw [List.length_append, List.length_singleton]; omega) HP2.out
            have HCALL := Lib.hid hcall
            clear h7 h8 hcall q1 qf1 q2 q3 nk nk2 e0 e1 H6
            refine ⟨trivial, rfl, callsIn_wide.2 (HCALL.out.mono ?_)⟩
            rintro e5 w5 (⟨rfl, vw5, h9⟩ | ⟨rfl, d, vw5, pre5, hd, h9⟩)
            · obtain ⟨g5, cap5, rfl, _, _, _⟩ := own_cut h9.drop.drop.drop.drop.rowG (by simp)
              have h9b : At W w5 (Both (J (Dj ++ pwT (pre ++ [e.1]) (wT ct []))) (Both (CellT ka #[.slice (some ⟨b, off, none⟩) A.length cap] tAuts) (Both (CellT ky #[.func (.yield l) #[] #[]] tYw) (Both (CellT kw #[.slice (some ⟨g5, 0, none⟩) (pre.length + 1) cap5] tBs) (Both (RowG 5 1 (.slice (some ⟨g5, 0, none⟩) (pre.length + 1) cap5) (pre.length + 1) (bvs (pre ++ [e.1]))) (Both (CellT kv #[visV ka ky kw kv] tVw) (Both (CellT wr.heap.size #[bv e.1, .int .i64 m] tPE) R))))))) := by
                have z1 : (pre ++ [e.1]).length = pre.length + 1 := by simp
                have := h9
                unfold DwT at this
                rw [z1] at this
                exact this
              obtain ⟨k1, kf1, _⟩ := h9b.drop.drop.drop.cellF (o := 0) rfl
              have hcpl : (pre.length : Int) ≤ (cap5 : Int) := by have := h9b.drop.drop.drop.drop.rowG; obtain ⟨_, hh⟩ := this; rcases hh with ⟨hh, _⟩ | ⟨_, _, _, hh, _, _, h1, _⟩ <;> cases hh; omega
              have hlw : IntKind.i64.wrap (pre.length : Int) = (pre.length : Int) := by rw [IntKind.wrap_i64] <;> omega
              have hlw2 : IntKind.i64.wrap ((pre.length : Int) + 1 - 1) = (pre.length : Int) := by rw [IntKind.wrap_i64] <;> omega
              have z3 : (bvs (pre ++ [e.1])).take (pre.length * 1) = bvs pre := by rw [Nat.mul_one, bvs_append]; exact List.take_left' (bvs_length pre)
              have h10 := (h9b.pull5.rowCut (m := pre.length) (by omega)).pull5
              rw [z3] at h10
              have h11 := h10.setCell ((RowG.stable _ _ _ _ _).both ((hJ _).both ((CellT.stable _ _ _).both ((CellT.stable _ _ _).both ((CellT.stable _ _ _).both ((CellT.stable _ _ _).both HR.out)))))) 0 (.slice (some ⟨g5, 0, none⟩) pre.length cap5)
              have H12 := Lib.hid (show At W _ (DwT l ka ky kw kv (.slice (some ⟨b, off, none⟩) A.length cap) (.slice (some ⟨g5, 0, none⟩) pre.length cap5) pre (J (Dj ++ pwT (pre ++ [e.1]) (wT ct []))) R) from h11.dwOut)
              clear h9 h9b h10 h11 z3 HCALL
              (repeat' (first | (gi_big_may; fail) | go_values | gi_guarded | gi_step | gi_upon | gi_back | dsimp only))
              go_roundw
              case rel => exact ⟨j + 1, r, _, _, by simp, by omega, HR2.out, by omega, HDJ.out, H12.out⟩
              case measure => simp [intOf] <;> omega
            · have H9 := Lib.hid (show At W w5 (DwT l ka ky kw kv (.slice (some ⟨b, off, none⟩) A.length cap) vw5 pre5 (Jx d) R) from h9.dwLose)
              have HDX := Lib.hid hd
              clear h9 hd HCALL
              (repeat' (first | (gi_big_may; fail) | go_values | gi_guarded | gi_step | gi_upon | gi_back | dsimp only))
              go_ret
              exact .inr ⟨rfl, _, _, _, HDX.out, H9.out⟩
          · obtain rfl : j = x.edges.length := by omega
            rw [List.drop_eq_nil_of_le (Nat.le_refl _)] at hut
            obtain rfl := hut.nil
            simp only [lE, pwT, List.map_nil, List.append_nil] at hDj
            have H3 := Lib.hid h3
            have HDJ := Lib.hid hDj
            clear h3 hDj hut
            (repeat' (first | (gi_big_may; fail) | go_values | gi_guarded | gi_step | gi_upon | gi_back | dsimp only))
            go_ret
            exact .inl ⟨rfl, _, by rw [HDJ.out]; exact H3.out⟩
      · have HS := Lib.hid hS
        (repeat' (first | (gi_big_may; fail) | go_values | gi_guarded | gi_step | gi_upon | gi_back | dsimp only))
        go_ret
        exact .inr ⟨rfl, _, _, _, HP1.out, HS.out⟩
theorem At.dwEnd {W w : World} {A B C D E F R : Thing} (h : At W w (Both A (Both B (Both C (Both D (Both E (Both F R))))))) : At W w (Both A (Both B R)) :=
  h.pull6.drop.pull5.drop.pull4.drop.pull3.drop
theorem At.dwStart {W w : World} {A B C D E F R : Thing} (h : At W w (Both A (Both B (Both C (Both D (Both E (Both F R))))))) : At W w (Both E (Both F (Both D (Both C (Both A (Both B R)))))) :=
  h.pull3.pull4.pull6.pull6
set_option maxRecDepth 100000 in
set_option maxHeartbeats 2000000 in
theorem words1_seqs {W : World} {A : List Sta} {va : Value} (hA : RdAut W va A) (hl : A.length ≤ 1048576 ∧ edgesN A ≤ 1048576) {t : Trie} (ht : Unf A 0 t) (ka : Nat) :
    Seqs Try.prog encW 43 #[ptrN ka] (wT t []) W (CellT ka #[va] tAuts) := by
  intro l J Jx hJ hJx hY w R hR h0
  have hht := htT_lt ht
  have hst := (hJ []).both ((CellT.stable ka #[va] tAuts).both hR)
  have h1 := h0.newCell hst #[.func (.yield l) #[] #[]] tYw
  have h2 := h1.newCell ((CellT.stable _ _ _).both hst) #[.slice none 0 0] tBs
  have h3 := h2.newCell ((CellT.stable _ _ _).both ((CellT.stable _ _ _).both hst)) #[visV ka w.heap.size (w.heap.size + 1) (w.heap.size + 1 + 1)] tVw
  have h5 := h3.noRowG ((CellT.stable _ _ _).both ((CellT.stable _ _ _).both ((CellT.stable _ _ _).both hst))) 5 1
  simp only [alloc_size] at h2 h3 h5
  have h6 := h5.dwStart
  have hp : ([] : List (List UInt8)) ++ pwT [] (wT t []) <+: wT t [] := by rw [pwT_nil, List.nil_append]; exact List.prefix_refl _
  have hcall := wvisit_at hA hl (wT t []) l J Jx hJ ka w.heap.size (w.heap.size + 1) (w.heap.size + 1 + 1) hY (htT t + 1) _ 0 t (.slice none 0 0) [] [] R h6 hR ht (Nat.lt_succ_self _) (by simp; omega) hp
  rw [pwT_nil, List.nil_append] at hcall
  have HC := Lib.hid hcall
  clear h1 h2 h3 h5 h6 hp hcall
  (refine (callsIn_wide (n := 0)).1 (callsIn_of_wp Try.func43 rfl trivial ?_ rfl); simp only [Try.ntmps43, List.size_toArray, List.length_cons, List.length_nil, Nat.reduceAdd, Nat.reduceSub, Array.replicate_succ, Array.replicate_zero, List.push_toArray, List.append_toArray, List.nil_append, List.cons_append])
  (repeat' (first | (gi_big_may; fail) | go_values | gi_guarded | gi_step | gi_upon | gi_back | dsimp only))
  refine ⟨trivial, rfl, callsIn_wide.2 (HC.out.mono ?_)⟩
  rintro e5 w5 (⟨rfl, vw5, h9⟩ | ⟨rfl, d, vw5, pre5, hd, h9⟩)
  · have H9 := Lib.hid h9.dwEnd
    clear h9 HC
    (repeat' (first | (gi_big_may; fail) | go_values | gi_guarded | gi_step | gi_upon | gi_back | dsimp only))
    go_end0
    exact ⟨⟨_, rfl⟩, .inl H9.out⟩
  · have H9 := Lib.hid h9.dwEnd
    have HD := Lib.hid hd
    clear h9 HC hd
    (repeat' (first | (gi_big_may; fail) | go_values | gi_guarded | gi_step | gi_upon | gi_back | dsimp only))
    go_end0
    exact ⟨⟨_, rfl⟩, .inr ⟨_, HD.out, H9.out⟩⟩
theorem words_calls (w : World) (ao : Option Addr) (n cap : Nat) :
    Calls Try.prog 26 #[.slice ao n cap] w fun e w' => e = .returned (.func (.func 43) #[] #[ptrN w.heap.size]) ∧ w' = w.alloc (.cells #[.slice ao n cap] tAuts) := by
  go_enter Try.func26, Try.ntmps26
  (repeat' (first | (go_big_may; fail) | go_values | go_skip | go_guarded | go_step | go_upon | go_back | dsimp only))
  go_ret
  exact ⟨rfl, rfl⟩
end
end Go.Proofs.Ytcbdncjknpdnbaa
