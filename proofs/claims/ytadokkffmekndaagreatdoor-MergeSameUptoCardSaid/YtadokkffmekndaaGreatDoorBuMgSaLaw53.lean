/- merge.merged walked: the list is an owned row that is read and appended to at an offset. · merge.Merge walked. · merge.Sort walked. · hornbooklaw10: wakes walked. · MergeSorts, MergeSame, MergeAgain: what a sort leaves in a store with room; no program in sight. · The law MergeSame walked. -/
import Derived.Test.YtadokkffmekndaaGreatDoorBuMgSaLaw52
import Derived.Test.YtadokkffmekndaaGreatDoorBuMgSaLaw44
import Derived.Test.YtadokkffmekndaaGreatDoorBuMgSaLaw48
import Derived.Test.YtadokkffmekndaaGreatDoorBuMgSaLaw43
import Derived.Test.YtadokkffmekndaaGreatDoorBuMgSaLaw51
import Derived.ArgAppend
import Derived.Deep.QuietTactic
import Derived.BigQuiet
import Derived.BigRegion
set_option linter.unusedSimpArgs false
set_option linter.unusedVariables false
namespace Go.Proofs.YtadokkffmekndaaGreatDoor
open Go.RowKit

/-- The ints l lie in these cells from o on, with room up to cap. -/
structure SliF (cs : Array Value) (o cap : Nat) (l : List Int) : Prop where
  fit : l.length ≤ cap
  top : o + cap ≤ cs.size
  max : cap ≤ maxLen
  at_ : ∀ (j : Nat) (z : Int), l[j]? = some z → cs[o + j]? = some (.int .i64 z)
section
variable {cs : Array Value} {o cap : Nat} {l : List Int} {g : Nat} {w : World}
theorem SliF.rd (h : SliF cs o cap l) (hc : w.heap[g]? = some (.cells cs tInt (0, 0))) : RdRow w (.slice (some ⟨g, o, none⟩) l.length cap) l.length 1 (intsV l) :=
  ⟨by simp [intsV], _, _, rfl, h.fit, h.max, fun j u hj => ⟨g, o, rfl, by
    obtain ⟨z, hz, rfl⟩ : ∃ z, l[j]? = some z ∧ Value.int .i64 z = u := by simpa [intsV] using hj
    rw [cell_at hc]
    exact h.at_ j z hz⟩⟩
theorem SliF.take (h : SliF cs o cap l) (k : Nat) : SliF cs o cap (l.take k) :=
  ⟨by have := h.fit; rw [List.length_take]; omega, h.top, h.max, fun j z hz => h.at_ j z (by
    rw [List.getElem?_take] at hz
    split at hz
    · exact hz
    · cases hz)⟩
theorem SliF.drop (h : SliF cs o cap l) {k : Nat} (hk : k ≤ l.length) : SliF cs (o + k) (cap - k) (l.drop k) :=
  ⟨by have := h.fit; rw [List.length_drop]; omega, by have := h.top; have := h.fit; omega, by have := h.max; omega, fun j z hz => by
    rw [List.getElem?_drop] at hz
    rw [Nat.add_assoc]
    exact h.at_ _ z hz⟩
end
section
variable {W w : World} {R : Thing} {l : List Int} {v : Value}
theorem At.rowCells (h : At W w (Both (RowG tInt 1 v l.length (intsV l)) R)) (hl : l ≠ []) : ∃ g cap cs, v = .slice (some ⟨g, 0, none⟩) l.length cap ∧ SliF cs 0 cap l ∧ At W w (Both (CellT g cs tInt) R) := by
  obtain ⟨g, cap, rfl, _, hc1, hc2⟩ := own_cut h.rowG (List.length_pos_iff.2 hl)
  have h1 := h.rowG
  obtain ⟨_, ⟨h3, _⟩ | ⟨g', cap', cur, h3, _, h5, h6, h7, h8, h9⟩⟩ := h1
  · cases h3
  · cases h3
    refine ⟨g, cap, cur, rfl, ⟨h6, by omega, h7, fun j z hz => ?_⟩, h.impl fun fp q => ?_⟩
    · have h10 : (intsV l)[j]? = some (.int .i64 z) := by simp [intsV, hz]
      rw [← h9, List.getElem?_take] at h10
      split at h10
      · simpa using h10
      · cases h10
    · obtain ⟨f, gg, ⟨_, rfl⟩, h2⟩ := q
      exact ⟨_, gg, ⟨h5, rfl⟩, h2⟩
theorem slice_append {cs : Array Value} {g o cap : Nat} (h : At W w (Both (CellT g cs tInt) R)) (hR : Stable R) (hs : SliF cs o cap l) (n : Int) (hl : l.length ≤ 1099511627776) (ty : TypeId) :
    ∃ v' w' g' o' cap' cs', (Builtin.append_ #[23, 23] ty #[.slice (some ⟨g, o, none⟩) l.length cap, .slice (some ⟨w.heap.size, 0, none⟩) 1 1]).run Tryz.prog (w.alloc (.cells #[.int .i64 n] tInt)) = .ok v' w' ∧ v' = .slice (some ⟨g', o', none⟩) (l.length + 1) cap' ∧ SliF cs' o' cap' (l ++ [n]) ∧ At W w' (Both (CellT g' cs' tInt) R) := by
  obtain ⟨i0, hi, hz⟩ : ∃ i, Tryz.prog.info? tInt = some i ∧ (i.zero, i.size, i.bytes) = (some (.int .i64 0), 1, 8) := by
    have := info_int
    cases hq : Tryz.prog.info? tInt with
    | none => rw [hq] at this; cases this
    | some i => rw [hq] at this; exact ⟨i, rfl, by simpa using this⟩
  simp only [Prod.mk.injEq] at hz
  obtain ⟨hz0, hz1, hz2⟩ := hz
  have hst := (CellT.stable g cs tInt).both hR
  have h1 := h.newCell hst #[.int .i64 n] tInt
  have hnw : ∀ j u, [Value.int .i64 n][j]? = some u → (w.alloc (.cells #[.int .i64 n] tInt)).cell? ((⟨w.heap.size, 0, none⟩ : Addr).add j) = some u := fun j u hu => by
    match j with
    | 0 =>
      simp at hu
      subst hu
      exact cell_at h1.cell.1 0
    | j + 1 => simp at hu
  have hc := h1.drop.cell.1
  by_cases hr : l.length + 1 ≤ cap
  · have hrm := run_append_room_cells (P := Tryz.prog) (w.alloc (.cells #[.int .i64 n] tInt)) 23 ty tInt i0 Tryz.underlying23 hi g o l.length cap ⟨w.heap.size, 0, none⟩ 1 1 [.int .i64 n] (by rw [hz1]; rfl) hnw (by simp [Value.oneCell']) hr
      (fun j hj => by
        have hj0 : j = 0 := by simpa using hj
        subst hj0
        rw [hz1, cell_at hc]
        have := hs.top
        simp
        omega)
      (fun j hj => thaw_at hc _)
    rw [hz1] at hrm
    have h2 := h1.drop.setCell hR (o + l.length) (.int .i64 n)
    refine ⟨_, _, g, o, cap, cs.setIfInBounds (o + l.length) (.int .i64 n), hrm, rfl, ⟨by simp; omega, by simpa using hs.top, hs.max, fun j z hj => ?_⟩, by simpa [World.setCells] using h2⟩
    by_cases hjl : j < l.length
    · rw [List.getElem?_append_left hjl] at hj
      rw [Array.getElem?_setIfInBounds_ne (by omega)]
      exact hs.at_ j z hj
    · rw [List.getElem?_append_right (by omega)] at hj
      have hj0 : j - l.length = 0 := by
        have := (List.getElem?_eq_some_iff.1 hj).1
        simp at this
        omega
      rw [hj0] at hj
      simp at hj
      subst hj
      have hje : j = l.length := by omega
      subst hje
      rw [Array.getElem?_setIfInBounds_self_of_lt (by have := hs.top; omega)]
  · have hcl : cap = l.length := by have := hs.fit; omega
    obtain ⟨v', w', hrn, ho, hg⟩ := run_append_arg_grows (P := Tryz.prog) (w.alloc (.cells #[.int .i64 n] tInt)) 23 ty tInt i0 (.int .i64 0) 1 8 Tryz.underlying23 hi hz0 hz1 hz2 rfl (by decide)
      ⟨g, o, none⟩ l.length cap (intsV l) (by simp [intsV]) (fun j u hu => by
        obtain ⟨z, hz, rfl⟩ : ∃ z, l[j]? = some z ∧ Value.int .i64 z = u := by simpa [intsV] using hu
        rw [Addr.add_lit, cell_at hc]
        exact hs.at_ j z hz)
      ⟨w.heap.size, 0, none⟩ 1 1 [.int .i64 n] rfl hnw (by omega) (by unfold maxLen; omega) (by omega)
    have hb : Below (w.alloc (.cells #[.int .i64 n] tInt)).heap.size (w.alloc (.cells #[.int .i64 n] tInt)) w' := (Below.refl _ _).grown hg (Nat.le_refl _) (fun k hk => by cases hk)
    have e1 : intsV l ++ [Value.int .i64 n] = intsV (l ++ [n]) := by simp [intsV]
    have e2 : l.length + 1 = (l ++ [n]).length := by simp
    rw [e1, e2] at ho
    have h2 := (h1.newRowG ((CellT.stable _ _ _).both hst) hb ho).perm (show _ = Both (CellT w.heap.size #[.int .i64 n] tInt) (Both (CellT g cs tInt) (Both (RowG tInt 1 v' (l ++ [n]).length (intsV (l ++ [n]))) R)) by ac_rfl)
    obtain ⟨g', cap', cs', hv, hsf, h3⟩ := h2.drop.drop.rowCells (by simp)
    exact ⟨v', w', g', 0, cap', cs', hrn, by rw [hv, ← e2], hsf, h3⟩
end
section
variable {W w : World} {R : Thing} {b : Nat} {ef : Nat → Nat × Nat} {S : St} {l : List Int} {v : Value}
theorem wpList_append_run {P : Program} {ops : Array Oper} {rest : List Oper} {o : Oper} {a : Act} {Q : Exit → Act → World → Prop} {w w' : World} (hgd : o.guard = none)
    (s x : Operand) (t : TypeId) (ho : o.op = .call { callee := .builtin .append, args := #[s, x], argTypes := #[t, t] }) {sv xv v' : Value} (hs : a.eval s = sv) (hx : a.eval x = xv)
    (hr : (Builtin.append_ #[t, t] o.type #[sv, xv]).run P w = .ok v' w') (h : wpList P ops Q rest (a.put o.dst v') w') : wpList P ops Q (o :: rest) a w := by
  refine wpList_plain hgd fun K hK' => ?_
  unfold Oper.wp
  simp [execOp, ho, resolve, invoke, builtin, hs, hx, hr, Result.andThen]
  exact hK' _ _ h
def sliN : Value → Nat
  | .slice _ n _ => n
  | _ => 0
/-- What merged computes. -/
def mergedP (S : St) (fan : Int) (l : List Int) : St × Int × Nat := if l = [] then ((writtenP S []).1, ((writtenP S []).2.1 : Int), (writtenP S []).2.2) else loopM fan.toNat l.length S l
set_option maxRecDepth 100000 in
set_option maxHeartbeats 6400000 in
theorem merged_at (h : At W w (Both (RowG tInt 1 v l.length (intsV l)) (Both (StoreT b S) R))) (hR : Stable R) (hF : Fails W ef fails13) (hG : GoodS S) (hl : LokP S l) {fan : Int} (hf : 2 ≤ fan ∧ fan ≤ 64) :
    Calls Tryz.prog 39 #[.pointer (some ⟨b, 0, none⟩), .int .i64 fan, v] w fun e w' => e = .returned (.tuple #[.int .i64 (mergedP S fan l).2.1, errV ef (mergedP S fan l).2.2]) ∧ At W w' (Both (StoreT b (mergedP S fan l).1) R) := by
  obtain ⟨ao, cp, rfl, hc1, hc2⟩ := own_shape h.rowG
  obtain ⟨res, hres⟩ : ∃ res, res = mergedP S fan l := ⟨_, rfl⟩
  rw [← hres]
  unfold mergedP at hres
  have hlen := hl.few hG
  by_cases hn : l = []
  · subst hn
    rw [if_pos rfl] at hres
    have hrd := round_at (l := []) (v := .slice none 0 0) h.drop hR hF hG hl (by decide) ⟨none, 0, rfl⟩ (fun w' _ => ⟨rfl, none, 0, rfl, Nat.le_refl _, by simp [maxLen], fun j u hu => by simp [intsV] at hu⟩)
    have ea : allP S [] = [] := ofL_nil
    rw [ea] at hrd
    have HRD := Lib.hid hrd
    have HRES := Lib.hid hres
    clear h hR hF hG hl hres hrd ea hc1 hc2 hlen
    go_enter Tryz.func39, Tryz.ntmps39
    (repeat' (first | (go_big_may; fail) | go_values | go_skip | go_guarded | go_step | go_upon | go_back | dsimp only))
    refine HRD.out.mono ?_
    rintro e w1 ⟨rfl, h1⟩
    have H1 := Lib.hid h1
    clear h1 HRD
    (repeat' (first | (go_big_may; fail) | go_values | go_skip | go_guarded | go_step | go_upon | go_back | dsimp only))
    go_ret2
    rw [HRES.out]
    exact ⟨rfl, H1.out⟩
  · rw [if_neg hn] at hres
    obtain ⟨g0, cap0, cs0, hv0, hs0, h0⟩ := h.rowCells hn
    simp only [Value.slice.injEq] at hv0
    obtain ⟨rfl, _, rfl⟩ := hv0
    have hl1 : 1 ≤ l.length := List.length_pos_iff.2 hn
    have hne : ((l.length : Int) == 0) = false := by simp; exact hn
    have H0 := Lib.hid h0
    have HS0 := Lib.hid hs0
    have HR := Lib.hid hR
    have HF := Lib.hid hF
    have HG := Lib.hid hG
    have HL := Lib.hid hl
    have HRES := Lib.hid hres
    have neqn : ∀ wz : World, (binOp .neq tErr .nilIface .nilIface).run Tryz.prog wz = .ok (.bool false) wz := fun wz => neq_nil wz
    clear h h0 hs0 hR hF hG hl hres hn
    go_enter Tryz.func39, Tryz.ntmps39
    (repeat' (first | (go_big_may; fail) | go_values | go_skip | go_guarded | go_step | go_upon | go_back | dsimp only))
    go_loopw [2] (fun v2 wr => ∃ (n : Nat) (S' : St) (l' : List Int) (g o cap : Nat) (cs : Array Value), v2 = .slice (some ⟨g, o, none⟩) l'.length cap ∧ SliF cs o cap l' ∧ GoodS S' ∧ LokP S' l' ∧ 1 ≤ l'.length ∧ l'.length ≤ n ∧ res = loopM fan.toNat n S' l' ∧ At W wr (Both (CellT g cs tInt) (Both (StoreT b S') R))) (fun v2 _ => sliN v2)
    case atStart => exact ⟨l.length, S, l, g0, 0, _, cs0, rfl, HS0.out, HG.out, HL.out, hl1, Nat.le_refl _, HRES.out, H0.out⟩
    case round =>
      obtain ⟨n, S', l', g, o, cap, cs, rfl, hs, hg', hl', hp', hn', hr', h1⟩ := hrel
      clear H0 HS0 HG HL HRES hne hl1 hc1 hc2 hlen
      have hlen' := hl'.few hg'
      have hfit := hs.fit
      have hmax := hs.max
      unfold maxLen at hmax
      obtain ⟨m, rfl⟩ : ∃ m, n = m + 1 := ⟨n - 1, by omega⟩
      rw [loopM] at hr'
      have HS := Lib.hid hs
      have HG := Lib.hid hg'
      have HL := Lib.hid hl'
      by_cases hlt : l'.length ≤ 1
      · rw [if_pos hlt] at hr'
        have hi1 : ¬ (1 : Int) < l'.length := by omega
        obtain ⟨z, hz⟩ : ∃ z, l'[0]? = some z := ⟨_, List.getElem?_eq_getElem (by omega)⟩
        have hz2 : l'.getD 0 0 = z := by rw [List.getD_eq_getElem?_getD, hz]; rfl
        rw [hz2] at hr'
        have c0 := cell_at h1.cell.1 (o + 0)
        rw [hs.at_ 0 z hz] at c0
        simp only [Nat.add_zero] at c0
        have hp0 : (0 : Int) < l'.length := by omega
        have HRR := Lib.hid hr'
        have H1 := Lib.hid h1
        clear hr' h1 hs hg' hl' hz hz2
        (repeat' (first | (go_big_may; fail) | go_values | go_skip | go_guarded | go_step | go_upon | go_back | dsimp only))
        go_ret2
        rw [HRR.out]
        refine ⟨?_, H1.out.drop⟩
        show _ = Ending.returned (.tuple #[.int .i64 z, errV ef 0])
        rw [errV_zero]
        rfl
      · rw [if_neg hlt] at hr'
        have hi1 : (1 : Int) < l'.length := by omega
        obtain ⟨k, hk⟩ : ∃ k, k = min fan.toNat l'.length := ⟨_, rfl⟩
        have hk2 : 2 ≤ k ∧ k ≤ 64 ∧ k ≤ l'.length := by omega
        have hmin : min fan (l'.length : Int) = (k : Int) := by omega
        have htk : l'.take fan.toNat = l'.take k := by
          rcases Nat.le_total fan.toNat l'.length with h | h
          · rw [hk, Nat.min_eq_left h]
          · rw [hk, Nat.min_eq_right h, List.take_length, List.take_of_length_le h]
        have hdk : l'.drop fan.toNat = l'.drop k := by
          rcases Nat.le_total fan.toNat l'.length with h | h
          · rw [hk, Nat.min_eq_left h]
          · rw [hk, Nat.min_eq_right h, List.drop_length, List.drop_of_length_le h]
        rw [htk, hdk] at hr'
        have hkl : (l'.take k).length = k := by rw [List.length_take]; omega
        have hrow := fun (w' : World) (h' : At W w' (Both (CellT g cs tInt) R)) => by
          have := (HS.out.take k).rd h'.cell.1
          rwa [hkl] at this
        have hrow2 : ∀ w', At W w' (Both (CellT g cs tInt) R) → RdRow w' (.slice (some ⟨g, o, none⟩) k cap) (l'.take k).length 1 (intsV (l'.take k)) := fun w' h' => by
          have := hrow w' h'
          rwa [hkl]
        have hrnd := round_at (l := l'.take k) (v := .slice (some ⟨g, o, none⟩) k cap) (h1.perm (show _ = Both (StoreT b S') (Both (CellT g cs tInt) R) by ac_rfl)) ((CellT.stable _ _ _).both HR.out) HF.out HG.out (HL.out.take k) (by omega) ⟨_, _, by rw [hkl]⟩ hrow2
        have hz64 := HL.out.z64 HG.out
        obtain ⟨P, hP⟩ : ∃ P, P = writtenP S' (allP S' (l'.take k)) := ⟨_, rfl⟩
        have hgb := LokP.bad HG.out (l'.take k)
        have hrd' := HL.out.round HG.out k
        rw [← hP] at hrnd hr' hgb hrd'
        have HROW := Lib.hid hrow2
        have HRN := Lib.hid hrnd
        have HZ := Lib.hid hz64
        have HGB := Lib.hid hgb
        have HRO := Lib.hid hrd'
        have HKL := Lib.hid hkl
        have hk0 : (0 : Int) ≤ k := by omega
        have hkc : (k : Int) ≤ cap := by omega
        have hkn : (k : Int) ≤ l'.length := by omega
        clear hs hg' hl' hrow hrow2 hrnd hz64 hP hgb hrd' htk hdk hkl hk h1
        by_cases hz : P.2.2 = 0
        · obtain ⟨q1, q2, q3, q4⟩ := HRO.out hz
          rw [if_neg (by simpa using hz)] at hr'
          rw [hz, errV_zero] at HRN
          have hrm := fun (w' : World) (h' : At W w' (Both (StoreT b P.1) (Both (CellT g cs tInt) R))) => remove_at (l := l'.take k) (v := .slice (some ⟨g, o, none⟩) k cap) h' ((CellT.stable _ _ _).both HR.out) HF.out q4 (fun z hz => HZ.out z (List.mem_of_mem_take hz)) (by rw [HKL.out]; omega) ⟨_, _, by rw [HKL.out]⟩ HROW.out
          have HRM := Lib.hid hrm
          have HRR := Lib.hid hr'
          have HQ1 := Lib.hid q1
          have HQ2 := Lib.hid q2
          have hnum : P.2.1 ≤ 16777216 := q3
          clear hrm hr' q1 q2 q3 q4 hz
          have hA : ∀ w', At W w' (Both (CellT g cs tInt) (Both (StoreT b (goneZ P.1 (l'.take k))) R)) → ∃ v' w'' g' o' cap' cs', (Builtin.append_ #[23, 23] 23 #[.slice (if cap = k then some ⟨g, o, none⟩ else some ⟨g, o + k, none⟩) (l'.length - k) (cap - k), .slice (some ⟨w'.heap.size, 0, none⟩) 1 1]).run Tryz.prog (w'.alloc (.cells #[.int .i64 P.2.1] tInt)) = .ok v' w'' ∧ v' = .slice (some ⟨g', o', none⟩) (l'.length - k + 1) cap' ∧ SliF cs' o' cap' (l'.drop k ++ [(P.2.1 : Int)]) ∧ At W w'' (Both (CellT g' cs' tInt) (Both (StoreT b (goneZ P.1 (l'.take k))) R)) := fun w' h' => by
            by_cases hk : cap = k
            · have hs2 : SliF cs o 0 (l'.drop k) := ⟨by rw [List.length_drop]; omega, by have := HS.out.top; omega, by simp [maxLen], fun j z hz => by rw [List.drop_of_length_le (by omega)] at hz; cases hz⟩
              have := slice_append h' ((StoreT.stable _ _).both HR.out) hs2 P.2.1 (by rw [List.length_drop]; omega) 23
              rw [if_pos hk, show cap - k = 0 by omega]
              rwa [List.length_drop] at this
            · have := slice_append h' ((StoreT.stable _ _).both HR.out) (HS.out.drop (k := k) (by omega)) P.2.1 (by rw [List.length_drop]; omega) 23
              rw [if_neg hk]
              rwa [List.length_drop] at this
          have HA := Lib.hid hA
          clear hA
          (repeat' (first | (go_big_may; fail) | go_values | go_skip | go_guarded | go_step | go_upon | go_back | dsimp only))
          refine HRN.out.mono ?_
          rintro e w1 ⟨rfl, h2⟩
          have H2 := Lib.hid h2
          clear h2 HRN
          (repeat' (first | (go_big_may; fail) | go_values | go_skip | go_guarded | go_step | go_upon | go_back | dsimp only))
          refine (HRM.out w1 H2.out).mono ?_
          rintro e w2 ⟨rfl, h3⟩
          have H4 := Lib.hid (h3.perm (show _ = Both (CellT g cs tInt) (Both (StoreT b (goneZ P.1 (l'.take k))) R) by ac_rfl))
          clear h3 HRM H2
          (repeat' (first | (go_big_may; (at_builtin; obtain ⟨v5, w5, g5, o5, cap5, cs5, hap, hv5, hsf, h5⟩ := HA.out w2 H4.out; go_must (refine wpList_append_run (sv := .slice (if cap = k then some ⟨g, o, none⟩ else some ⟨g, o + k, none⟩) (l'.length - k) (cap - k)) (xv := .slice (some ⟨w2.heap.size, 0, none⟩) 1 1) (v' := v5) (w' := w5) rfl _ _ 23 rfl rfl rfl (by exact hap) ?_); have H5 := Lib.hid h5; have HSF := Lib.hid hsf; subst hv5; clear h5 hsf hap HA H4)) | go_values | go_skip | go_guarded | go_step | go_upon | go_back | dsimp only))
          go_roundw
          case rel =>
            refine ⟨m, _, _, g5, o5, cap5, cs5, ?_, HSF.out, HQ1.out, HQ2.out, by simp, ?_, HRR.out, H5.out⟩
            · rw [List.length_append, List.length_drop]; rfl
            · rw [List.length_append, List.length_drop, List.length_singleton]; omega
          case measure =>
            show l'.length - k + 1 < l'.length
            omega
        · rw [if_pos (by simpa using hz)] at hr'
          rw [errV_pos ef hz] at HRN
          have hrm := fun (w' : World) (h' : At W w' (Both (StoreT b P.1) (Both (CellT g cs tInt) R))) => remove_at (l := l') (v := .slice (some ⟨g, o, none⟩) l'.length cap) h' ((CellT.stable _ _ _).both HR.out) HF.out (HGB.out l').1 HZ.out (by omega) ⟨_, _, rfl⟩ (fun w' h' => HS.out.rd h'.cell.1)
          have HRM := Lib.hid hrm
          have HRR := Lib.hid hr'
          have HZZ := Lib.hid (errV_pos ef hz)
          have neqi := run_neq_iface_nil2 ⟨(ef P.2.2).1, (ef P.2.2).2, none⟩
          clear hrm hr' hz
          (repeat' (first | (go_big_may; fail) | go_values | go_skip | go_guarded | go_step | go_upon | go_back | dsimp only))
          refine HRN.out.mono ?_
          rintro e w1 ⟨rfl, h2⟩
          have H2 := Lib.hid h2
          clear h2 HRN
          (repeat' (first | (go_big_may; fail) | go_values | go_skip | go_guarded | go_step | go_upon | go_back | dsimp only))
          refine (HRM.out w1 H2.out).mono ?_
          rintro e w2 ⟨rfl, h3⟩
          have H3 := Lib.hid h3
          clear h3 HRM H2
          (repeat' (first | (go_big_may; fail) | go_values | go_skip | go_guarded | go_step | go_upon | go_back | dsimp only))
          go_ret2
          rw [HRR.out]
          refine ⟨?_, (H3.out.perm (show _ = Both (CellT g cs tInt) (Both (StoreT b (goneZ P.1 l')) R) by ac_rfl)).drop⟩
          show _ = Ending.returned (.tuple #[.int .i64 0, errV ef P.2.2])
          rw [HZZ.out]
          rfl
end
end Go.Proofs.YtadokkffmekndaaGreatDoor
namespace Go.Proofs.YtadokkffmekndaaGreatDoor
open Go.RowKit

section
variable {W w : World} {R : Thing} {b : Nat} {ef : Nat → Nat × Nat} {S : St} {l : List Int} {v : Value}
theorem mergeP_lim {fan : Int} (h : fan < 2 ∨ 64 < fan) : mergeP S fan l = (S, 0, 2) := by unfold mergeP; rw [if_pos h]
theorem mergeP_look {fan : Int} (h : ¬ (fan < 2 ∨ 64 < fan)) (h2 : lookP S [] l ≠ 0) : mergeP S fan l = (S, 0, lookP S [] l) := by unfold mergeP; rw [if_neg h, if_pos h2]
theorem mergeP_ok {fan : Int} (h : ¬ (fan < 2 ∨ 64 < fan)) (h2 : lookP S [] l = 0) : mergeP S fan l = mergedP S fan l := by unfold mergeP mergedP; rw [if_neg h, if_neg (by simpa using h2)]
set_option maxRecDepth 100000 in
set_option maxHeartbeats 3200000 in
theorem Merge_at (h : At W w (Both (StoreT b S) R)) (hR : Stable R) (hF : Fails W ef fails13) (hG : GoodS S) (hz : ∀ z ∈ l, inI64 z) (hlen : l.length ≤ 1099511627776) {fan : Int} (hf64 : inI64 fan) (hv : ∃ ao cp, v = .slice ao l.length cp) (hrd : ∀ w', At W w' R → RdRow w' v l.length 1 (intsV l)) :
    Calls Tryz.prog 16 #[.pointer (some ⟨b, 0, none⟩), .int .i64 fan, v] w fun e w' => e = .returned (.tuple #[.int .i64 (mergeP S fan l).2.1, errV ef (mergeP S fan l).2.2]) ∧ At W w' (Both (StoreT b (mergeP S fan l).1) R) := by
  have hlk := look_at h hR hF hz hlen hv hrd
  obtain ⟨av, cv, rfl⟩ := hv
  have hnotf : ∀ (x : Bool) (w : World), (Op.unary .not (.bool x)).run Tryz.prog w = .ok (.bool (!x)) w := fun _ _ => rfl
  have hcg := (hF.below h.below).cell (2, 1) (by decide)
  by_cases hfl : fan < 2 ∨ 64 < fan
  · rw [mergeP_lim hfl]
    dsimp only
    rw [errV_pos ef (show (2 : Nat) ≠ 0 by decide)]
    have hft := mfit_calls fan w
    rw [decide_eq_false (by omega)] at hft
    have HFT := Lib.hid hft
    have H := Lib.hid h
    have HR := Lib.hid hR
    clear h hR hF hG hz hrd hlk hft hfl
    go_enter Tryz.func16, Tryz.ntmps16
    (repeat' (first | (go_big_may; fail) | go_values | go_skip | go_guarded | go_step | go_upon | go_back | dsimp only))
    refine HFT.out.mono ?_
    rintro e w1 ⟨rfl, rfl⟩
    (repeat' (first | (go_big_may; fail) | go_values | go_skip | go_guarded | go_step | go_upon | go_back | dsimp only))
    go_quiet (fail)
    (repeat' (first | (go_big_may; fail) | go_values | go_skip | go_guarded | go_step | go_upon | go_back | dsimp only))
    go_ret2
    exact ⟨rfl, H.out.drewN ((StoreT.stable _ _).both HR.out) _⟩
  · have hft := mfit_calls fan w
    rw [decide_eq_true (by omega)] at hft
    have HFT := Lib.hid hft
    by_cases hl0 : lookP S [] l = 0
    · rw [mergeP_ok hfl hl0]
      rw [hl0, errV_zero] at hlk
      have HLK := Lib.hid hlk
      have hmg := fun (w1 w2 : World) (v' : Value) (h1 : At W w1 (Both (StoreT b S) R)) (hb : Below w1.heap.size w1 w2) (ho : w2.ownsRow w1.heap.size tInt 1 v' l.length (intsV l)) =>
        merged_at (fan := fan) (h1.newRowG ((StoreT.stable _ _).both hR) hb ho) hR hF hG (look_lok hl0) (by omega)
      have HMG := Lib.hid hmg
      have HCL := Lib.hid (fun (w1 : World) (h1 : At W w1 (Both (StoreT b S) R)) => Clone_ints (hrd w1 h1.drop) (by have := (look_lok hl0).few hG; omega))
      have neqn : ∀ wz : World, (binOp .neq tErr .nilIface .nilIface).run Tryz.prog wz = .ok (.bool false) wz := fun wz => neq_nil wz
      clear h hR hF hG hz hrd hlk hft hfl hmg hcg hl0
      go_enter Tryz.func16, Tryz.ntmps16
      (repeat' (first | (go_big_may; fail) | go_values | go_skip | go_guarded | go_step | go_upon | go_back | dsimp only))
      refine HFT.out.mono ?_
      rintro e w1 ⟨rfl, rfl⟩
      (repeat' (first | (go_big_may; fail) | go_values | go_skip | go_guarded | go_step | go_upon | go_back | dsimp only))
      refine HLK.out.mono ?_
      rintro e w2 ⟨rfl, h2⟩
      have H2 := Lib.hid h2
      clear h2 HLK
      (repeat' (first | (go_big_may; fail) | go_values | go_skip | go_guarded | go_step | go_upon | go_back | dsimp only))
      refine (HCL.out _ H2.out).mono ?_
      rintro e w3 ⟨v3, rfl, ho, hb⟩
      have HM2 := Lib.hid (HMG.out _ _ _ H2.out hb ho)
      clear ho hb HCL HMG
      (repeat' (first | (go_big_may; fail) | go_values | go_skip | go_guarded | go_step | go_upon | go_back | dsimp only))
      refine HM2.out.mono ?_
      rintro e w4 ⟨rfl, h4⟩
      have H4 := Lib.hid h4
      clear h4 HM2
      (repeat' (first | (go_big_may; fail) | go_values | go_skip | go_guarded | go_step | go_upon | go_back | dsimp only))
      go_ret2
      exact ⟨rfl, H4.out⟩
    · rw [mergeP_look hfl hl0]
      dsimp only
      rw [errV_pos ef hl0] at hlk ⊢
      have HLK := Lib.hid hlk
      have neqi := run_neq_iface_nil2 ⟨(ef (lookP S [] l)).1, (ef (lookP S [] l)).2, none⟩
      clear h hR hF hG hz hrd hlk hft hfl hl0 hcg
      go_enter Tryz.func16, Tryz.ntmps16
      (repeat' (first | (go_big_may; fail) | go_values | go_skip | go_guarded | go_step | go_upon | go_back | dsimp only))
      refine HFT.out.mono ?_
      rintro e w1 ⟨rfl, rfl⟩
      (repeat' (first | (go_big_may; fail) | go_values | go_skip | go_guarded | go_step | go_upon | go_back | dsimp only))
      refine HLK.out.mono ?_
      rintro e w2 ⟨rfl, h2⟩
      have H2 := Lib.hid h2
      clear h2 HLK
      (repeat' (first | (go_big_may; fail) | go_values | go_skip | go_guarded | go_step | go_upon | go_back | dsimp only))
      go_ret2
      exact ⟨rfl, H2.out⟩
end
end Go.Proofs.YtadokkffmekndaaGreatDoor
namespace Go.Proofs.YtadokkffmekndaaGreatDoor
open Go.RowKit

section
variable {W w : World} {R : Thing} {b : Nat} {ef : Nat → Nat × Nat} {S : St} {ws : List (List UInt8)} {v : Value}
theorem sortP_lim {bu fan : Int} (h : bu < 1 ∨ 65536 < bu ∨ fan < 2 ∨ 64 < fan) : sortP S bu fan ws = (S, 0, 2) := by unfold sortP; rw [if_pos h]
theorem sortP_add {bu fan : Int} (h : ¬ (bu < 1 ∨ 65536 < bu ∨ fan < 2 ∨ 64 < fan)) {A : St × FmD × Nat} (hA : addP S (newF bu.toNat) ws = A) (hz : A.2.2 ≠ 0) : sortP S bu fan ws = (A.1, 0, A.2.2) := by
  subst hA
  unfold sortP
  rw [if_neg h]
  exact if_pos hz
theorem sortP_fin {bu fan : Int} (h : ¬ (bu < 1 ∨ 65536 < bu ∨ fan < 2 ∨ 64 < fan)) {A : St × FmD × Nat} (hA : addP S (newF bu.toNat) ws = A) (hz : A.2.2 = 0) {Q : St × FmD × List Nat × Nat} (hQ : finishP A.1 A.2.1 = Q) (hq : Q.2.2.2 ≠ 0) : sortP S bu fan ws = (Q.1, 0, Q.2.2.2) := by
  subst hA
  subst hQ
  unfold sortP
  rw [if_neg h]
  refine (if_neg (show ¬ (addP S (newF bu.toNat) ws).2.2 ≠ 0 by simpa using hz)).trans ?_
  exact if_pos hq
theorem sortP_go {bu fan : Int} (h : ¬ (bu < 1 ∨ 65536 < bu ∨ fan < 2 ∨ 64 < fan)) {A : St × FmD × Nat} (hA : addP S (newF bu.toNat) ws = A) (hz : A.2.2 = 0) {Q : St × FmD × List Nat × Nat} (hQ : finishP A.1 A.2.1 = Q) (hq : Q.2.2.2 = 0) : sortP S bu fan ws = mergeP Q.1 fan (mz Q.2.2.1) := by
  subst hA
  subst hQ
  unfold sortP
  rw [if_neg h]
  refine (if_neg (show ¬ (addP S (newF bu.toNat) ws).2.2 ≠ 0 by simpa using hz)).trans ?_
  exact if_neg (fun h => h hq)
theorem finish_len (S : St) (f : FmD) : (finishP S f).2.2.1.length ≤ (finishP S f).2.1.made.length := by
  unfold finishP
  split
  · exact Nat.zero_le _
  · split
    · exact Nat.le_refl _
    · split
      · exact Nat.le_refl _
      · exact Nat.zero_le _
set_option maxRecDepth 100000 in
set_option maxHeartbeats 3200000 in
theorem Sort_at9 (h : At W w (Both (StoreT b S) R)) (hR : Stable R) (hF : Fails W ef fails13) (hG : GoodS S) {bu fan : Int} (hb64 : inI64 bu) (hf64 : inI64 fan) (hv : ∃ ao cp, v = .slice ao ws.length cp ∧ ws.length ≤ 1099511627776) (hx : ∀ x ∈ ws, x.length ≤ 1099511627776) (hrd : ∀ w', At W w' R → RdRow w' v ws.length 1 (strs ws)) :
    Calls Tryz.prog 13 #[.pointer (some ⟨b, 0, none⟩), .int .i64 bu, .int .i64 fan, v] w fun e w' => e = .returned (.tuple #[.int .i64 (sortP S bu fan ws).2.1, errV ef (sortP S bu fan ws).2.2]) ∧ At W w' (Both (StoreT b (sortP S bu fan ws).1) R) := by
  have hst := (StoreT.stable b S).both hR
  have hnotf : ∀ (x : Bool) (w : World), (Op.unary .not (.bool x)).run Tryz.prog w = .ok (.bool (!x)) w := fun _ _ => rfl
  have neqn : ∀ wz : World, (binOp .neq tErr .nilIface .nilIface).run Tryz.prog wz = .ok (.bool false) wz := fun wz => neq_nil wz
  by_cases hbl : bu < 1 ∨ 65536 < bu
  · rw [sortP_lim (by omega)]
    dsimp only
    have hfn := FNew_no (b := b) (hF.below h.below) hb64 hbl
    rw [errV_pos ef (show (2 : Nat) ≠ 0 by decide)] at hfn ⊢
    have neqi := run_neq_iface_nil2 ⟨(ef 2).1, (ef 2).2, none⟩
    have HFN := Lib.hid hfn
    have H := Lib.hid h
    have HST := Lib.hid hst
    clear h hR hF hG hb64 hf64 hv hx hrd hst hfn hbl
    go_enter Tryz.func13, Tryz.ntmps13
    (repeat' (first | (go_big_may; fail) | go_values | go_skip | go_guarded | go_step | go_upon | go_back | dsimp only))
    refine HFN.out.mono ?_
    rintro e w1 ⟨rfl, hb1⟩
    have H1 := Lib.hid (H.out.mono HST.out hb1)
    clear hb1 HFN
    (repeat' (first | (go_big_may; fail) | go_values | go_skip | go_guarded | go_step | go_upon | go_back | dsimp only))
    go_ret2
    exact ⟨rfl, H1.out⟩
  · obtain ⟨bn, hbn⟩ : ∃ bn : Nat, bu = bn := ⟨bu.toNat, by omega⟩
    subst hbn
    have hbn2 : 1 ≤ bn ∧ bn ≤ 65536 := by omega
    have hfn := FNew_at (b := b) (ef := ef) h hst hbn2
    have HFN := Lib.hid hfn
    by_cases hfl : fan < 2 ∨ 64 < fan
    · rw [sortP_lim (by omega)]
      dsimp only
      rw [errV_pos ef (show (2 : Nat) ≠ 0 by decide)]
      have HFT := Lib.hid (fun w => mfit_calls fan w)
      have hd : decide (2 ≤ fan ∧ fan ≤ 64) = false := decide_eq_false (by omega)
      rw [hd] at HFT
      have HR := Lib.hid hR
      have HF := Lib.hid hF
      clear h hR hF hG hb64 hf64 hv hx hrd hst hfn hbl hfl hd hbn2
      go_enter Tryz.func13, Tryz.ntmps13
      (repeat' (first | (go_big_may; fail) | go_values | go_skip | go_guarded | go_step | go_upon | go_back | dsimp only))
      refine HFN.out.mono ?_
      rintro e w1 ⟨k, rfl, h1⟩
      have hcg := (HF.out.below h1.below).cell (2, 1) (by decide)
      have H1 := Lib.hid h1
      clear h1 HFN
      (repeat' (first | (go_big_may; fail) | go_values | go_skip | go_guarded | go_step | go_upon | go_back | dsimp only))
      refine (HFT.out _).mono ?_
      rintro e w2 ⟨rfl, rfl⟩
      (repeat' (first | (go_big_may; fail) | go_values | go_skip | go_guarded | go_step | go_upon | go_back | dsimp only))
      go_quiet (fail)
      (repeat' (first | (go_big_may; fail) | go_values | go_skip | go_guarded | go_step | go_upon | go_back | dsimp only))
      go_ret2
      exact ⟨rfl, (H1.out.drewN ((FoT.stable _ _ _ _).both ((StoreT.stable _ _).both HR.out)) _).drop⟩
    · have HFT := Lib.hid (fun w => mfit_calls fan w)
      have hd : decide (2 ≤ fan ∧ fan ≤ 64) = true := decide_eq_true (by omega)
      rw [hd] at HFT
      have hlim : ¬ ((bn : Int) < 1 ∨ 65536 < (bn : Int) ∨ fan < 2 ∨ 64 < fan) := by omega
      have hO : FOk S (newF bn) := newF_ok S hbn2
      have hF11 : Fails W ef fails11 := hF.less (by decide)
      have had := fun (k : Nat) (w1 : World) (h1 : At W w1 (Both (FoT k b ef (newF bn)) (Both (StoreT b S) R))) => Add_at (ws := ws) (v := v) h1 hR hF11 hG trivial hO hv hx hrd
      obtain ⟨k1, hc1, hc2⟩ := addP_keep hG trivial hO ws
      obtain ⟨A, hA⟩ : ∃ A, A = addP S (newF bn) ws := ⟨_, rfl⟩
      have HAE := Lib.hid (show addP S (newF (bn : Int).toNat) ws = A by rw [hA]; rfl)
      rw [← hA] at had k1
      by_cases hz : A.2.2 = 0
      · rw [hz, errV_zero] at had
        have hfi := fun (k : Nat) (w1 : World) (h1 : At W w1 (Both (FoT k b ef A.2.1) (Both (StoreT b A.1) R))) => Finish_at h1 hR hF11 k1.good trivial k1.ok
        obtain ⟨k2, hc3, hc4⟩ := finishP_keep k1.good trivial k1.ok
        obtain ⟨Q, hQ⟩ : ∃ Q, Q = finishP A.1 A.2.1 := ⟨_, rfl⟩
        rw [← hQ] at hfi k2 hc4
        have HAD := Lib.hid had
        by_cases hq : Q.2.2.2 = 0
        · rw [sortP_go hlim HAE.out hz hQ.symm hq]
          rw [hq, errV_zero] at hfi
          have hmm : ∀ z ∈ mz Q.2.2.1, inI64 z := fun z hz => by
            obtain ⟨n, hn, rfl⟩ := List.mem_map.1 hz
            have h1 := hc4 n hn
            have h2 := k2.good.sizes.2.2.2.1
            unfold inI64; omega
          have hml : Q.2.2.1.length ≤ 1099511627776 := by
            have h1 := k2.ok.few
            have h2 := k2.good.sizes.2.2.2.1
            have h3 : Q.2.2.1.length ≤ Q.2.1.made.length := by
              rw [hQ]
              exact finish_len A.1 A.2.1
            omega
          have hmg := fun (k : Nat) (w1 : World) (v1 : Value) (h1 : At W w1 (Both (RowT v1 (mz Q.2.2.1)) (Both (FoT k b ef Q.2.1) (Both (StoreT b Q.1) R)))) =>
            Merge_at (l := mz Q.2.2.1) (v := v1) (fan := fan) (h1.perm (show _ = Both (StoreT b Q.1) (Both (RowT v1 (mz Q.2.2.1)) (Both (FoT k b ef Q.2.1) R)) by ac_rfl)) ((RowT.stable _ _).both ((FoT.stable _ _ _ _).both hR)) hF k2.good hmm (by simpa [mz] using hml) hf64 (by obtain ⟨ao, cp, hv, _⟩ := own_shape h1.row; exact ⟨ao, cp, hv⟩) (fun w' h' => RdRow.of_own h'.row)
          have HFI := Lib.hid hfi
          have HMG := Lib.hid hmg
          generalize mergeP Q.1 fan (mz Q.2.2.1) = M at *
          clear h hR hF hF11 hG hb64 hf64 hv hx hrd hst hfn hbl hfl hd hbn2 hlim hO had k1 hc1 hc2 hA hz hfi k2 hc3 hc4 hQ hq hmm hml hmg HAE
          go_enter Tryz.func13, Tryz.ntmps13
          (repeat' (first | (go_big_may; fail) | go_values | go_skip | go_guarded | go_step | go_upon | go_back | dsimp only))
          refine HFN.out.mono ?_
          rintro e w1 ⟨k, rfl, h1⟩
          have H1 := Lib.hid h1
          clear h1 HFN
          (repeat' (first | (go_big_may; fail) | go_values | go_skip | go_guarded | go_step | go_upon | go_back | dsimp only))
          refine (HFT.out _).mono ?_
          rintro e w2 ⟨rfl, rfl⟩
          (repeat' (first | (go_big_may; fail) | go_values | go_skip | go_guarded | go_step | go_upon | go_back | dsimp only))
          refine (HAD.out k _ H1.out).mono ?_
          rintro e w3 ⟨rfl, h3⟩
          have H3 := Lib.hid h3
          clear h3 HAD H1
          (repeat' (first | (go_big_may; fail) | go_values | go_skip | go_guarded | go_step | go_upon | go_back | dsimp only))
          refine (HFI.out k w3 H3.out).mono ?_
          rintro e w4 ⟨v4, rfl, h4⟩
          have H4 := Lib.hid h4
          clear h4 HFI H3
          (repeat' (first | (go_big_may; fail) | go_values | go_skip | go_guarded | go_step | go_upon | go_back | dsimp only))
          refine (HMG.out k w4 v4 H4.out).mono ?_
          rintro e w5 ⟨rfl, h5⟩
          have H5 := Lib.hid (h5.perm (show _ = Both (RowT v4 (mz Q.2.2.1)) (Both (FoT k b ef Q.2.1) (Both (StoreT b M.1) R)) by ac_rfl))
          clear h5 HMG H4
          (repeat' (first | (go_big_may; fail) | go_values | go_skip | go_guarded | go_step | go_upon | go_back | dsimp only))
          go_ret2
          exact ⟨rfl, H5.out.drop.drop⟩
        · rw [sortP_fin hlim HAE.out hz hQ.symm hq]
          dsimp only
          rw [errV_pos ef hq] at hfi ⊢
          have neqi := run_neq_iface_nil2 ⟨(ef Q.2.2.2).1, (ef Q.2.2.2).2, none⟩
          have HFI := Lib.hid hfi
          clear h hR hF hF11 hG hb64 hf64 hv hx hrd hst hfn hbl hfl hd hbn2 hlim hO had k1 hc1 hc2 hA hz hfi k2 hc3 hc4 hQ hq HAE
          go_enter Tryz.func13, Tryz.ntmps13
          (repeat' (first | (go_big_may; fail) | go_values | go_skip | go_guarded | go_step | go_upon | go_back | dsimp only))
          refine HFN.out.mono ?_
          rintro e w1 ⟨k, rfl, h1⟩
          have H1 := Lib.hid h1
          clear h1 HFN
          (repeat' (first | (go_big_may; fail) | go_values | go_skip | go_guarded | go_step | go_upon | go_back | dsimp only))
          refine (HFT.out _).mono ?_
          rintro e w2 ⟨rfl, rfl⟩
          (repeat' (first | (go_big_may; fail) | go_values | go_skip | go_guarded | go_step | go_upon | go_back | dsimp only))
          refine (HAD.out k _ H1.out).mono ?_
          rintro e w3 ⟨rfl, h3⟩
          have H3 := Lib.hid h3
          clear h3 HAD H1
          (repeat' (first | (go_big_may; fail) | go_values | go_skip | go_guarded | go_step | go_upon | go_back | dsimp only))
          refine (HFI.out k w3 H3.out).mono ?_
          rintro e w4 ⟨v4, rfl, h4⟩
          have H4 := Lib.hid h4
          clear h4 HFI H3
          (repeat' (first | (go_big_may; fail) | go_values | go_skip | go_guarded | go_step | go_upon | go_back | dsimp only))
          go_ret2
          exact ⟨rfl, H4.out.drop.drop⟩
      · rw [sortP_add hlim HAE.out hz]
        dsimp only
        rw [errV_pos ef hz] at had ⊢
        have neqi := run_neq_iface_nil2 ⟨(ef A.2.2).1, (ef A.2.2).2, none⟩
        have HAD := Lib.hid had
        clear h hR hF hF11 hG hb64 hf64 hv hx hrd hst hfn hbl hfl hd hbn2 hlim hO had k1 hc1 hc2 hA hz HAE
        go_enter Tryz.func13, Tryz.ntmps13
        (repeat' (first | (go_big_may; fail) | go_values | go_skip | go_guarded | go_step | go_upon | go_back | dsimp only))
        refine HFN.out.mono ?_
        rintro e w1 ⟨k, rfl, h1⟩
        have H1 := Lib.hid h1
        clear h1 HFN
        (repeat' (first | (go_big_may; fail) | go_values | go_skip | go_guarded | go_step | go_upon | go_back | dsimp only))
        refine (HFT.out _).mono ?_
        rintro e w2 ⟨rfl, rfl⟩
        (repeat' (first | (go_big_may; fail) | go_values | go_skip | go_guarded | go_step | go_upon | go_back | dsimp only))
        refine (HAD.out k _ H1.out).mono ?_
        rintro e w3 ⟨rfl, h3⟩
        have H3 := Lib.hid h3
        clear h3 HAD H1
        (repeat' (first | (go_big_may; fail) | go_values | go_skip | go_guarded | go_step | go_upon | go_back | dsimp only))
        go_ret2
        exact ⟨rfl, H3.out.drop⟩
end
end Go.Proofs.YtadokkffmekndaaGreatDoor
namespace Go.Proofs.YtadokkffmekndaaGreatDoor
open Go.RowKit

theorem rd_cell {w : World} {g n : Nat} {cs : Array Value} {T : TypeId} (h : w.heap[g]? = some (.cells cs T (0, 0))) (hs : cs.size = n) (hn : n ≤ maxLen) : RdRow w (.slice (some ⟨g, 0, none⟩) n n) n 1 cs.toList :=
  ⟨by simpa using hs, _, _, rfl, Nat.le_refl _, hn, fun j u hu => ⟨g, 0, rfl, by rw [Nat.zero_add, cell_at h]; simpa using hu⟩⟩
theorem sort_good {S : St} (hG : GoodS S) (b fan : Int) (ws : List (List UInt8)) : GoodS (sortP S b fan ws).1 := by
  by_cases h : b < 1 ∨ 65536 < b ∨ fan < 2 ∨ 64 < fan
  · rw [sortP_lim h]; exact hG
  · rcases sort_end hG (b := b) (fan := fan) (by omega) (by omega) ws with ⟨_, m, _, h2⟩ | ⟨_, _, _, h2⟩
    · exact h2.good
    · exact h2
theorem wk_one : (sortP (newSt 100) 1 2 [[98], [97], [98]]).2 = (5, 0) := by kernel_rfl
theorem wk_two : (sortP (newSt 100) 1 2 [[98], [97], [98]]).1.runs = [(5, ⟨[1, 97, 1, 98], true⟩)] := by kernel_rfl
theorem wk_text : textP (sortP (newSt 100) 1 2 [[98], [97], [98]]).1 5 = [1, 97, 1, 98] := textP_of (sort_good (GoodS.new 100) 1 2 _) (p := (5, ⟨[1, 97, 1, 98], true⟩)) (by rw [wk_two]; simp) rfl
theorem wk_keys : (sortP (newSt 100) 1 2 [[98], [97], [98]]).1.keys = [5] := by unfold St.keys; rw [wk_two]; rfl
theorem fails13_all {W : World} {ef : Nat → Nat × Nat} (h : Fails W ef fails13) : Fails W ef fails12 := h.less (by decide)
set_option maxRecDepth 100000 in
set_option maxHeartbeats 3200000 in
theorem wakes10_calls {w : World} {ef : Nat → Nat × Nat} (hF : Fails w ef fails13) :
    Calls Tryz.prog 9 #[] w fun e w' => e = .returned (.bool true) ∧ Below w.heap.size w w' := by
  have h0 := At.nought (Below.refl w.heap.size w)
  have HN := Lib.hid (New_at h0 Stable.nought (c := 100) (by unfold inI64; omega))
  have HF := Lib.hid hF
  have eqn : ∀ wz : World, (binOp .eql tErr .nilIface .nilIface).run Tryz.prog wz = .ok (.bool true) wz := fun wz => eql_nil wz
  clear hF h0
  go_enter Tryz.func9, Tryz.ntmps9
  (repeat' (first | (go_big_may; fail) | go_values | go_skip | go_guarded | go_step | go_upon | go_back | dsimp only))
  refine HN.out.mono ?_
  rintro e w1 ⟨rfl, h1⟩
  generalize w.heap.size + 1 = b at *
  have h2 := (h1.newCell ((StoreT.stable _ _).both Stable.nought) #[.string ⟨#[98]⟩, .string ⟨#[97]⟩, .string ⟨#[98]⟩] 9).perm (show _ = Both (StoreT b (newSt 100)) (Both (CellT w1.heap.size #[.string ⟨#[98]⟩, .string ⟨#[97]⟩, .string ⟨#[98]⟩] 9) Nought) by ac_rfl)
  have hso := Sort_at9 (ws := [[98], [97], [98]]) (bu := 1) (fan := 2) (v := .slice (some ⟨w1.heap.size, 0, none⟩) 3 3) h2 ((CellT.stable _ _ _).both Stable.nought) HF.out (GoodS.new 100) (by unfold inI64; omega) (by unfold inI64; omega) ⟨_, _, rfl, by decide⟩ (by intro x hx; simp at hx; rcases hx with rfl | rfl | rfl <;> simp) (fun w' h' => rd_cell h'.cell.1 rfl (by unfold maxLen; decide))
  rw [wk_one] at hso
  dsimp only at hso
  rw [errV_zero] at hso
  have hg := sort_good (GoodS.new 100) 1 2 [[98], [97], [98]]
  have ht := wk_text
  have hk := wk_keys
  generalize (sortP (newSt 100) 1 2 [[98], [97], [98]]).1 = S2 at *
  have HSO := Lib.hid hso
  have HG := Lib.hid hg
  have HT := Lib.hid ht
  have HK := Lib.hid hk
  clear h1 h2 hso hg ht hk HN
  (repeat' (first | (go_big_may; fail) | go_values | go_skip | go_guarded | go_step | go_upon | go_back | dsimp only))
  refine HSO.out.mono ?_
  rintro e w2 ⟨rfl, h3⟩
  have htx := text_at h3 ((CellT.stable _ _ _).both Stable.nought) (fails13_all HF.out) HG.out (z := 5) (by unfold inI64; omega)
  rw [HT.out] at htx
  have HTX := Lib.hid htx
  clear htx h3 HSO
  (repeat' (first | (go_big_may; fail) | go_values | go_skip | go_guarded | go_step | go_upon | go_back | dsimp only))
  refine HTX.out.mono ?_
  rintro e w3 ⟨rfl, h4⟩
  have hlv := Live_at h4 ((CellT.stable _ _ _).both Stable.nought)
  have HLV := Lib.hid hlv
  clear hlv h4 HTX
  (repeat' (first | (go_big_may; fail) | go_values | go_skip | go_guarded | go_step | go_upon | go_back | dsimp only))
  refine HLV.out.mono ?_
  rintro e w4 ⟨v4, rfl, h5⟩
  rw [HK.out] at h5
  obtain ⟨ao, cp, rfl, _, _⟩ := own_shape h5.row
  have HB := Lib.hid h5.below
  clear h5 HLV
  (repeat' (first | (go_big_may; fail) | go_values | go_skip | go_guarded | go_step | go_upon | go_back | dsimp only))
  go_ret
  exact ⟨rfl, HB.out⟩
end Go.Proofs.YtadokkffmekndaaGreatDoor
namespace Go.Proofs.YtadokkffmekndaaGreatDoor
open Go.RowKit

theorem cap_goneZ : ∀ (l : List Int) (S : St), (goneZ S l).cap = S.cap
  | [], _ => rfl
  | z :: l, S => (cap_goneZ l _).trans (cap_remove S z)
theorem cap_loop (fan : Nat) : ∀ (n : Nat) (S : St) (l : List Int), (loopM fan n S l).1.cap = S.cap
  | 0, _, _ => rfl
  | n + 1, S, l => by
    unfold loopM
    split
    · rfl
    · split
      · exact (cap_goneZ _ _).trans (cap_written _ _)
      · exact (cap_loop fan n _ _).trans ((cap_goneZ _ _).trans (cap_written _ _))
theorem cap_merge (S : St) (fan : Int) (l : List Int) : (mergeP S fan l).1.cap = S.cap := by
  unfold mergeP
  split
  · rfl
  · split
    · rfl
    · split
      · exact cap_written _ _
      · exact cap_loop _ _ _ _
theorem cap_sort (S : St) (b fan : Int) (ws : List (List UInt8)) : (sortP S b fan ws).1.cap = S.cap := by
  unfold sortP
  split
  · rfl
  · split
    · exact cap_addP _ _ _
    · dsimp only
      split
      · exact (cap_finish _ _).trans (cap_addP _ _ _)
      · exact (cap_merge _ _ _).trans ((cap_finish _ _).trans (cap_addP _ _ _))
/-- With room, a sort of these leaves one run more. -/
theorem sort_room {S : St} (hG : GoodS S) {b fan : Int} (hb : 1 ≤ b ∧ b ≤ 65536) (hf : 2 ≤ fan ∧ fan ≤ 64) {L : List (List UInt8)} (hw : fits L = true) (hl : S.left = 0) (hc : S.used + 2 * wsum L ≤ S.cap) (hm : S.made + 2 * L.length + 2 ≤ 16777216) :
    ∃ (S' : St) (m : Nat), sortP S b fan L = (S', (m : Int), 0) ∧ MgI S.runs S' [(m, ofL L)] ∧ S'.cap = S.cap := by
  have h0 := sort_free hG hb hf L hw hl hc hm
  have h3 := cap_sort S b fan L
  rcases sort_end hG hb hf L with ⟨_, m, h1, h2⟩ | ⟨h1, _⟩
  · exact ⟨_, m, by rw [← h1, ← h0], h2, h3⟩
  · exact absurd h0 h1
theorem sort_new {L : List (List UInt8)} (hw : fits L = true) {b fan : Int} (hb : 1 ≤ b ∧ b ≤ 65536) (hf : 2 ≤ fan ∧ fan ≤ 64) {c : Nat} (hc : 2 * wsum L ≤ c) (hc2 : c ≤ 67108864) (hm : 2 * L.length + 2 ≤ 16777216) :
    ∃ (S' : St) (m : Nat), sortP (newSt (c : Int)) b fan L = (S', (m : Int), 0) ∧ GoodS S' ∧ S'.runs = [(m, ⟨frameL (ofL L), true⟩)] ∧ S'.peak ≤ c ∧ S'.used = (frameL (ofL L)).length ∧ textP S' m = frameL (ofL L) ∧ S'.keys = [(m : Int)] ∧ m ≤ 16777216 := by
  have hcap : (newSt (c : Int)).cap = c := by simp only [newSt]; omega
  obtain ⟨S', m, h1, h2, h3⟩ := sort_room (GoodS.new (c : Int)) hb hf hw rfl (by rw [hcap]; show 0 + _ ≤ _; omega) (by show 0 + _ + _ ≤ _; omega)
  have hr : S'.runs = [(m, ⟨frameL (ofL L), true⟩)] := h2.runs
  have hg := h2.good
  refine ⟨S', m, h1, hg, hr, ?_, ?_, ?_, ?_, ?_⟩
  · have := hg.sizes.2.2.1; omega
  · rw [hg.used, hr]; simp [usedOf]
  · exact textP_of hg (p := (m, ⟨frameL (ofL L), true⟩)) (by rw [hr]; simp) rfl
  · unfold St.keys; rw [hr]; rfl
  · have h4 := (hg.inside (m, ⟨frameL (ofL L), true⟩) (by rw [hr]; simp)).2
    have h5 := hg.sizes.2.2.2.1
    dsimp only at h4
    omega
theorem mod_one (m : Nat) (hm : 1 ≤ m ∧ m ≤ 1000) (B : Int) : ∃ b : Nat, 1 ≤ b ∧ b ≤ m ∧ 1 + max 0 B % (m : Int) = (b : Int) ∧ IntKind.i64.wrap (1 + max 0 B % (m : Int)) = (b : Int) := by
  have h0 : (0 : Int) ≤ max 0 B % (m : Int) := Int.emod_nonneg _ (by omega)
  have h1 : max 0 B % (m : Int) < (m : Int) := Int.emod_lt_of_pos _ (by omega)
  refine ⟨(1 + max 0 B % (m : Int)).toNat, by omega, by omega, by omega, ?_⟩
  rw [IntKind.wrap_i64] <;> omega
theorem mod_two (m : Nat) (hm : 1 ≤ m ∧ m ≤ 1000) (B : Int) : ∃ b : Nat, 2 ≤ b ∧ b ≤ m + 1 ∧ 2 + max 0 B % (m : Int) = (b : Int) ∧ IntKind.i64.wrap (2 + max 0 B % (m : Int)) = (b : Int) := by
  have h0 : (0 : Int) ≤ max 0 B % (m : Int) := Int.emod_nonneg _ (by omega)
  have h1 : max 0 B % (m : Int) < (m : Int) := Int.emod_lt_of_pos _ (by omega)
  refine ⟨(2 + max 0 B % (m : Int)).toNat, by omega, by omega, by omega, ?_⟩
  rw [IntKind.wrap_i64] <;> omega
theorem bulk_eachM {ss : List (List UInt8)} (h : ss.length + sumLen ss ≤ 1048576) : ss.length ≤ 1048576 ∧ ∀ x ∈ ss, x.length ≤ 1048576 := by
  refine ⟨by omega, fun x hx => ?_⟩
  have key : ∀ l : List (List UInt8), x ∈ l → x.length ≤ sumLen l := by
    intro l
    induction l with
    | nil => intro h; cases h
    | cons a l ih =>
      intro h
      have e : sumLen (a :: l) = a.length + sumLen l := by simp [sumLen]
      rw [e]
      rcases List.mem_cons.1 h with rfl | h
      · omega
      · have := ih h; omega
  have := key ss hx
  omega
end Go.Proofs.YtadokkffmekndaaGreatDoor
namespace Go.Proofs.YtadokkffmekndaaGreatDoor
open Go.RowKit

abbrev tTwo : TypeId := 25
theorem wsum_perm {a b : List (List UInt8)} (h : a.Perm b) : wsum a = wsum b := by
  induction h with
  | nil => rfl
  | cons x _ ih => simp only [wsum, ih]
  | swap x y l => simp only [wsum]; omega
  | trans _ _ h1 h2 => exact h1.trans h2
theorem swap_strs {T : List (List UInt8)} {i j : Nat} (hi : i < T.length) (hj : j < T.length) : ((strs T).set i (.string ⟨(T[j]).toArray⟩)).set j (.string ⟨(T[i]).toArray⟩) = strs ((T.set i T[j]).set j T[i]) := by
  unfold strs
  rw [List.map_set, List.map_set]
theorem setset_perm {α : Type} (m : List α) (p q : Nat) (hp : p < m.length) (hq : q < m.length) : ((m.set p m[q]).set q m[p]).Perm m := by
  have h := Array.swap_perm (xs := m.toArray) (i := p) (j := q) (by simpa using hp) (by simpa using hq)
  have h2 := Array.perm_iff_toList_perm.1 h
  simpa [Array.swap_def] using h2
/-- What the second list is to the first. -/
structure SaI (G T : List (List UInt8)) (q : Nat) : Prop where
  mem : ∀ x, x ∈ T ↔ x ∈ G
  len : T.length = G.length + q
  sum : wsum T ≤ wsum G + 257 * q
  fit : fits T = true
theorem SaI.of_perm {G T : List (List UInt8)} (h : T.Perm G) (hf : fits G = true) : SaI G T 0 :=
  ⟨fun x => h.mem_iff, h.length_eq, by rw [wsum_perm h]; exact Nat.le_refl _, fits_mem.2 fun r hr => fits_mem.1 hf r (h.mem_iff.1 hr)⟩
theorem SaI.snoc {G T : List (List UInt8)} {q : Nat} (h : SaI G T q) (hf : fits G = true) {x : List UInt8} (hx : x ∈ G) : SaI G (T ++ [x]) (q + 1) := by
  have hl := fits_mem.1 hf x hx
  refine ⟨fun y => ?_, by simp [h.len]; omega, ?_, fits_append.2 ⟨h.fit, fits_cons.2 ⟨hl, rfl⟩⟩⟩
  · simp only [List.mem_append, List.mem_singleton, h.mem y]
    exact ⟨fun e => e.elim id (fun e => e ▸ hx), .inl⟩
  · have e : wsum [x] = x.length + 2 := by simp [wsum]
    have := h.sum
    rw [wsum_append, e]
    omega
theorem SaI.same {G T : List (List UInt8)} {q : Nat} (h : SaI G T q) : ofL T = ofL G :=
  RisesL.ext (ofL_rises _) (ofL_rises _) fun x => by rw [ofL_mem, ofL_mem]; exact h.mem x
set_option maxRecDepth 100000 in
set_option maxHeartbeats 25600000 in
theorem mergeSame_walk (W : World) (ef : Nat → Nat × Nat) (hF : Fails W ef fails13) (ss : List (List UInt8)) (ks : List Int) (rv ov : Value) (rd : RdRow W rv ss.length 1 (strs ss)) (ro : RdRow W ov ks.length 1 (intsV ks)) (hbulk : ss.length + sumLen ss + ks.length + 1 ≤ 1048576) (z2 z3 z4 z5 z6 : Int) (_ : inI64 z6) :
    Calls Tryz.prog 3 #[.agg #[rv, ov, .int .i64 z2, .int .i64 z3, .int .i64 z4, .int .i64 z5, .int .i64 z6]] W fun e w' => e = .returned (.bool true) ∧ Below W.heap.size W w' := by
  obtain ⟨hss, hsx⟩ := bulk_eachM (ss := ss) (by omega)
  have hkl : ks.length ≤ 1048576 := by omega
  obtain ⟨ft1, ft2, ft3, ft4⟩ := fitW_facts ss 0
  have ft3 := ft3 (by omega)
  rw [Nat.zero_add] at ft2
  obtain ⟨b2, p1, p2, p3, p3w⟩ := mod_one 40 (by omega) z2
  obtain ⟨b3, q1, q2, q3, q3w⟩ := mod_one 40 (by omega) z3
  obtain ⟨b4, r1, r2, r3, r3w⟩ := mod_two 12 (by omega) z4
  obtain ⟨b5, s1, s2, s3, s3w⟩ := mod_two 12 (by omega) z5
  rw [show ((40 : Nat) : Int) = 40 from rfl] at p3 p3w q3 q3w
  rw [show ((12 : Nat) : Int) = 12 from rfl] at r3 r3w s3 s3w
  have hwl := wsum_len (fitW ss 0).1
  have hnot : ∀ (x : Bool) (w : World), (Op.unary .not (.bool x)).run Tryz.prog w = .ok (.bool (!x)) w := fun _ _ => rfl
  have HW := Lib.hid (And.intro p3 (And.intro p3w (And.intro q3 (And.intro q3w (And.intro r3 (And.intro r3w (And.intro s3 s3w)))))))
  have HBN := Lib.hid (And.intro (And.intro p1 p2) (And.intro (And.intro q1 q2) (And.intro (And.intro r1 r2) (And.intro s1 s2))))
  have h0 := (At.nought (Below.refl W.heap.size W)).newCell Stable.nought #[rv, ov, .int .i64 z2, .int .i64 z3, .int .i64 z4, .int .i64 z5, .int .i64 z6] tTwo
  have hbs : Stable (Both (CellT W.heap.size #[rv, ov, .int .i64 z2, .int .i64 z3, .int .i64 z4, .int .i64 z5, .int .i64 z6] tTwo) Nought) := (CellT.stable _ _ _).both Stable.nought
  have HWK := Lib.hid (wakes10_calls (hF.below h0.below))
  have HF := Lib.hid hF
  have RD := Lib.hid rd
  have RO := Lib.hid ro
  have HSS := Lib.hid hss
  have HSX := Lib.hid hsx
  have H0 := Lib.hid h0
  have HBS := Lib.hid hbs
  have hll : (fitW ss 0).1.length ≤ 524416 := by omega
  have HFT := Lib.hid (And.intro ft1 (And.intro (show wsum (fitW ss 0).1 ≤ 1048833 by omega) hll))
  clear hF rd ro hss hsx h0 hbs ft1 ft2 ft3 ft4 hll hwl hbulk p1 p2 p3 p3w q1 q2 q3 q3w r1 r2 r3 r3w s1 s2 s3 s3w
  go_enter Tryz.func3, Tryz.ntmps3
  (repeat' (first | (go_big_may; fail) | go_values | go_skip | go_guarded | go_step | go_upon | go_back | dsimp only))
  refine HWK.out.mono ?_
  rintro e w1 ⟨rfl, hbw⟩
  have h1 := H0.out.mono HBS.out hbw
  have c0 := cell_at h1.cell.1 0
  simp only [List.getElem?_toArray, List.getElem?_cons_zero] at c0
  have H1 := Lib.hid h1
  clear hbw HWK h1 H0
  generalize W.heap.size = kb at *
  (repeat' (first | (go_big_may; fail) | go_values | go_skip | go_guarded | go_step | go_upon | go_back | dsimp only))
  refine (fit10_at H1.out HBS.out RD.out HSS.out HSX.out).mono ?_
  rintro e w2 ⟨vg, rfl, _, h2⟩
  obtain ⟨ga, gc, hvg, hgc, hgm⟩ := own_shape h2.rowG
  subst hvg
  have HTW := Lib.hid (twin10_calls (fitW ss 0).1 (.slice ga (fitW ss 0).1.length gc) w2 (RdRow.of_own h2.rowG) (by have := HFT.out.2.2; omega))
  have hst2 := (RowG.stable tSx 1 (.slice ga (fitW ss 0).1.length gc) (fitW ss 0).1.length (strs (fitW ss 0).1)).both HBS.out
  have H2 := Lib.hid h2
  have HST2 := Lib.hid hst2
  clear h2 H1 hst2 c0
  generalize (fitW ss 0).1 = G at *
  generalize (fitW ss 0).2 = n at *
  (repeat' (first | (go_big_may; fail) | go_values | go_skip | go_guarded | go_step | go_upon | go_back | dsimp only))
  refine HTW.out.mono ?_
  rintro e w3 ⟨vt, rfl, hto, hbt⟩
  have h3 := H2.out.newRowG HST2.out hbt hto
  obtain ⟨ta, tc, hvt, htc1, htc2⟩ := own_shape h3.rowG
  subst hvt
  have c1 := cell_at h3.drop.drop.cell.1 1
  simp only [List.getElem?_toArray, List.getElem?_cons_zero, List.getElem?_cons_succ] at c1
  have H3 := Lib.hid h3
  obtain ⟨oa, oc, hov, _, hoc⟩ := RO.out.shape
  subst hov
  have hGl : G.length ≤ 524416 := HFT.out.2.2
  unfold maxLen at htc2 hgm
  clear hto hbt HTW h3 H2
  (repeat' (first | (go_big_may; fail) | go_values | go_skip | go_guarded | go_step | go_upon | go_back | dsimp only))
  clear c1
  go_loopw [30] (fun vi wr => ∃ (k : Nat) (T : List (List UInt8)), vi = .int .i64 k ∧ k ≤ ks.length ∧ T.Perm G ∧ At W wr (Both (RowG tSx 1 (.slice ta G.length tc) G.length (strs T)) (Both (RowG tSx 1 (.slice ga G.length gc) G.length (strs G)) (Both (CellT kb #[rv, .slice oa ks.length oc, .int .i64 z2, .int .i64 z3, .int .i64 z4, .int .i64 z5, .int .i64 z6] tTwo) Nought)))) (fun vi _ => ks.length - (intOf vi).toNat)
  case atStart => exact ⟨0, G, rfl, Nat.zero_le _, List.Perm.refl _, H3.out⟩
  case round =>
    obtain ⟨k, T, rfl, hk, hperm, h4⟩ := hrel
    clear H3
    have hTl := hperm.length_eq
    by_cases hlt : k < ks.length
    · obtain ⟨z, hz⟩ : ∃ z, ks[k]? = some z := ⟨_, List.getElem?_eq_getElem hlt⟩
      obtain ⟨gb, off, cp, hsl, hcell⟩ := (RO.out.below h4.below).intA hz
      simp only [Value.slice.injEq] at hsl
      obtain ⟨hao, _, hcv⟩ := hsl
      subst hao
      subst hcv
      have hi0 : (0 : Int) ≤ k := by omega
      have hi1 : (k : Int) < ks.length := by omega
      have hwr : IntKind.i64.wrap ((k : Int) + 1) = ((k + 1 : Nat) : Int) := by rw [IntKind.wrap_i64] <;> omega
      have H4 := Lib.hid h4
      have HPM := Lib.hid hperm
      have HTL := Lib.hid hTl
      by_cases hg0 : 0 < G.length
      · have hg1 : (0 : Int) < G.length := by omega
        by_cases hkg : k < G.length
        · have hkg1 : (k : Int) < G.length := by omega
          obtain ⟨j, hj⟩ : ∃ j : Nat, max 0 z % (G.length : Int) = j := ⟨(max 0 z % (G.length : Int)).toNat, by have := Int.emod_nonneg (max 0 z) (show (G.length : Int) ≠ 0 by omega); omega⟩
          have hjl : j < G.length := by have := Int.emod_lt_of_pos (max 0 z) hg1; omega
          obtain ⟨gt, cpt, hvt, _⟩ := own_cut h4.rowG hg0
          simp only [Value.slice.injEq] at hvt
          obtain ⟨hta, _, _⟩ := hvt
          subst hta
          have x1 := h4.rowCell (j := k) (u := .string ⟨(T[k]'(by omega)).toArray⟩) (by simp [strs, hTl, hkg])
          have x2 := h4.rowCell (j := j) (u := .string ⟨(T[j]'(by omega)).toArray⟩) (by simp [strs, hTl, hjl])
          have hst4 : Stable (Both (RowG tSx 1 (.slice ga G.length gc) G.length (strs G)) (Both (CellT kb #[rv, .slice (some ⟨gb, off, none⟩) ks.length oc, .int .i64 z2, .int .i64 z3, .int .i64 z4, .int .i64 z5, .int .i64 z6] tTwo) Nought)) := (RowG.stable _ _ _ _ _).both ((CellT.stable _ _ _).both Stable.nought)
          have h5 := h4.storeG hst4 k (.string ⟨(T[j]'(by omega)).toArray⟩)
          have h6' := h5.storeG hst4 j (.string ⟨(T[k]'(by omega)).toArray⟩)
          rw [swap_strs (by omega) (by omega)] at h6'
          have hpm2 := (setset_perm T k j (by omega) (by omega)).trans hperm
          obtain ⟨u3, x3⟩ : ∃ u3, ((strs T).set k (.string ⟨(T[j]'(by omega)).toArray⟩))[j]? = some u3 := by
            have hq : j < ((strs T).set k (.string ⟨(T[j]'(by omega)).toArray⟩)).length := by simp only [List.length_set, strs, List.length_map]; omega
            exact ⟨_, List.getElem?_eq_getElem hq⟩
          have x3 := h5.rowCell x3
          have h5b := h4.storeG hst4 j (.string ⟨(T[k]'(by omega)).toArray⟩)
          obtain ⟨u4, x4⟩ : ∃ u4, ((strs T).set j (.string ⟨(T[k]'(by omega)).toArray⟩))[k]? = some u4 := by
            have hq : k < ((strs T).set j (.string ⟨(T[k]'(by omega)).toArray⟩)).length := by simp only [List.length_set, strs, List.length_map]; omega
            exact ⟨_, List.getElem?_eq_getElem hq⟩
          have x4 := h5b.rowCell x4
          have H6 := Lib.hid h6'
          have HP2 := Lib.hid hpm2
          have HJ := Lib.hid hjl
          have hj0 : (0 : Int) ≤ j := by omega
          have hj1 : (j : Int) < G.length := by omega
          generalize htk : T[k]'(by omega) = tk at *
          generalize htj : T[j]'(by omega) = tj at *
          clear hz h4 hperm h5 h5b h6' hpm2 hst4 htk htj hTl
          obtain ⟨x11, x12, x13⟩ := x1
          obtain ⟨x21, x22, x23⟩ := x2
          obtain ⟨x31, x32, x33⟩ := x3
          obtain ⟨x41, x42, x43⟩ := x4
          (repeat' (first | (go_big_may; fail) | go_values | go_skip | go_guarded | go_step | go_upon | go_back | dsimp only))
          go_region
          (repeat' (first | (go_big_may; fail) | go_values | go_skip | go_guarded | go_step | go_upon | go_back | dsimp only))
          go_roundw
          case rel => exact ⟨k + 1, _, rfl, hlt, HP2.out, H6.out.drew ((RowG.stable _ _ _ _ _).both ((RowG.stable _ _ _ _ _).both ((CellT.stable _ _ _).both Stable.nought)))⟩
          case measure => simp [intOf]; omega
        · have hkg1 : ¬ (k : Int) < G.length := by omega
          clear hz h4 hperm hTl
          (repeat' (first | (go_big_may; fail) | go_values | go_skip | go_guarded | go_step | go_upon | go_back | dsimp only))
          go_roundw
          case rel => exact ⟨k + 1, T, rfl, hlt, HPM.out, H4.out⟩
          case measure => simp [intOf]; omega
      · have hg1 : ¬ (0 : Int) < G.length := by omega
        clear hz h4 hperm hTl
        (repeat' (first | (go_big_may; fail) | go_values | go_skip | go_guarded | go_step | go_upon | go_back | dsimp only))
        go_roundw
        case rel => exact ⟨k + 1, T, rfl, hlt, HPM.out, H4.out⟩
        case measure => simp [intOf]; omega
    · have hi1 : ¬ (k : Int) < ks.length := by omega
      have HI := Lib.hid (SaI.of_perm hperm HFT.out.1)
      have h4' : At W wr (Both (RowG tSx 1 (.slice ta G.length tc) T.length (strs T)) (Both (RowG tSx 1 (.slice ga G.length gc) G.length (strs G)) (Both (CellT kb #[rv, .slice oa ks.length oc, .int .i64 z2, .int .i64 z3, .int .i64 z4, .int .i64 z5, .int .i64 z6] tTwo) Nought))) := by rw [hTl]; exact h4
      have H4 := Lib.hid h4'
      have hcs : Value.slice ta G.length tc = .slice ta T.length tc := by rw [hTl]
      have HCS := Lib.hid hcs
      clear h4 h4' hperm hcs
      (repeat' (first | (go_big_may; fail) | go_values | go_skip | go_guarded | go_step | go_upon | go_back | dsimp only))
      go_loopw [5, 10] (fun v5 vi wr => ∃ (q : Nat) (T : List (List UInt8)), vi = .int .i64 q ∧ q ≤ 30 ∧ q ≤ G.length ∧ SaI G T q ∧ At W wr (Both (RowG tSx 1 v5 T.length (strs T)) (Both (RowG tSx 1 (.slice ga G.length gc) G.length (strs G)) (Both (CellT kb #[rv, .slice oa ks.length oc, .int .i64 z2, .int .i64 z3, .int .i64 z4, .int .i64 z5, .int .i64 z6] tTwo) Nought)))) (fun _ vi _ => 30 - (intOf vi).toNat)
      case atStart => exact ⟨0, T, rfl, by omega, Nat.zero_le _, HI.out, H4.out⟩
      case round =>
        obtain ⟨q, T, rfl, hq30, hqg, hI, h5⟩ := hrel
        clear HI H4 HCS hTl
        have c6 := cell_at h5.drop.drop.cell.1 6
        simp only [List.getElem?_toArray, List.getElem?_cons_zero, List.getElem?_cons_succ] at c6
        have hwr : IntKind.i64.wrap ((q : Int) + 1) = ((q + 1 : Nat) : Int) := by rw [IntKind.wrap_i64] <;> omega
        have HI := Lib.hid hI
        have H5 := Lib.hid h5
        have hT1 := hI.len
        by_cases d1 : (q : Int) < z6 ∧ q < G.length ∧ q < 30
        · obtain ⟨d1, d2, d3⟩ := d1
          have e2 : (q : Int) < G.length := by omega
          have e3 : (q : Int) < 30 := by omega
          obtain ⟨x, hx⟩ : ∃ x, G[q]? = some x := ⟨_, List.getElem?_eq_getElem d2⟩
          obtain ⟨gg, off, cp, hsl, hcell⟩ := (RdRow.of_own h5.drop.rowG).str hx
          simp only [Value.slice.injEq] at hsl
          obtain ⟨hao, _, hcv⟩ := hsl
          subst hao
          subst hcv
          have HM := Lib.hid (List.mem_of_getElem? hx)
          have hstR : Stable (Both (RowG tSx 1 (.slice (some ⟨gg, off, none⟩) G.length gc) G.length (strs G)) (Both (CellT kb #[rv, .slice oa ks.length oc, .int .i64 z2, .int .i64 z3, .int .i64 z4, .int .i64 z5, .int .i64 z6] tTwo) Nought)) := (RowG.stable _ _ _ _ _).both ((CellT.stable _ _ _).both Stable.nought)
          have HSR := Lib.hid hstR
          have hTl2 : T.length ≤ 600000 := by omega
          have hi0 : (0 : Int) ≤ q := by omega
          clear h5 hI hx hstR hT1
          (repeat' (first | (go_big_may; ((at_builtin; go_must (refine wpList_append_to rfl _ _ 22 tSx rfl Tryz.underlying22 info_Sx rfl (by decide) rfl (H5.out) (HSR.out) rfl (by first | rfl | simp) rfl (one_str _) (by unfold maxLen; omega) (by omega) ?_); intro a2 c2 w6 h6x _); rw [strs_snoc10] at h6x; have H6 := Lib.hid h6x; clear h6x)) | go_values | go_skip | go_guarded | go_step | go_upon | go_back | dsimp only))
          go_roundw
          case rel => exact ⟨q + 1, T ++ [x], by go_num, by omega, by omega, HI.out.snoc HFT.out.1 HM.out, by have := H6.out; simpa using this⟩
          case measure => simp [intOf]; omega
        · obtain ⟨a5, p5, hv5, hp5, hp52⟩ := own_shape h5.rowG
          subst hv5
          have hST5 : Stable (Both (RowG tSx 1 (.slice a5 T.length p5) T.length (strs T)) (Both (RowG tSx 1 (.slice ga G.length gc) G.length (strs G)) (Both (CellT kb #[rv, .slice oa ks.length oc, .int .i64 z2, .int .i64 z3, .int .i64 z4, .int .i64 z5, .int .i64 z6] tTwo) Nought))) := (RowG.stable _ _ _ _ _).both ((RowG.stable _ _ _ _ _).both ((CellT.stable _ _ _).both Stable.nought))
          have HST5 := Lib.hid hST5
          have hcs : (¬ (q : Int) < z6) ∨ ((q : Int) < z6 ∧ ¬ (q : Int) < G.length) ∨ ((q : Int) < z6 ∧ (q : Int) < G.length ∧ ¬ (q : Int) < 30) := by omega
          obtain ⟨S1, m1, f1, f2, f3, f4, f5, f6, f7, f8⟩ := sort_new HFT.out.1 (b := (b2 : Int)) (fan := (b4 : Int)) (by have := HBN.out; omega) (by have := HBN.out; omega) (c := 67108864) (by have := HFT.out.2.1; omega) (by omega) (by omega)
          obtain ⟨S2, m2, g1, g2, g3, g4, g5, g6, g7, g8⟩ := sort_new hI.fit (b := (b3 : Int)) (fan := (b5 : Int)) (by have := HBN.out; omega) (by have := HBN.out; omega) (c := 67108864) (by have := HFT.out.2.1; have := hI.sum; omega) (by omega) (by omega)
          rw [hI.same] at g6
          have HS1 := Lib.hid (And.intro f1 (And.intro f2 (And.intro f6 (And.intro f7 f8))))
          have HS2 := Lib.hid (And.intro g1 (And.intro g2 (And.intro g6 (And.intro g7 g8))))
          have hTx : ∀ x ∈ T, x.length ≤ 1099511627776 := fun x hx => by have := fits_mem.1 hI.fit x hx; omega
          have hGx : ∀ x ∈ G, x.length ≤ 1099511627776 := fun x hx => by have := fits_mem.1 HFT.out.1 x hx; omega
          have HTX := Lib.hid hTx
          have HGX := Lib.hid hGx
          have hTl : T.length ≤ 600000 := by omega
          clear hST5 hI h5 hT1 f1 f2 f3 f4 f5 f6 f7 f8 g1 g2 g3 g4 g5 g6 g7 g8 hTx hGx d1 HI
          rcases hcs with d1 | ⟨d1, d2⟩ | ⟨d1, d2, d3⟩
          all_goals
            (repeat' (first | (go_big_may; fail) | go_values | go_skip | go_guarded | go_step | go_upon | go_back | dsimp only))
            refine (New_at H5.out HST5.out (c := 67108864) (by unfold inI64; omega)).mono ?_
            rintro e w6 ⟨rfl, h6a⟩
            generalize wr.heap.size + 1 = sb at *
            have hst6 := (StoreT.stable sb (newSt 67108864)).both HST5.out
            have HN2 := Lib.hid (New_at h6a hst6 (c := 67108864) (by unfold inI64; omega))
            clear h6a hst6 c6 H5
            (repeat' (first | (go_big_may; fail) | go_values | go_skip | go_guarded | go_step | go_upon | go_back | dsimp only))
            refine HN2.out.mono ?_
            rintro e w7 ⟨rfl, h7⟩
            clear HN2
            generalize w6.heap.size + 1 = tb at *
            have hbx := h7.perm (show _ = Both (CellT kb #[rv, .slice oa ks.length oc, .int .i64 z2, .int .i64 z3, .int .i64 z4, .int .i64 z5, .int .i64 z6] tTwo) (Both (StoreT tb (newSt 67108864)) (Both (StoreT sb (newSt 67108864)) (Both (RowG tSx 1 (.slice a5 T.length p5) T.length (strs T)) (Both (RowG tSx 1 (.slice ga G.length gc) G.length (strs G)) Nought)))) by ac_rfl)
            have x2 := cell_at hbx.cell.1 2
            have x4 := cell_at hbx.cell.1 4
            simp only [List.getElem?_toArray, List.getElem?_cons_zero, List.getElem?_cons_succ] at x2 x4
            have hR7 : Stable (Both (RowG tSx 1 (.slice ga G.length gc) G.length (strs G)) (Both (StoreT tb (newSt 67108864)) (Both (RowG tSx 1 (.slice a5 T.length p5) T.length (strs T)) (Both (CellT kb #[rv, .slice oa ks.length oc, .int .i64 z2, .int .i64 z3, .int .i64 z4, .int .i64 z5, .int .i64 z6] tTwo) Nought)))) := (RowG.stable _ _ _ _ _).both ((StoreT.stable _ _).both ((RowG.stable _ _ _ _ _).both ((CellT.stable _ _ _).both Stable.nought)))
            have hso := Sort_at9 (ws := G) (bu := b2) (fan := b4) (v := .slice ga G.length gc) (hbx.perm (show _ = Both (StoreT sb (newSt 67108864)) (Both (RowG tSx 1 (.slice ga G.length gc) G.length (strs G)) (Both (StoreT tb (newSt 67108864)) (Both (RowG tSx 1 (.slice a5 T.length p5) T.length (strs T)) (Both (CellT kb #[rv, .slice oa ks.length oc, .int .i64 z2, .int .i64 z3, .int .i64 z4, .int .i64 z5, .int .i64 z6] tTwo) Nought)))) by ac_rfl)) hR7 HF.out (GoodS.new _) (by have := HBN.out; unfold inI64; omega) (by have := HBN.out; unfold inI64; omega) ⟨_, _, rfl, by omega⟩ HGX.out (fun w' h' => RdRow.of_own h'.rowG)
            rw [show (newSt 67108864 : St) = newSt ((67108864 : Nat) : Int) from rfl, HS1.out.1] at hso
            dsimp only at hso
            rw [errV_zero] at hso
            have HSO := Lib.hid hso
            obtain ⟨p3, p3w, q3, q3w, r3, r3w, s3, s3w⟩ := HW.out
            clear hso hbx h7 hR7
            (repeat' (first | (go_big_may; fail) | go_values | go_skip | go_guarded | go_step | go_upon | go_back | dsimp only))
            refine HSO.out.mono ?_
            rintro e w8 ⟨rfl, h8⟩
            have hby := h8.perm (show _ = Both (CellT kb #[rv, .slice oa ks.length oc, .int .i64 z2, .int .i64 z3, .int .i64 z4, .int .i64 z5, .int .i64 z6] tTwo) (Both (StoreT tb (newSt ((67108864 : Nat) : Int))) (Both (StoreT sb S1) (Both (RowG tSx 1 (.slice a5 T.length p5) T.length (strs T)) (Both (RowG tSx 1 (.slice ga G.length gc) G.length (strs G)) Nought)))) by ac_rfl)
            clear x2 x4
            have x3 := cell_at hby.cell.1 3
            have x5 := cell_at hby.cell.1 5
            simp only [List.getElem?_toArray, List.getElem?_cons_zero, List.getElem?_cons_succ] at x3 x5
            have hR8 : Stable (Both (RowG tSx 1 (.slice a5 T.length p5) T.length (strs T)) (Both (StoreT sb S1) (Both (RowG tSx 1 (.slice ga G.length gc) G.length (strs G)) (Both (CellT kb #[rv, .slice oa ks.length oc, .int .i64 z2, .int .i64 z3, .int .i64 z4, .int .i64 z5, .int .i64 z6] tTwo) Nought)))) := (RowG.stable _ _ _ _ _).both ((StoreT.stable _ _).both ((RowG.stable _ _ _ _ _).both ((CellT.stable _ _ _).both Stable.nought)))
            have hso := Sort_at9 (ws := T) (bu := b3) (fan := b5) (v := .slice a5 T.length p5) (hby.perm (show _ = Both (StoreT tb (newSt ((67108864 : Nat) : Int))) (Both (RowG tSx 1 (.slice a5 T.length p5) T.length (strs T)) (Both (StoreT sb S1) (Both (RowG tSx 1 (.slice ga G.length gc) G.length (strs G)) (Both (CellT kb #[rv, .slice oa ks.length oc, .int .i64 z2, .int .i64 z3, .int .i64 z4, .int .i64 z5, .int .i64 z6] tTwo) Nought)))) by ac_rfl)) hR8 HF.out (GoodS.new _) (by have := HBN.out; unfold inI64; omega) (by have := HBN.out; unfold inI64; omega) ⟨_, _, rfl, by omega⟩ HTX.out (fun w' h' => RdRow.of_own h'.rowG)
            rw [HS2.out.1] at hso
            dsimp only at hso
            rw [errV_zero] at hso
            have HSO2 := Lib.hid hso
            clear hso hby h8 HSO
            (repeat' (first | (go_big_may; fail) | go_values | go_skip | go_guarded | go_step | go_upon | go_back | dsimp only))
            clear p3 p3w q3 q3w r3 r3w s3 s3w x3 x5
            refine HSO2.out.mono ?_
            rintro e w9 ⟨rfl, h9⟩
            have h10 := h9.perm (show _ = Both (StoreT sb S1) (Both (StoreT tb S2) (Both (RowG tSx 1 (.slice a5 T.length p5) T.length (strs T)) (Both (RowG tSx 1 (.slice ga G.length gc) G.length (strs G)) (Both (CellT kb #[rv, .slice oa ks.length oc, .int .i64 z2, .int .i64 z3, .int .i64 z4, .int .i64 z5, .int .i64 z6] tTwo) Nought)))) by ac_rfl)
            have htx := text_at h10 ((StoreT.stable _ _).both HST5.out) (fails13_all HF.out) HS1.out.2.1 (z := (m1 : Int)) (by have := HS1.out.2.2.2.2; unfold inI64; omega)
            rw [HS1.out.2.2.1] at htx
            have HTX1 := Lib.hid htx
            clear htx h10 h9 HSO2 hR8
            (repeat' (first | (go_big_may; fail) | go_values | go_skip | go_guarded | go_step | go_upon | go_back | dsimp only))
            refine HTX1.out.mono ?_
            rintro e w10 ⟨rfl, h11⟩
            have htx := text_at (h11.perm (show _ = Both (StoreT tb S2) (Both (StoreT sb S1) (Both (RowG tSx 1 (.slice a5 T.length p5) T.length (strs T)) (Both (RowG tSx 1 (.slice ga G.length gc) G.length (strs G)) (Both (CellT kb #[rv, .slice oa ks.length oc, .int .i64 z2, .int .i64 z3, .int .i64 z4, .int .i64 z5, .int .i64 z6] tTwo) Nought)))) by ac_rfl)) ((StoreT.stable _ _).both HST5.out) (fails13_all HF.out) HS2.out.2.1 (z := (m2 : Int)) (by have := HS2.out.2.2.2.2; unfold inI64; omega)
            rw [HS2.out.2.2.1] at htx
            have HTX2 := Lib.hid htx
            clear htx h11 HTX1
            (repeat' (first | (go_big_may; fail) | go_values | go_skip | go_guarded | go_step | go_upon | go_back | dsimp only))
            refine HTX2.out.mono ?_
            rintro e w11 ⟨rfl, h12⟩
            have hlv := Live_at (h12.perm (show _ = Both (StoreT sb S1) (Both (StoreT tb S2) (Both (RowG tSx 1 (.slice a5 T.length p5) T.length (strs T)) (Both (RowG tSx 1 (.slice ga G.length gc) G.length (strs G)) (Both (CellT kb #[rv, .slice oa ks.length oc, .int .i64 z2, .int .i64 z3, .int .i64 z4, .int .i64 z5, .int .i64 z6] tTwo) Nought)))) by ac_rfl)) ((StoreT.stable _ _).both HST5.out)
            rw [HS1.out.2.2.2.1] at hlv
            have HLV := Lib.hid hlv
            clear hlv h12 HTX2
            (repeat' (first | (go_big_may; fail) | go_values | go_skip | go_guarded | go_step | go_upon | go_back | dsimp only))
            refine HLV.out.mono ?_
            rintro e w12 ⟨vl, rfl, h13⟩
            obtain ⟨al, cl, hvl, _, _⟩ := own_shape h13.row
            have hvl2 : vl = .slice al 1 cl := hvl
            subst hvl2
            have hlv := Live_at (h13.drop.perm (show _ = Both (StoreT tb S2) (Both (StoreT sb S1) (Both (RowG tSx 1 (.slice a5 T.length p5) T.length (strs T)) (Both (RowG tSx 1 (.slice ga G.length gc) G.length (strs G)) (Both (CellT kb #[rv, .slice oa ks.length oc, .int .i64 z2, .int .i64 z3, .int .i64 z4, .int .i64 z5, .int .i64 z6] tTwo) Nought)))) by ac_rfl)) ((StoreT.stable _ _).both HST5.out)
            rw [HS2.out.2.2.2.1] at hlv
            have HLV2 := Lib.hid hlv
            clear hlv h13 HLV hvl
            (repeat' (first | (go_big_may; fail) | go_values | go_skip | go_guarded | go_step | go_upon | go_back | dsimp only))
            refine HLV2.out.mono ?_
            rintro e w13 ⟨vl2, rfl, h14⟩
            obtain ⟨al2, cl2, hvl2, _, _⟩ := own_shape h14.row
            have hvl3 : vl2 = .slice al2 1 cl2 := hvl2
            subst hvl3
            have HBE := Lib.hid h14.below
            clear h14 HLV2 hvl2
            (repeat' (first | (go_big_may; fail) | go_values | go_skip | go_guarded | go_step | go_upon | go_back | dsimp only))
            go_ret
            exact ⟨rfl, HBE.out⟩
end Go.Proofs.YtadokkffmekndaaGreatDoor
