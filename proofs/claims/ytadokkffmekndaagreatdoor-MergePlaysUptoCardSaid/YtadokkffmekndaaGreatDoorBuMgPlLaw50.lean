/- merge.merged walked: the list is an owned row that is read and appended to at an offset. · merge.Merge walked. · merge.Sort walked. · hornbooklaw10: wakes walked. · hornbooklaw10.lays walked. -/
import Derived.Test.YtadokkffmekndaaGreatDoorBuMgPlLaw49
import Derived.Test.YtadokkffmekndaaGreatDoorBuMgPlLaw17
import Derived.Test.YtadokkffmekndaaGreatDoorBuMgPlLaw45
import Derived.Test.YtadokkffmekndaaGreatDoorBuMgPlLaw42
import Derived.Test.YtadokkffmekndaaGreatDoorBuMgPlLaw48
import Derived.Test.YtadokkffmekndaaGreatDoorBuMgPlLaw20
import Derived.Test.YtadokkffmekndaaGreatDoorBuMgPlLaw22
import Derived.Test.YtadokkffmekndaaGreatDoorBuMgPlLaw38
import Derived.ArgAppend
import Derived.Deep.QuietTactic
import Derived.BigQuiet
set_option linter.unusedSimpArgs false
set_option linter.unusedVariables false
namespace Go.Proofs.YtadokkffmekndaaGreatDoor
open Go.RowKit
structure SliF (cs : Array Value) (o cap : Nat) (l : List Int) : Prop where
  fit : l.length ≤ cap
  top : o + cap ≤ cs.size
  max : cap ≤ maxLen
  at_ : ∀ (j : Nat) (z : Int), l[j]? = some z → cs[o + j]? = some (.int .i64 z)
section
variable {cs : Array Value} {o cap : Nat} {l : List Int} {g : Nat} {w : World}
theorem SliF.rd (h : SliF cs o cap l) (hc : w.heap[g]? = some (.cells cs tInt (0, 0))) : RdRow w (.slice (some ⟨g, o, none⟩) l.length cap) l.length 1 (intsV l) :=
  ⟨by simp [intsV], _, _, rfl, h.fit, h.max, fun j u hj => ⟨g, o, rfl, by
    obtain ⟨z, hz, rfl⟩ : ∃ z, l[j]? = some z ∧ Value.int .i64 z = u := by simpa [intsV] using hj
    rw [cell_at hc]
    exact h.at_ j z hz⟩⟩
theorem SliF.take (h : SliF cs o cap l) (k : Nat) : SliF cs o cap (l.take k) :=
  ⟨by have := h.fit; rw [List.length_take]; omega, h.top, h.max, fun j z hz => h.at_ j z (by
    rw [List.getElem?_take] at hz
    split at hz
    · exact hz
    · cases hz)⟩
theorem SliF.drop (h : SliF cs o cap l) {k : Nat} (hk : k ≤ l.length) : SliF cs (o + k) (cap - k) (l.drop k) :=
  ⟨by have := h.fit; rw [List.length_drop]; omega, by have := h.top; have := h.fit; omega, by have := h.max; omega, fun j z hz => by
    rw [List.getElem?_drop] at hz
    rw [Nat.add_assoc]
    exact h.at_ _ z hz⟩
end
section
variable {W w : World} {R : Thing} {l : List Int} {v : Value}
theorem At.rowCells (h : At W w (Both (RowG tInt 1 v l.length (intsV l)) R)) (hl : l ≠ []) : ∃ g cap cs, v = .slice (some ⟨g, 0, none⟩) l.length cap ∧ SliF cs 0 cap l ∧ At W w (Both (CellT g cs tInt) R) := by
  obtain ⟨g, cap, rfl, _, hc1, hc2⟩ := own_cut h.rowG (List.length_pos_iff.2 hl)
  have h1 := h.rowG
  obtain ⟨_, ⟨h3, _⟩ | ⟨g', cap', cur, h3, _, h5, h6, h7, h8, h9⟩⟩ := h1
  · cases h3
  · cases h3
    refine ⟨g, cap, cur, rfl, ⟨h6, by omega, h7, fun j z hz => ?_⟩, h.impl fun fp q => ?_⟩
    · have h10 : (intsV l)[j]? = some (.int .i64 z) := by simp [intsV, hz]
      rw [← h9, List.getElem?_take] at h10
      split at h10
      · simpa using h10
      · cases h10
    · obtain ⟨f, gg, ⟨_, rfl⟩, h2⟩ := q
      exact ⟨_, gg, ⟨h5, rfl⟩, h2⟩
theorem slice_append {cs : Array Value} {g o cap : Nat} (h : At W w (Both (CellT g cs tInt) R)) (hR : Stable R) (hs : SliF cs o cap l) (n : Int) (hl : l.length ≤ 1099511627776) (ty : TypeId) :
    ∃ v' w' g' o' cap' cs', (Builtin.append_ #[23, 23] ty #[.slice (some ⟨g, o, none⟩) l.length cap, .slice (some ⟨w.heap.size, 0, none⟩) 1 1]).run Tryz.prog (w.alloc (.cells #[.int .i64 n] tInt)) = .ok v' w' ∧ v' = .slice (some ⟨g', o', none⟩) (l.length + 1) cap' ∧ SliF cs' o' cap' (l ++ [n]) ∧ At W w' (Both (CellT g' cs' tInt) R) := by
  obtain ⟨i0, hi, hz⟩ : ∃ i, Tryz.prog.info? tInt = some i ∧ (i.zero, i.size, i.bytes) = (some (.int .i64 0), 1, 8) := by
    have := info_int
    cases hq : Tryz.prog.info? tInt with
    | none => rw [hq] at this; cases this
    | some i => rw [hq] at this; exact ⟨i, rfl, by simpa using this⟩
  simp only [Prod.mk.injEq] at hz
  obtain ⟨hz0, hz1, hz2⟩ := hz
  have hst := (CellT.stable g cs tInt).both hR
  have h1 := h.newCell hst #[.int .i64 n] tInt
  have hnw : ∀ j u, [Value.int .i64 n][j]? = some u → (w.alloc (.cells #[.int .i64 n] tInt)).cell? ((⟨w.heap.size, 0, none⟩ : Addr).add j) = some u := fun j u hu => by
    match j with
    | 0 =>
      simp at hu
      subst hu
      exact cell_at h1.cell.1 0
    | j + 1 => simp at hu
  have hc := h1.drop.cell.1
  by_cases hr : l.length + 1 ≤ cap
  · have hrm := run_append_room_cells (P := Tryz.prog) (w.alloc (.cells #[.int .i64 n] tInt)) 23 ty tInt i0 Tryz.underlying23 hi g o l.length cap ⟨w.heap.size, 0, none⟩ 1 1 [.int .i64 n] (by rw [hz1]; rfl) hnw (by simp [Value.oneCell']) hr
      (fun j hj => by
        have hj0 : j = 0 := by simpa using hj
        subst hj0
        rw [hz1, cell_at hc]
        have := hs.top
        simp
        omega)
      (fun j hj => thaw_at hc _)
    rw [hz1] at hrm
    have h2 := h1.drop.setCell hR (o + l.length) (.int .i64 n)
    refine ⟨_, _, g, o, cap, cs.setIfInBounds (o + l.length) (.int .i64 n), hrm, rfl, ⟨by simp; omega, by simpa using hs.top, hs.max, fun j z hj => ?_⟩, by simpa [World.setCells] using h2⟩
    by_cases hjl : j < l.length
    · rw [List.getElem?_append_left hjl] at hj
      rw [Array.getElem?_setIfInBounds_ne (by omega)]
      exact hs.at_ j z hj
    · rw [List.getElem?_append_right (by omega)] at hj
      have hj0 : j - l.length = 0 := by
        have := (List.getElem?_eq_some_iff.1 hj).1
        simp at this
        omega
      rw [hj0] at hj
      simp at hj
      subst hj
      have hje : j = l.length := by omega
      subst hje
      rw [Array.getElem?_setIfInBounds_self_of_lt (by have := hs.top; omega)]
  · have hcl : cap = l.length := by have := hs.fit; omega
    obtain ⟨v', w', hrn, ho, hg⟩ := run_append_arg_grows (P := Tryz.prog) (w.alloc (.cells #[.int .i64 n] tInt)) 23 ty tInt i0 (.int .i64 0) 1 8 Tryz.underlying23 hi hz0 hz1 hz2 rfl (by decide)
      ⟨g, o, none⟩ l.length cap (intsV l) (by simp [intsV]) (fun j u hu => by
        obtain ⟨z, hz, rfl⟩ : ∃ z, l[j]? = some z ∧ Value.int .i64 z = u := by simpa [intsV] using hu
        rw [Addr.add_lit, cell_at hc]
        exact hs.at_ j z hz)
      ⟨w.heap.size, 0, none⟩ 1 1 [.int .i64 n] rfl hnw (by omega) (by unfold maxLen; omega) (by omega)
    have hb : Below (w.alloc (.cells #[.int .i64 n] tInt)).heap.size (w.alloc (.cells #[.int .i64 n] tInt)) w' := (Below.refl _ _).grown hg (Nat.le_refl _) (fun k hk => by cases hk)
    have e1 : intsV l ++ [Value.int .i64 n] = intsV (l ++ [n]) := by simp [intsV]
    have e2 : l.length + 1 = (l ++ [n]).length := by simp
    rw [e1, e2] at ho
    have h2 := (h1.newRowG ((CellT.stable _ _ _).both hst) hb ho).perm (show _ = Both (CellT w.heap.size #[.int .i64 n] tInt) (Both (CellT g cs tInt) (Both (RowG tInt 1 v' (l ++ [n]).length (intsV (l ++ [n]))) R)) by ac_rfl)
    obtain ⟨g', cap', cs', hv, hsf, h3⟩ := h2.drop.drop.rowCells (by simp)
    exact ⟨v', w', g', 0, cap', cs', hrn, by rw [hv, ← e2], hsf, h3⟩
end
section
variable {W w : World} {R : Thing} {b : Nat} {ef : Nat → Nat × Nat} {S : St} {l : List Int} {v : Value}
theorem wpList_append_run {P : Program} {ops : Array Oper} {rest : List Oper} {o : Oper} {a : Act} {Q : Exit → Act → World → Prop} {w w' : World} (hgd : o.guard = none)
    (s x : Operand) (t : TypeId) (ho : o.op = .call { callee := .builtin .append, args := #[s, x], argTypes := #[t, t] }) {sv xv v' : Value} (hs : a.eval s = sv) (hx : a.eval x = xv)
    (hr : (Builtin.append_ #[t, t] o.type #[sv, xv]).run P w = .ok v' w') (h : wpList P ops Q rest (a.put o.dst v') w') : wpList P ops Q (o :: rest) a w := by
  refine wpList_plain hgd fun K hK' => ?_
  unfold Oper.wp
  simp [execOp, ho, resolve, invoke, builtin, hs, hx, hr, Result.andThen]
  exact hK' _ _ h
def sliN : Value → Nat
  | .slice _ n _ => n
  | _ => 0
def mergedP (S : St) (fan : Int) (l : List Int) : St × Int × Nat := if l = [] then ((writtenP S []).1, ((writtenP S []).2.1 : Int), (writtenP S []).2.2) else loopM fan.toNat l.length S l
set_option maxRecDepth 100000 in
set_option maxHeartbeats 6400000 in
theorem merged_at (h : At W w (Both (RowG tInt 1 v l.length (intsV l)) (Both (StoreT b S) R))) (hR : Stable R) (hF : Fails W ef fails13) (hG : GoodS S) (hl : LokP S l) {fan : Int} (hf : 2 ≤ fan ∧ fan ≤ 64) :
    Calls Tryz.prog 39 #[.pointer (some ⟨b, 0, none⟩), .int .i64 fan, v] w fun e w' => e = .returned (.tuple #[.int .i64 (mergedP S fan l).2.1, errV ef (mergedP S fan l).2.2]) ∧ At W w' (Both (StoreT b (mergedP S fan l).1) R) := by
  obtain ⟨ao, cp, rfl, hc1, hc2⟩ := own_shape h.rowG
  obtain ⟨res, hres⟩ : ∃ res, res = mergedP S fan l := ⟨_, rfl⟩
  rw [← hres]
  unfold mergedP at hres
  have hlen := hl.few hG
  by_cases hn : l = []
  · subst hn
    rw [if_pos rfl] at hres
    have hrd := round_at (l := []) (v := .slice none 0 0) h.drop hR hF hG hl (by decide) ⟨none, 0, rfl⟩ (fun w' _ => ⟨rfl, none, 0, rfl, Nat.le_refl _, by simp [maxLen], fun j u hu => by simp [intsV] at hu⟩)
    have ea : allP S [] = [] := ofL_nil
    rw [ea] at hrd
    have HRD := Lib.hid hrd
    have HRES := Lib.hid hres
    clear h hR hF hG hl hres hrd ea hc1 hc2 hlen
    go_enter Tryz.func39, Tryz.ntmps39
    (repeat' (first | go_values | go_skip | go_guarded | go_step | go_upon | go_back | dsimp only))
    refine HRD.out.mono ?_
    rintro e w1 ⟨rfl, h1⟩
    have H1 := Lib.hid h1
    clear h1 HRD
    (repeat' (first | go_values | go_skip | go_guarded | go_step | go_upon | go_back | dsimp only))
    go_ret2
    rw [HRES.out]
    exact ⟨rfl, H1.out⟩
  · rw [if_neg hn] at hres
    obtain ⟨g0, cap0, cs0, hv0, hs0, h0⟩ := h.rowCells hn
    simp only [Value.slice.injEq] at hv0
    obtain ⟨rfl, _, rfl⟩ := hv0
    have hl1 : 1 ≤ l.length := List.length_pos_iff.2 hn
    have hne : ((l.length : Int) == 0) = false := by simp; exact hn
    have H0 := Lib.hid h0
    have HS0 := Lib.hid hs0
    have HR := Lib.hid hR
    have HF := Lib.hid hF
    have HG := Lib.hid hG
    have HL := Lib.hid hl
    have HRES := Lib.hid hres
    have neqn : ∀ wz : World, (binOp .neq tErr .nilIface .nilIface).run Tryz.prog wz = .ok (.bool false) wz := fun wz => neq_nil wz
    clear h h0 hs0 hR hF hG hl hres hn
    go_enter Tryz.func39, Tryz.ntmps39
    (repeat' (first | go_values | go_skip | go_guarded | go_step | go_upon | go_back | dsimp only))
    go_loopw [2] (fun v2 wr => ∃ (n : Nat) (S' : St) (l' : List Int) (g o cap : Nat) (cs : Array Value), v2 = .slice (some ⟨g, o, none⟩) l'.length cap ∧ SliF cs o cap l' ∧ GoodS S' ∧ LokP S' l' ∧ 1 ≤ l'.length ∧ l'.length ≤ n ∧ res = loopM fan.toNat n S' l' ∧ At W wr (Both (CellT g cs tInt) (Both (StoreT b S') R))) (fun v2 _ => sliN v2)
    case atStart => exact ⟨l.length, S, l, g0, 0, _, cs0, rfl, HS0.out, HG.out, HL.out, hl1, Nat.le_refl _, HRES.out, H0.out⟩
    case round =>
      obtain ⟨n, S', l', g, o, cap, cs, rfl, hs, hg', hl', hp', hn', hr', h1⟩ := hrel
      clear H0 HS0 HG HL HRES hne hl1 hc1 hc2 hlen
      have hlen' := hl'.few hg'
      have hfit := hs.fit
      have hmax := hs.max
      unfold maxLen at hmax
      obtain ⟨m, rfl⟩ : ∃ m, n = m + 1 := ⟨n - 1, by omega⟩
      rw [loopM] at hr'
      have HS := Lib.hid hs
      have HG := Lib.hid hg'
      have HL := Lib.hid hl'
      by_cases hlt : l'.length ≤ 1
      · rw [if_pos hlt] at hr'
        have hi1 : ¬ (1 : Int) < l'.length := by omega
        obtain ⟨z, hz⟩ : ∃ z, l'[0]? = some z := ⟨_, List.getElem?_eq_getElem (by omega)⟩
        have hz2 : l'.getD 0 0 = z := by rw [List.getD_eq_getElem?_getD, hz]; rfl
        rw [hz2] at hr'
        have c0 := cell_at h1.cell.1 (o + 0)
        rw [hs.at_ 0 z hz] at c0
        simp only [Nat.add_zero] at c0
        have hp0 : (0 : Int) < l'.length := by omega
        have HRR := Lib.hid hr'
        have H1 := Lib.hid h1
        clear hr' h1 hs hg' hl' hz hz2
        (repeat' (first | go_values | go_skip | go_guarded | go_step | go_upon | go_back | dsimp only))
        go_ret2
        rw [HRR.out]
        refine ⟨?_, H1.out.drop⟩
        show _ = Ending.returned (.tuple #[.int .i64 z, errV ef 0])
        rw [errV_zero]
        rfl
      · rw [if_neg hlt] at hr'
        have hi1 : (1 : Int) < l'.length := by omega
        obtain ⟨k, hk⟩ : ∃ k, k = min fan.toNat l'.length := ⟨_, rfl⟩
        have hk2 : 2 ≤ k ∧ k ≤ 64 ∧ k ≤ l'.length := by omega
        have hmin : min fan (l'.length : Int) = (k : Int) := by omega
        have htk : l'.take fan.toNat = l'.take k := by
          rcases Nat.le_total fan.toNat l'.length with h | h
          · rw [hk, Nat.min_eq_left h]
          · rw [hk, Nat.min_eq_right h, List.take_length, List.take_of_length_le h]
        have hdk : l'.drop fan.toNat = l'.drop k := by
          rcases Nat.le_total fan.toNat l'.length with h | h
          · rw [hk, Nat.min_eq_left h]
          · rw [hk, Nat.min_eq_right h, List.drop_length, List.drop_of_length_le h]
        rw [htk, hdk] at hr'
        have hkl : (l'.take k).length = k := by rw [List.length_take]; omega
        have hrow := fun (w' : World) (h' : At W w' (Both (CellT g cs tInt) R)) => by
          have := (HS.out.take k).rd h'.cell.1
          rwa [hkl] at this
        have hrow2 : ∀ w', At W w' (Both (CellT g cs tInt) R) → RdRow w' (.slice (some ⟨g, o, none⟩) k cap) (l'.take k).length 1 (intsV (l'.take k)) := fun w' h' => by
          have := hrow w' h'
          rwa [hkl]
        have hrnd := round_at (l := l'.take k) (v := .slice (some ⟨g, o, none⟩) k cap) (h1.perm (show _ = Both (StoreT b S') (Both (CellT g cs tInt) R) by ac_rfl)) ((CellT.stable _ _ _).both HR.out) HF.out HG.out (HL.out.take k) (by omega) ⟨_, _, by rw [hkl]⟩ hrow2
        have hz64 := HL.out.z64 HG.out
        obtain ⟨P, hP⟩ : ∃ P, P = writtenP S' (allP S' (l'.take k)) := ⟨_, rfl⟩
        have hgb := LokP.bad HG.out (l'.take k)
        have hrd' := HL.out.round HG.out k
        rw [← hP] at hrnd hr' hgb hrd'
        have HROW := Lib.hid hrow2
        have HRN := Lib.hid hrnd
        have HZ := Lib.hid hz64
        have HGB := Lib.hid hgb
        have HRO := Lib.hid hrd'
        have HKL := Lib.hid hkl
        have hk0 : (0 : Int) ≤ k := by omega
        have hkc : (k : Int) ≤ cap := by omega
        have hkn : (k : Int) ≤ l'.length := by omega
        clear hs hg' hl' hrow hrow2 hrnd hz64 hP hgb hrd' htk hdk hkl hk h1
        by_cases hz : P.2.2 = 0
        · obtain ⟨q1, q2, q3, q4⟩ := HRO.out hz
          rw [if_neg (by simpa using hz)] at hr'
          rw [hz, errV_zero] at HRN
          have hrm := fun (w' : World) (h' : At W w' (Both (StoreT b P.1) (Both (CellT g cs tInt) R))) => remove_at (l := l'.take k) (v := .slice (some ⟨g, o, none⟩) k cap) h' ((CellT.stable _ _ _).both HR.out) HF.out q4 (fun z hz => HZ.out z (List.mem_of_mem_take hz)) (by rw [HKL.out]; omega) ⟨_, _, by rw [HKL.out]⟩ HROW.out
          have HRM := Lib.hid hrm
          have HRR := Lib.hid hr'
          have HQ1 := Lib.hid q1
          have HQ2 := Lib.hid q2
          have hnum : P.2.1 ≤ 16777216 := q3
          clear hrm hr' q1 q2 q3 q4 hz
          have hA : ∀ w', At W w' (Both (CellT g cs tInt) (Both (StoreT b (goneZ P.1 (l'.take k))) R)) → ∃ v' w'' g' o' cap' cs', (Builtin.append_ #[23, 23] 23 #[.slice (if cap = k then some ⟨g, o, none⟩ else some ⟨g, o + k, none⟩) (l'.length - k) (cap - k), .slice (some ⟨w'.heap.size, 0, none⟩) 1 1]).run Tryz.prog (w'.alloc (.cells #[.int .i64 P.2.1] tInt)) = .ok v' w'' ∧ v' = .slice (some ⟨g', o', none⟩) (l'.length - k + 1) cap' ∧ SliF cs' o' cap' (l'.drop k ++ [(P.2.1 : Int)]) ∧ At W w'' (Both (CellT g' cs' tInt) (Both (StoreT b (goneZ P.1 (l'.take k))) R)) := fun w' h' => by
            by_cases hk : cap = k
            · have hs2 : SliF cs o 0 (l'.drop k) := ⟨by rw [List.length_drop]; omega, by have := HS.out.top; omega, by simp [maxLen], fun j z hz => by rw [List.drop_of_length_le (by omega)] at hz; cases hz⟩
              have := slice_append h' ((StoreT.stable _ _).both HR.out) hs2 P.2.1 (by rw [List.length_drop]; omega) 23
              rw [if_pos hk, show cap - k = 0 by omega]
              rwa [List.length_drop] at this
            · have := slice_append h' ((StoreT.stable _ _).both HR.out) (HS.out.drop (k := k) (by omega)) P.2.1 (by rw [List.length_drop]; omega) 23
              rw [if_neg hk]
              rwa [List.length_drop] at this
          have HA := Lib.hid hA
          clear hA
          (repeat' (first | go_values | go_skip | go_guarded | go_step | go_upon | go_back | dsimp only))
          refine HRN.out.mono ?_
          rintro e w1 ⟨rfl, h2⟩
          have H2 := Lib.hid h2
          clear h2 HRN
          (repeat' (first | go_values | go_skip | go_guarded | go_step | go_upon | go_back | dsimp only))
          refine (HRM.out w1 H2.out).mono ?_
          rintro e w2 ⟨rfl, h3⟩
          have H4 := Lib.hid (h3.perm (show _ = Both (CellT g cs tInt) (Both (StoreT b (goneZ P.1 (l'.take k))) R) by ac_rfl))
          clear h3 HRM H2
          (repeat' (first | (go_big_may; (at_builtin; obtain ⟨v5, w5, g5, o5, cap5, cs5, hap, hv5, hsf, h5⟩ := HA.out w2 H4.out; go_must (refine wpList_append_run (sv := .slice (if cap = k then some ⟨g, o, none⟩ else some ⟨g, o + k, none⟩) (l'.length - k) (cap - k)) (xv := .slice (some ⟨w2.heap.size, 0, none⟩) 1 1) (v' := v5) (w' := w5) rfl _ _ 23 rfl rfl rfl (by exact hap) ?_); have H5 := Lib.hid h5; have HSF := Lib.hid hsf; subst hv5; clear h5 hsf hap HA H4)) | go_values | go_skip | go_guarded | go_step | go_upon | go_back | dsimp only))
          go_roundw
          case rel =>
            refine ⟨m, _, _, g5, o5, cap5, cs5, ?_, HSF.out, HQ1.out, HQ2.out, by simp, ?_, HRR.out, H5.out⟩
            · rw [List.length_append, List.length_drop]; rfl
            · rw [List.length_append, List.length_drop, List.length_singleton]; omega
          case measure =>
            show l'.length - k + 1 < l'.length
            omega
        · rw [if_pos (by simpa using hz)] at hr'
          rw [errV_pos ef hz] at HRN
          have hrm := fun (w' : World) (h' : At W w' (Both (StoreT b P.1) (Both (CellT g cs tInt) R))) => remove_at (l := l') (v := .slice (some ⟨g, o, none⟩) l'.length cap) h' ((CellT.stable _ _ _).both HR.out) HF.out (HGB.out l').1 HZ.out (by omega) ⟨_, _, rfl⟩ (fun w' h' => HS.out.rd h'.cell.1)
          have HRM := Lib.hid hrm
          have HRR := Lib.hid hr'
          have HZZ := Lib.hid (errV_pos ef hz)
          have neqi := run_neq_iface_nil2 ⟨(ef P.2.2).1, (ef P.2.2).2, none⟩
          clear hrm hr' hz
          (repeat' (first | go_values | go_skip | go_guarded | go_step | go_upon | go_back | dsimp only))
          refine HRN.out.mono ?_
          rintro e w1 ⟨rfl, h2⟩
          have H2 := Lib.hid h2
          clear h2 HRN
          (repeat' (first | go_values | go_skip | go_guarded | go_step | go_upon | go_back | dsimp only))
          refine (HRM.out w1 H2.out).mono ?_
          rintro e w2 ⟨rfl, h3⟩
          have H3 := Lib.hid h3
          clear h3 HRM H2
          (repeat' (first | go_values | go_skip | go_guarded | go_step | go_upon | go_back | dsimp only))
          go_ret2
          rw [HRR.out]
          refine ⟨?_, (H3.out.perm (show _ = Both (CellT g cs tInt) (Both (StoreT b (goneZ P.1 l')) R) by ac_rfl)).drop⟩
          show _ = Ending.returned (.tuple #[.int .i64 0, errV ef P.2.2])
          rw [HZZ.out]
          rfl
end
section
variable {W w : World} {R : Thing} {b : Nat} {ef : Nat → Nat × Nat} {S : St} {l : List Int} {v : Value}
theorem mergeP_lim {fan : Int} (h : fan < 2 ∨ 64 < fan) : mergeP S fan l = (S, 0, 2) := by unfold mergeP; rw [if_pos h]
theorem mergeP_look {fan : Int} (h : ¬ (fan < 2 ∨ 64 < fan)) (h2 : lookP S [] l ≠ 0) : mergeP S fan l = (S, 0, lookP S [] l) := by unfold mergeP; rw [if_neg h, if_pos h2]
theorem mergeP_ok {fan : Int} (h : ¬ (fan < 2 ∨ 64 < fan)) (h2 : lookP S [] l = 0) : mergeP S fan l = mergedP S fan l := by unfold mergeP mergedP; rw [if_neg h, if_neg (by simpa using h2)]
set_option maxRecDepth 100000 in
set_option maxHeartbeats 3200000 in
theorem Merge_at (h : At W w (Both (StoreT b S) R)) (hR : Stable R) (hF : Fails W ef fails13) (hG : GoodS S) (hz : ∀ z ∈ l, inI64 z) (hlen : l.length ≤ 1099511627776) {fan : Int} (hf64 : inI64 fan) (hv : ∃ ao cp, v = .slice ao l.length cp) (hrd : ∀ w', At W w' R → RdRow w' v l.length 1 (intsV l)) :
    Calls Tryz.prog 16 #[.pointer (some ⟨b, 0, none⟩), .int .i64 fan, v] w fun e w' => e = .returned (.tuple #[.int .i64 (mergeP S fan l).2.1, errV ef (mergeP S fan l).2.2]) ∧ At W w' (Both (StoreT b (mergeP S fan l).1) R) := by
  have hlk := look_at h hR hF hz hlen hv hrd
  obtain ⟨av, cv, rfl⟩ := hv
  have hnotf : ∀ (x : Bool) (w : World), (Op.unary .not (.bool x)).run Tryz.prog w = .ok (.bool (!x)) w := fun _ _ => rfl
  have hcg := (hF.below h.below).cell (2, 1) (by decide)
  by_cases hfl : fan < 2 ∨ 64 < fan
  · rw [mergeP_lim hfl]
    dsimp only
    rw [errV_pos ef (show (2 : Nat) ≠ 0 by decide)]
    have hft := mfit_calls fan w
    rw [decide_eq_false (by omega)] at hft
    have HFT := Lib.hid hft
    have H := Lib.hid h
    have HR := Lib.hid hR
    clear h hR hF hG hz hrd hlk hft hfl
    go_enter Tryz.func16, Tryz.ntmps16
    (repeat' (first | go_values | go_skip | go_guarded | go_step | go_upon | go_back | dsimp only))
    refine HFT.out.mono ?_
    rintro e w1 ⟨rfl, rfl⟩
    (repeat' (first | go_values | go_skip | go_guarded | go_step | go_upon | go_back | dsimp only))
    go_quiet (fail)
    (repeat' (first | go_values | go_skip | go_guarded | go_step | go_upon | go_back | dsimp only))
    go_ret2
    exact ⟨rfl, H.out.drewN ((StoreT.stable _ _).both HR.out) _⟩
  · have hft := mfit_calls fan w
    rw [decide_eq_true (by omega)] at hft
    have HFT := Lib.hid hft
    by_cases hl0 : lookP S [] l = 0
    · rw [mergeP_ok hfl hl0]
      rw [hl0, errV_zero] at hlk
      have HLK := Lib.hid hlk
      have hmg := fun (w1 w2 : World) (v' : Value) (h1 : At W w1 (Both (StoreT b S) R)) (hb : Below w1.heap.size w1 w2) (ho : w2.ownsRow w1.heap.size tInt 1 v' l.length (intsV l)) =>
        merged_at (fan := fan) (h1.newRowG ((StoreT.stable _ _).both hR) hb ho) hR hF hG (look_lok hl0) (by omega)
      have HMG := Lib.hid hmg
      have HCL := Lib.hid (fun (w1 : World) (h1 : At W w1 (Both (StoreT b S) R)) => Clone_ints (hrd w1 h1.drop) (by have := (look_lok hl0).few hG; omega))
      have neqn : ∀ wz : World, (binOp .neq tErr .nilIface .nilIface).run Tryz.prog wz = .ok (.bool false) wz := fun wz => neq_nil wz
      clear h hR hF hG hz hrd hlk hft hfl hmg hcg hl0
      go_enter Tryz.func16, Tryz.ntmps16
      (repeat' (first | go_values | go_skip | go_guarded | go_step | go_upon | go_back | dsimp only))
      refine HFT.out.mono ?_
      rintro e w1 ⟨rfl, rfl⟩
      (repeat' (first | go_values | go_skip | go_guarded | go_step | go_upon | go_back | dsimp only))
      refine HLK.out.mono ?_
      rintro e w2 ⟨rfl, h2⟩
      have H2 := Lib.hid h2
      clear h2 HLK
      (repeat' (first | go_values | go_skip | go_guarded | go_step | go_upon | go_back | dsimp only))
      refine (HCL.out _ H2.out).mono ?_
      rintro e w3 ⟨v3, rfl, ho, hb⟩
      have HM2 := Lib.hid (HMG.out _ _ _ H2.out hb ho)
      clear ho hb HCL HMG
      (repeat' (first | go_values | go_skip | go_guarded | go_step | go_upon | go_back | dsimp only))
      refine HM2.out.mono ?_
      rintro e w4 ⟨rfl, h4⟩
      have H4 := Lib.hid h4
      clear h4 HM2
      (repeat' (first | go_values | go_skip | go_guarded | go_step | go_upon | go_back | dsimp only))
      go_ret2
      exact ⟨rfl, H4.out⟩
    · rw [mergeP_look hfl hl0]
      dsimp only
      rw [errV_pos ef hl0] at hlk ⊢
      have HLK := Lib.hid hlk
      have neqi := run_neq_iface_nil2 ⟨(ef (lookP S [] l)).1, (ef (lookP S [] l)).2, none⟩
      clear h hR hF hG hz hrd hlk hft hfl hl0 hcg
      go_enter Tryz.func16, Tryz.ntmps16
      (repeat' (first | go_values | go_skip | go_guarded | go_step | go_upon | go_back | dsimp only))
      refine HFT.out.mono ?_
      rintro e w1 ⟨rfl, rfl⟩
      (repeat' (first | go_values | go_skip | go_guarded | go_step | go_upon | go_back | dsimp only))
      refine HLK.out.mono ?_
      rintro e w2 ⟨rfl, h2⟩
      have H2 := Lib.hid h2
      clear h2 HLK
      (repeat' (first | go_values | go_skip | go_guarded | go_step | go_upon | go_back | dsimp only))
      go_ret2
      exact ⟨rfl, H2.out⟩
end
section
variable {W w : World} {R : Thing} {b : Nat} {ef : Nat → Nat × Nat} {S : St} {ws : List (List UInt8)} {v : Value}
theorem sortP_lim {bu fan : Int} (h : bu < 1 ∨ 65536 < bu ∨ fan < 2 ∨ 64 < fan) : sortP S bu fan ws = (S, 0, 2) := by unfold sortP; rw [if_pos h]
theorem sortP_add {bu fan : Int} (h : ¬ (bu < 1 ∨ 65536 < bu ∨ fan < 2 ∨ 64 < fan)) {A : St × FmD × Nat} (hA : addP S (newF bu.toNat) ws = A) (hz : A.2.2 ≠ 0) : sortP S bu fan ws = (A.1, 0, A.2.2) := by
  subst hA
  unfold sortP
  rw [if_neg h]
  exact if_pos hz
theorem sortP_fin {bu fan : Int} (h : ¬ (bu < 1 ∨ 65536 < bu ∨ fan < 2 ∨ 64 < fan)) {A : St × FmD × Nat} (hA : addP S (newF bu.toNat) ws = A) (hz : A.2.2 = 0) {Q : St × FmD × List Nat × Nat} (hQ : finishP A.1 A.2.1 = Q) (hq : Q.2.2.2 ≠ 0) : sortP S bu fan ws = (Q.1, 0, Q.2.2.2) := by
  subst hA
  subst hQ
  unfold sortP
  rw [if_neg h]
  refine (if_neg (show ¬ (addP S (newF bu.toNat) ws).2.2 ≠ 0 by simpa using hz)).trans ?_
  exact if_pos hq
theorem sortP_go {bu fan : Int} (h : ¬ (bu < 1 ∨ 65536 < bu ∨ fan < 2 ∨ 64 < fan)) {A : St × FmD × Nat} (hA : addP S (newF bu.toNat) ws = A) (hz : A.2.2 = 0) {Q : St × FmD × List Nat × Nat} (hQ : finishP A.1 A.2.1 = Q) (hq : Q.2.2.2 = 0) : sortP S bu fan ws = mergeP Q.1 fan (mz Q.2.2.1) := by
  subst hA
  subst hQ
  unfold sortP
  rw [if_neg h]
  refine (if_neg (show ¬ (addP S (newF bu.toNat) ws).2.2 ≠ 0 by simpa using hz)).trans ?_
  exact if_neg (fun h => h hq)
theorem finish_len (S : St) (f : FmD) : (finishP S f).2.2.1.length ≤ (finishP S f).2.1.made.length := by
  unfold finishP
  split
  · exact Nat.zero_le _
  · split
    · exact Nat.le_refl _
    · split
      · exact Nat.le_refl _
      · exact Nat.zero_le _
set_option maxRecDepth 100000 in
set_option maxHeartbeats 3200000 in
theorem Sort_at9 (h : At W w (Both (StoreT b S) R)) (hR : Stable R) (hF : Fails W ef fails13) (hG : GoodS S) {bu fan : Int} (hb64 : inI64 bu) (hf64 : inI64 fan) (hv : ∃ ao cp, v = .slice ao ws.length cp ∧ ws.length ≤ 1099511627776) (hx : ∀ x ∈ ws, x.length ≤ 1099511627776) (hrd : ∀ w', At W w' R → RdRow w' v ws.length 1 (strs ws)) :
    Calls Tryz.prog 13 #[.pointer (some ⟨b, 0, none⟩), .int .i64 bu, .int .i64 fan, v] w fun e w' => e = .returned (.tuple #[.int .i64 (sortP S bu fan ws).2.1, errV ef (sortP S bu fan ws).2.2]) ∧ At W w' (Both (StoreT b (sortP S bu fan ws).1) R) := by
  have hst := (StoreT.stable b S).both hR
  have hnotf : ∀ (x : Bool) (w : World), (Op.unary .not (.bool x)).run Tryz.prog w = .ok (.bool (!x)) w := fun _ _ => rfl
  have neqn : ∀ wz : World, (binOp .neq tErr .nilIface .nilIface).run Tryz.prog wz = .ok (.bool false) wz := fun wz => neq_nil wz
  by_cases hbl : bu < 1 ∨ 65536 < bu
  · rw [sortP_lim (by omega)]
    dsimp only
    have hfn := FNew_no (b := b) (hF.below h.below) hb64 hbl
    rw [errV_pos ef (show (2 : Nat) ≠ 0 by decide)] at hfn ⊢
    have neqi := run_neq_iface_nil2 ⟨(ef 2).1, (ef 2).2, none⟩
    have HFN := Lib.hid hfn
    have H := Lib.hid h
    have HST := Lib.hid hst
    clear h hR hF hG hb64 hf64 hv hx hrd hst hfn hbl
    go_enter Tryz.func13, Tryz.ntmps13
    (repeat' (first | go_values | go_skip | go_guarded | go_step | go_upon | go_back | dsimp only))
    refine HFN.out.mono ?_
    rintro e w1 ⟨rfl, hb1⟩
    have H1 := Lib.hid (H.out.mono HST.out hb1)
    clear hb1 HFN
    (repeat' (first | go_values | go_skip | go_guarded | go_step | go_upon | go_back | dsimp only))
    go_ret2
    exact ⟨rfl, H1.out⟩
  · obtain ⟨bn, hbn⟩ : ∃ bn : Nat, bu = bn := ⟨bu.toNat, by omega⟩
    subst hbn
    have hbn2 : 1 ≤ bn ∧ bn ≤ 65536 := by omega
    have hfn := FNew_at (b := b) (ef := ef) h hst hbn2
    have HFN := Lib.hid hfn
    by_cases hfl : fan < 2 ∨ 64 < fan
    · rw [sortP_lim (by omega)]
      dsimp only
      rw [errV_pos ef (show (2 : Nat) ≠ 0 by decide)]
      have HFT := Lib.hid (fun w => mfit_calls fan w)
      have hd : decide (2 ≤ fan ∧ fan ≤ 64) = false := decide_eq_false (by omega)
      rw [hd] at HFT
      have HR := Lib.hid hR
      have HF := Lib.hid hF
      clear h hR hF hG hb64 hf64 hv hx hrd hst hfn hbl hfl hd hbn2
      go_enter Tryz.func13, Tryz.ntmps13
      (repeat' (first | go_values | go_skip | go_guarded | go_step | go_upon | go_back | dsimp only))
      refine HFN.out.mono ?_
      rintro e w1 ⟨k, rfl, h1⟩
      have hcg := (HF.out.below h1.below).cell (2, 1) (by decide)
      have H1 := Lib.hid h1
      clear h1 HFN
      (repeat' (first | go_values | go_skip | go_guarded | go_step | go_upon | go_back | dsimp only))
      refine (HFT.out _).mono ?_
      rintro e w2 ⟨rfl, rfl⟩
      (repeat' (first | go_values | go_skip | go_guarded | go_step | go_upon | go_back | dsimp only))
      go_quiet (fail)
      (repeat' (first | go_values | go_skip | go_guarded | go_step | go_upon | go_back | dsimp only))
      go_ret2
      exact ⟨rfl, (H1.out.drewN ((FoT.stable _ _ _ _).both ((StoreT.stable _ _).both HR.out)) _).drop⟩
    · have HFT := Lib.hid (fun w => mfit_calls fan w)
      have hd : decide (2 ≤ fan ∧ fan ≤ 64) = true := decide_eq_true (by omega)
      rw [hd] at HFT
      have hlim : ¬ ((bn : Int) < 1 ∨ 65536 < (bn : Int) ∨ fan < 2 ∨ 64 < fan) := by omega
      have hO : FOk S (newF bn) := newF_ok S hbn2
      have hF11 : Fails W ef fails11 := hF.less (by decide)
      have had := fun (k : Nat) (w1 : World) (h1 : At W w1 (Both (FoT k b ef (newF bn)) (Both (StoreT b S) R))) => Add_at (ws := ws) (v := v) h1 hR hF11 hG trivial hO hv hx hrd
      obtain ⟨k1, hc1, hc2⟩ := addP_keep hG trivial hO ws
      obtain ⟨A, hA⟩ : ∃ A, A = addP S (newF bn) ws := ⟨_, rfl⟩
      have HAE := Lib.hid (show addP S (newF (bn : Int).toNat) ws = A by rw [hA]; rfl)
      rw [← hA] at had k1
      by_cases hz : A.2.2 = 0
      · rw [hz, errV_zero] at had
        have hfi := fun (k : Nat) (w1 : World) (h1 : At W w1 (Both (FoT k b ef A.2.1) (Both (StoreT b A.1) R))) => Finish_at h1 hR hF11 k1.good trivial k1.ok
        obtain ⟨k2, hc3, hc4⟩ := finishP_keep k1.good trivial k1.ok
        obtain ⟨Q, hQ⟩ : ∃ Q, Q = finishP A.1 A.2.1 := ⟨_, rfl⟩
        rw [← hQ] at hfi k2 hc4
        have HAD := Lib.hid had
        by_cases hq : Q.2.2.2 = 0
        · rw [sortP_go hlim HAE.out hz hQ.symm hq]
          rw [hq, errV_zero] at hfi
          have hmm : ∀ z ∈ mz Q.2.2.1, inI64 z := fun z hz => by
            obtain ⟨n, hn, rfl⟩ := List.mem_map.1 hz
            have h1 := hc4 n hn
            have h2 := k2.good.sizes.2.2.2.1
            unfold inI64; omega
          have hml : Q.2.2.1.length ≤ 1099511627776 := by
            have h1 := k2.ok.few
            have h2 := k2.good.sizes.2.2.2.1
            have h3 : Q.2.2.1.length ≤ Q.2.1.made.length := by
              rw [hQ]
              exact finish_len A.1 A.2.1
            omega
          have hmg := fun (k : Nat) (w1 : World) (v1 : Value) (h1 : At W w1 (Both (RowT v1 (mz Q.2.2.1)) (Both (FoT k b ef Q.2.1) (Both (StoreT b Q.1) R)))) =>
            Merge_at (l := mz Q.2.2.1) (v := v1) (fan := fan) (h1.perm (show _ = Both (StoreT b Q.1) (Both (RowT v1 (mz Q.2.2.1)) (Both (FoT k b ef Q.2.1) R)) by ac_rfl)) ((RowT.stable _ _).both ((FoT.stable _ _ _ _).both hR)) hF k2.good hmm (by simpa [mz] using hml) hf64 (by obtain ⟨ao, cp, hv, _⟩ := own_shape h1.row; exact ⟨ao, cp, hv⟩) (fun w' h' => RdRow.of_own h'.row)
          have HFI := Lib.hid hfi
          have HMG := Lib.hid hmg
          generalize mergeP Q.1 fan (mz Q.2.2.1) = M at *
          clear h hR hF hF11 hG hb64 hf64 hv hx hrd hst hfn hbl hfl hd hbn2 hlim hO had k1 hc1 hc2 hA hz hfi k2 hc3 hc4 hQ hq hmm hml hmg HAE
          go_enter Tryz.func13, Tryz.ntmps13
          (repeat' (first | go_values | go_skip | go_guarded | go_step | go_upon | go_back | dsimp only))
          refine HFN.out.mono ?_
          rintro e w1 ⟨k, rfl, h1⟩
          have H1 := Lib.hid h1
          clear h1 HFN
          (repeat' (first | go_values | go_skip | go_guarded | go_step | go_upon | go_back | dsimp only))
          refine (HFT.out _).mono ?_
          rintro e w2 ⟨rfl, rfl⟩
          (repeat' (first | go_values | go_skip | go_guarded | go_step | go_upon | go_back | dsimp only))
          refine (HAD.out k _ H1.out).mono ?_
          rintro e w3 ⟨rfl, h3⟩
          have H3 := Lib.hid h3
          clear h3 HAD H1
          (repeat' (first | go_values | go_skip | go_guarded | go_step | go_upon | go_back | dsimp only))
          refine (HFI.out k w3 H3.out).mono ?_
          rintro e w4 ⟨v4, rfl, h4⟩
          have H4 := Lib.hid h4
          clear h4 HFI H3
          (repeat' (first | go_values | go_skip | go_guarded | go_step | go_upon | go_back | dsimp only))
          refine (HMG.out k w4 v4 H4.out).mono ?_
          rintro e w5 ⟨rfl, h5⟩
          have H5 := Lib.hid (h5.perm (show _ = Both (RowT v4 (mz Q.2.2.1)) (Both (FoT k b ef Q.2.1) (Both (StoreT b M.1) R)) by ac_rfl))
          clear h5 HMG H4
          (repeat' (first | go_values | go_skip | go_guarded | go_step | go_upon | go_back | dsimp only))
          go_ret2
          exact ⟨rfl, H5.out.drop.drop⟩
        · rw [sortP_fin hlim HAE.out hz hQ.symm hq]
          dsimp only
          rw [errV_pos ef hq] at hfi ⊢
          have neqi := run_neq_iface_nil2 ⟨(ef Q.2.2.2).1, (ef Q.2.2.2).2, none⟩
          have HFI := Lib.hid hfi
          clear h hR hF hF11 hG hb64 hf64 hv hx hrd hst hfn hbl hfl hd hbn2 hlim hO had k1 hc1 hc2 hA hz hfi k2 hc3 hc4 hQ hq HAE
          go_enter Tryz.func13, Tryz.ntmps13
          (repeat' (first | go_values | go_skip | go_guarded | go_step | go_upon | go_back | dsimp only))
          refine HFN.out.mono ?_
          rintro e w1 ⟨k, rfl, h1⟩
          have H1 := Lib.hid h1
          clear h1 HFN
          (repeat' (first | go_values | go_skip | go_guarded | go_step | go_upon | go_back | dsimp only))
          refine (HFT.out _).mono ?_
          rintro e w2 ⟨rfl, rfl⟩
          (repeat' (first | go_values | go_skip | go_guarded | go_step | go_upon | go_back | dsimp only))
          refine (HAD.out k _ H1.out).mono ?_
          rintro e w3 ⟨rfl, h3⟩
          have H3 := Lib.hid h3
          clear h3 HAD H1
          (repeat' (first | go_values | go_skip | go_guarded | go_step | go_upon | go_back | dsimp only))
          refine (HFI.out k w3 H3.out).mono ?_
          rintro e w4 ⟨v4, rfl, h4⟩
          have H4 := Lib.hid h4
          clear h4 HFI H3
          (repeat' (first | go_values | go_skip | go_guarded | go_step | go_upon | go_back | dsimp only))
          go_ret2
          exact ⟨rfl, H4.out.drop.drop⟩
      · rw [sortP_add hlim HAE.out hz]
        dsimp only
        rw [errV_pos ef hz] at had ⊢
        have neqi := run_neq_iface_nil2 ⟨(ef A.2.2).1, (ef A.2.2).2, none⟩
        have HAD := Lib.hid had
        clear h hR hF hF11 hG hb64 hf64 hv hx hrd hst hfn hbl hfl hd hbn2 hlim hO had k1 hc1 hc2 hA hz HAE
        go_enter Tryz.func13, Tryz.ntmps13
        (repeat' (first | go_values | go_skip | go_guarded | go_step | go_upon | go_back | dsimp only))
        refine HFN.out.mono ?_
        rintro e w1 ⟨k, rfl, h1⟩
        have H1 := Lib.hid h1
        clear h1 HFN
        (repeat' (first | go_values | go_skip | go_guarded | go_step | go_upon | go_back | dsimp only))
        refine (HFT.out _).mono ?_
        rintro e w2 ⟨rfl, rfl⟩
        (repeat' (first | go_values | go_skip | go_guarded | go_step | go_upon | go_back | dsimp only))
        refine (HAD.out k _ H1.out).mono ?_
        rintro e w3 ⟨rfl, h3⟩
        have H3 := Lib.hid h3
        clear h3 HAD H1
        (repeat' (first | go_values | go_skip | go_guarded | go_step | go_upon | go_back | dsimp only))
        go_ret2
        exact ⟨rfl, H3.out.drop⟩
end
theorem rd_cell {w : World} {g n : Nat} {cs : Array Value} {T : TypeId} (h : w.heap[g]? = some (.cells cs T (0, 0))) (hs : cs.size = n) (hn : n ≤ maxLen) : RdRow w (.slice (some ⟨g, 0, none⟩) n n) n 1 cs.toList :=
  ⟨by simpa using hs, _, _, rfl, Nat.le_refl _, hn, fun j u hu => ⟨g, 0, rfl, by rw [Nat.zero_add, cell_at h]; simpa using hu⟩⟩
theorem sort_good {S : St} (hG : GoodS S) (b fan : Int) (ws : List (List UInt8)) : GoodS (sortP S b fan ws).1 := by
  by_cases h : b < 1 ∨ 65536 < b ∨ fan < 2 ∨ 64 < fan
  · rw [sortP_lim h]; exact hG
  · rcases sort_end hG (b := b) (fan := fan) (by omega) (by omega) ws with ⟨_, m, _, h2⟩ | ⟨_, _, _, h2⟩
    · exact h2.good
    · exact h2
theorem wk_one : (sortP (newSt 100) 1 2 [[98], [97], [98]]).2 = (5, 0) := by kernel_rfl
theorem wk_two : (sortP (newSt 100) 1 2 [[98], [97], [98]]).1.runs = [(5, ⟨[1, 97, 1, 98], true⟩)] := by kernel_rfl
theorem wk_text : textP (sortP (newSt 100) 1 2 [[98], [97], [98]]).1 5 = [1, 97, 1, 98] := textP_of (sort_good (GoodS.new 100) 1 2 _) (p := (5, ⟨[1, 97, 1, 98], true⟩)) (by rw [wk_two]; simp) rfl
theorem wk_keys : (sortP (newSt 100) 1 2 [[98], [97], [98]]).1.keys = [5] := by unfold St.keys; rw [wk_two]; rfl
theorem fails13_all {W : World} {ef : Nat → Nat × Nat} (h : Fails W ef fails13) : Fails W ef fails12 := h.less (by decide)
set_option maxRecDepth 100000 in
set_option maxHeartbeats 3200000 in
theorem wakes10_calls {w : World} {ef : Nat → Nat × Nat} (hF : Fails w ef fails13) :
    Calls Tryz.prog 9 #[] w fun e w' => e = .returned (.bool true) ∧ Below w.heap.size w w' := by
  have h0 := At.nought (Below.refl w.heap.size w)
  have HN := Lib.hid (New_at h0 Stable.nought (c := 100) (by unfold inI64; omega))
  have HF := Lib.hid hF
  have eqn : ∀ wz : World, (binOp .eql tErr .nilIface .nilIface).run Tryz.prog wz = .ok (.bool true) wz := fun wz => eql_nil wz
  clear hF h0
  go_enter Tryz.func9, Tryz.ntmps9
  (repeat' (first | go_values | go_skip | go_guarded | go_step | go_upon | go_back | dsimp only))
  refine HN.out.mono ?_
  rintro e w1 ⟨rfl, h1⟩
  generalize w.heap.size + 1 = b at *
  have h2 := (h1.newCell ((StoreT.stable _ _).both Stable.nought) #[.string ⟨#[98]⟩, .string ⟨#[97]⟩, .string ⟨#[98]⟩] 9).perm (show _ = Both (StoreT b (newSt 100)) (Both (CellT w1.heap.size #[.string ⟨#[98]⟩, .string ⟨#[97]⟩, .string ⟨#[98]⟩] 9) Nought) by ac_rfl)
  have hso := Sort_at9 (ws := [[98], [97], [98]]) (bu := 1) (fan := 2) (v := .slice (some ⟨w1.heap.size, 0, none⟩) 3 3) h2 ((CellT.stable _ _ _).both Stable.nought) HF.out (GoodS.new 100) (by unfold inI64; omega) (by unfold inI64; omega) ⟨_, _, rfl, by decide⟩ (by intro x hx; simp at hx; rcases hx with rfl | rfl | rfl <;> simp) (fun w' h' => rd_cell h'.cell.1 rfl (by unfold maxLen; decide))
  rw [wk_one] at hso
  dsimp only at hso
  rw [errV_zero] at hso
  have hg := sort_good (GoodS.new 100) 1 2 [[98], [97], [98]]
  have ht := wk_text
  have hk := wk_keys
  generalize (sortP (newSt 100) 1 2 [[98], [97], [98]]).1 = S2 at *
  have HSO := Lib.hid hso
  have HG := Lib.hid hg
  have HT := Lib.hid ht
  have HK := Lib.hid hk
  clear h1 h2 hso hg ht hk HN
  (repeat' (first | go_values | go_skip | go_guarded | go_step | go_upon | go_back | dsimp only))
  refine HSO.out.mono ?_
  rintro e w2 ⟨rfl, h3⟩
  have htx := text_at h3 ((CellT.stable _ _ _).both Stable.nought) (fails13_all HF.out) HG.out (z := 5) (by unfold inI64; omega)
  rw [HT.out] at htx
  have HTX := Lib.hid htx
  clear htx h3 HSO
  (repeat' (first | go_values | go_skip | go_guarded | go_step | go_upon | go_back | dsimp only))
  refine HTX.out.mono ?_
  rintro e w3 ⟨rfl, h4⟩
  have hlv := Live_at h4 ((CellT.stable _ _ _).both Stable.nought)
  have HLV := Lib.hid hlv
  clear hlv h4 HTX
  (repeat' (first | go_values | go_skip | go_guarded | go_step | go_upon | go_back | dsimp only))
  refine HLV.out.mono ?_
  rintro e w4 ⟨v4, rfl, h5⟩
  rw [HK.out] at h5
  obtain ⟨ao, cp, rfl, _, _⟩ := own_shape h5.row
  have HB := Lib.hid h5.below
  clear h5 HLV
  (repeat' (first | go_values | go_skip | go_guarded | go_step | go_upon | go_back | dsimp only))
  go_ret
  exact ⟨rfl, HB.out⟩
abbrev tOp10 : TypeId := 51
def layT (k : Int) (ws : List (List UInt8)) : List UInt8 := if k = 1 then (frameR ws).1 else cat ws
def layP (S : St) (k n : Int) (ws : List (List UInt8)) : St :=
  if (createP S).2.2 = 0 then
    if k = 1 ∧ n = 1 then (appendP (createP S).1 (createP S).2.1 (layT k ws)).1 else (sealP (appendP (createP S).1 (createP S).2.1 (layT k ws)).1 (createP S).2.1).1
  else (createP S).1
theorem frame_len2 : ∀ ws : List (List UInt8), fits ws = true → (frameL ws).length ≤ 2 * (ws.length + sumLen ws)
  | [], _ => by simp [frameL]
  | r :: rs, h => by
    have hf := fits_cons.1 h
    have ih := frame_len2 rs hf.2
    have hu : (uintL r.length).length ≤ 2 := uintL_length (k := 1) (by have := hf.1; omega)
    simp only [frameL, List.length_append, sumLen, List.map_cons, List.sum_cons, List.length_cons] at ih ⊢
    omega
theorem frame_len3 : ∀ ws : List (List UInt8), ws.length + sumLen ws ≤ 1048576 → (frameL ws).length ≤ 11 * (ws.length + sumLen ws)
  | [], _ => by simp [frameL]
  | r :: rs, h => by
    simp only [sumLen, List.map_cons, List.sum_cons, List.length_cons] at h
    have ih := frame_len3 rs (by simp only [sumLen]; omega)
    have hu : (uintL r.length).length ≤ 10 := uintL_length10 (by omega)
    simp only [frameL, List.length_append, sumLen, List.map_cons, List.sum_cons, List.length_cons] at ih ⊢
    omega
theorem lay_len (k : Int) {ws : List (List UInt8)} (h : ws.length + sumLen ws + 1 ≤ 1048576) : (layT k ws).length ≤ 2097151 := by
  unfold layT
  split
  · unfold frameR
    split
    · rename_i hf
      have := frame_len2 ws hf
      dsimp only
      omega
    · simp
  · have : (cat ws).length = sumLen ws := by unfold cat sumLen; rw [List.length_flatten]
    omega
theorem layP_good {S : St} (hG : GoodS S) (k n : Int) (ws : List (List UInt8)) : GoodS (layP S k n ws) := by
  unfold layP
  split
  · split
    · exact hG.create.append _ _
    · exact (hG.create.append _ _).seal _
  · exact hG.create
theorem cat_pick {ws : List (List UInt8)} {j : Nat} {r : List UInt8} (h : ws[j]? = some r) : cat (ws.take (j + 1)) = cat (ws.take j) ++ r := by
  obtain ⟨hj, rfl⟩ := List.getElem?_eq_some_iff.1 h
  unfold cat
  rw [List.take_succ_eq_append_getElem hj, List.flatten_append, List.flatten_cons, List.flatten_nil, List.append_nil]
theorem cat_pick_le (ws : List (List UInt8)) (j : Nat) : (cat (ws.take j)).length ≤ sumLen ws := by
  have h : sumLen ws = (cat (ws.take j)).length + (cat (ws.drop j)).length := by
    have e : sumLen ws = (cat ws).length := by unfold cat sumLen; rw [List.length_flatten]
    rw [e, ← List.length_append]
    unfold cat
    rw [← List.flatten_append, List.take_append_drop]
  omega
theorem str_catM {P : Program} (x y : List UInt8) (w : World) (h : x.length + y.length ≤ 9223372036854775807) : (Op.stringOp .add ⟨x.toArray⟩ ⟨y.toArray⟩).run P w = .ok (.string ⟨(x ++ y).toArray⟩) w := by
  rw [run_string_add_sum w _ _ (by simp [ByteArray.size]; omega), ByteArray.mk_append_mk]
section
variable {W w : World} {R : Thing} {sb rb : Nat} {S : St} {ef : Nat → Nat × Nat}
theorem append_lit (h : At W w (Both (StoreT sb S) R)) (hR : Stable R) (hF : Fails W ef fails7) (hG : GoodS S) {z : Int} (hz : inI64 z) {t : List UInt8} (ht : t.length ≤ 2097151) :
    Calls Tryz.prog 44 #[.pointer (some ⟨sb, 0, none⟩), .int .i64 z, .slice (some ⟨w.heap.size, 0, none⟩) 1 1] (w.alloc (.cells #[.string ⟨t.toArray⟩] 9)) fun e w' => e = .returned (errV ef (appendP S z t).2) ∧ At W w' (Both (StoreT sb (appendP S z t).1) R) := by
  have h10 := h.alloc ((StoreT.stable _ _).both hR) (.cells #[.string ⟨t.toArray⟩] 9)
  have hbs : sb < w.heap.size := by
    obtain ⟨mb, blk, val, h1, _⟩ := h.store
    exact h1.lt sb (by simp [fpS])
  have hv : ∀ w', Upd [sb] (w.alloc (.cells #[.string ⟨t.toArray⟩] 9)) w' → RdRow w' (.slice (some ⟨w.heap.size, 0, none⟩) 1 1) [t].length 1 (strs [t]) := fun w' hu => by
    refine ⟨rfl, _, 1, rfl, Nat.le_refl _, by simp [maxLen], fun j u hj => ?_⟩
    have hb := hu.block w.heap.size (by simp) (by simp; omega)
    match j with
    | 0 =>
      simp at hj
      subst hj
      refine ⟨_, _, rfl, ?_⟩
      exact cell_at (hb.trans (heap_alloc_new w (.cells #[.string ⟨t.toArray⟩] 9))) 0
    | j + 1 => simp at hj
  have hap := Append_7 h10 hR hF hz hG.le hv (by rw [cat_one]; omega)
  rw [cat_one] at hap
  exact hap
theorem rappend_lit (h : At W w (Both (RefT rb S) R)) (hR : Stable R) (hG : GoodS S) {z : Int} (hz : inI64 z) {t : List UInt8} (ht : t.length ≤ 2097151) :
    Calls Tryz.prog 45 #[.pointer (some ⟨rb, 0, none⟩), .int .i64 z, .slice (some ⟨w.heap.size, 0, none⟩) 1 1] (w.alloc (.cells #[.string ⟨t.toArray⟩] 9)) fun e w' => e = .returned (.int .i64 (appendP S z t).2) ∧ At W w' (Both (RefT rb (appendP S z t).1) R) := by
  have hst := (RefT.stable rb S).both hR
  have h2 := h.newRowG hst ((Below.refl _ _).alloc (Nat.le_refl _) _) (World.ownsRow_lit (e := 9) (size := 1) w #[.string ⟨t.toArray⟩] 1 (Nat.le_refl _) (by decide) rfl)
  have h3 := h2.swap
  have ha := rAppend_atB (ss := [t]) (v := .slice (some ⟨w.heap.size, 0, none⟩) 1 1) h3 ((RowG.stable _ _ _ _ _).both hR) hG hz (fun w' h' => RdRow.of_own h'.rowG) (by simp [cat]; omega)
  rw [cat_one] at ha
  exact ha.mono fun e w' ⟨he, h'⟩ => ⟨he, h'.swap.drop⟩
theorem createC (S : St) : okM (createP S).2.2 := by
  unfold createP
  split
  · exact .inl (.inr (.inr (.inr (.inl rfl))))
  · split
    · exact .inl (.inr (.inr (.inl rfl)))
    · exact .inl (.inl rfl)
set_option maxRecDepth 100000 in
set_option maxHeartbeats 25600000 in
theorem lays_at (h : At W w (Both (StoreT sb S) (Both (RefT rb S) R))) (hR : Stable R) (hF : Fails W ef fails13) (hG : GoodS S) {ws : List (List UInt8)} {v lv : Value} {k n m : Int} (hrd : ∀ w', At W w' R → RdRow w' v ws.length 1 (strs ws)) (hlen : ws.length + sumLen ws + 1 ≤ 1048576) :
    Calls Tryz.prog 20 #[.pointer (some ⟨sb, 0, none⟩), .pointer (some ⟨rb, 0, none⟩), .agg #[.int .i64 k, .int .i64 n, .int .i64 m, lv, v]] w fun e w' => e = .returned (.bool true) ∧ At W w' (Both (StoreT sb (layP S k n ws)) (Both (RefT rb (layP S k n ws)) R)) := by
  have hst := (StoreT.stable sb S).both ((RefT.stable rb S).both hR)
  obtain ⟨av, cv, hv, _, hc2⟩ := (hrd w h.drop.drop).shape
  subst hv
  have h0 := h.newCell hst #[.int .i64 k, .int .i64 n, .int .i64 m, lv, .slice av ws.length cv] tOp10
  have hF7 : Fails W ef fails7 := hF.less (by decide)
  have hb0 := cell_at h0.cell.1 0
  have hb4 := cell_at h0.cell.1 4
  have lb := lt_of_heap h0.cell.1
  simp only [List.getElem?_toArray, List.getElem?_cons_zero, List.getElem?_cons_succ] at hb0 hb4
  have HRW := Lib.hid (hrd _ h0.drop.drop.drop)
  have hX : Stable (Both (CellT w.heap.size #[.int .i64 k, .int .i64 n, .int .i64 m, lv, .slice av ws.length cv] tOp10) R) := (CellT.stable _ _ _).both hR
  have h1 := h0.perm (show _ = Both (StoreT sb S) (Both (RefT rb S) (Both (CellT w.heap.size #[.int .i64 k, .int .i64 n, .int .i64 m, lv, .slice av ws.length cv] tOp10) R)) by ac_rfl)
  have hcre := fun (w' : World) (h' : At W w' (Both (StoreT sb S) (Both (RefT rb S) (Both (CellT w.heap.size #[.int .i64 k, .int .i64 n, .int .i64 m, lv, .slice av ws.length cv] tOp10) R)))) => Create_7 h' ((RefT.stable _ _).both hX) hF7
  have hrcr := fun (w' : World) (h' : At W w' (Both (StoreT sb (createP S).1) (Both (RefT rb S) (Both (CellT w.heap.size #[.int .i64 k, .int .i64 n, .int .i64 m, lv, .slice av ws.length cv] tOp10) R)))) => rCreate_at h'.swap ((StoreT.stable _ _).both hX) hG
  have hcd := fun (w' : World) (hb : Below W.heap.size W w') => code10_calls (hF.below hb) (createC S)
  have hHX := Lib.hid hX
  have hfr : k = 1 → ∀ w', RdRow w' (.slice av ws.length cv) ws.length 1 (strs ws) → Calls Tryz.prog 42 #[.slice av ws.length cv] w' fun e w'' => (∃ c : Nat, e = .returned (.tuple #[.string ⟨(layT k ws).toArray⟩, .int .i64 c])) ∧ Below w'.heap.size w' w'' := fun hk w' hr => by
    have := refFrame_calls ws (.slice av ws.length cv) w' hr (by
      have := frame_len3 ws (by omega)
      omega)
    refine this.mono fun e w'' ⟨he, hb⟩ => ⟨⟨(frameR ws).2, ?_⟩, hb⟩
    rw [he]; unfold layT; rw [if_pos hk]
  have hct : k ≠ 1 → cat (ws.take ws.length) = layT k ws := fun hk => by unfold layT; rw [if_neg hk, List.take_length]
  have hlt := lay_len k hlen
  have HFR := Lib.hid hfr
  have HCT := Lib.hid hct
  have H1 := Lib.hid h1
  have HF := Lib.hid hF
  have HF7 := Lib.hid hF7
  have hlen2 : ws.length + sumLen ws ≤ 1048576 := by omega
  unfold maxLen at hc2
  have HRW2 := Lib.hid (show RdRow (w.alloc (.cells #[.int .i64 k, .int .i64 n, .int .i64 m, lv, .slice av ws.length cv] tOp10)) (.slice av ws.length cv) ws.length 1 (strs ws) from HRW.out)
  by_cases hz : (createP S).2.2 = 0
  · have htop := (create_top hG hz).1
    have hg1 : GoodS (createP S).1 := hG.create
    have hi := htop.num
    have hsz := hg1.sizes
    have hm1 := htop.made
    have hin : inI64 ((createP S).2.1 : Int) := by unfold inI64; omega
    have hac := htop.appendC (layT k ws)
    obtain ⟨t2, htop2⟩ : ∃ t2, TopOpen S (appendP (createP S).1 (createP S).2.1 (layT k ws)).1 (createP S).2.1 t2 := by
      rcases htop.append (layT k ws) with ⟨_, h2⟩ | ⟨_, h2⟩
      · exact ⟨_, h2⟩
      · exact ⟨_, h2⟩
    have hsc := htop2.sealC
    have hg2 := htop2.good
    have hlp : layP S k n ws = if k = 1 ∧ n = 1 then (appendP (createP S).1 (createP S).2.1 (layT k ws)).1 else (sealP (appendP (createP S).1 (createP S).2.1 (layT k ws)).1 (createP S).2.1).1 := by unfold layP; rw [if_pos hz]
    rw [hlp]
    have hap := fun (w' : World) (h' : At W w' (Both (RefT rb (createP S).1) (Both (StoreT sb (createP S).1) (Both (CellT w.heap.size #[.int .i64 k, .int .i64 n, .int .i64 m, lv, .slice av ws.length cv] tOp10) R)))) => append_lit h'.swap ((RefT.stable _ _).both hX) hF7 hg1 hin hlt
    have hrap := fun (w' : World) (X : Thing) (hX : Stable X) (h' : At W w' (Both (RefT rb (createP S).1) X)) => rappend_lit h' hX hg1 hin hlt
    have hse := fun (w' : World) (X : Thing) (hX : Stable X) (h' : At W w' (Both (StoreT sb (appendP (createP S).1 (createP S).2.1 (layT k ws)).1) X)) => Seal_7 h' hX hF7 hin
    have hrse := fun (w' : World) (X : Thing) (hX : Stable X) (h' : At W w' (Both (RefT rb (appendP (createP S).1 (createP S).2.1 (layT k ws)).1) X)) => rSeal_at h' hX hg2 hin
    rw [hz] at hcre hrcr hcd
    rw [errV_zero] at hcre hcd
    rw [show ((0 : Nat) : Int) = 0 from rfl] at hrcr hcd
    have hacd := fun (w' : World) (hb : Below W.heap.size W w') => code10_calls (c := (appendP (createP S).1 (createP S).2.1 (layT k ws)).2) (hF.below hb) (by rcases hac with e | e | e <;> rw [e] <;> simp [okM, okB])
    have hscd := fun (w' : World) (hb : Below W.heap.size W w') => code10_calls (c := (sealP (appendP (createP S).1 (createP S).2.1 (layT k ws)).1 (createP S).2.1).2) (hF.below hb) (by rcases hsc with e | e <;> rw [e] <;> simp [okM, okB])
    have HCRE := Lib.hid hcre
    have HRCR := Lib.hid hrcr
    have HCD := Lib.hid hcd
    have HAP := Lib.hid hap
    have HRAP := Lib.hid hrap
    have HSE := Lib.hid hse
    have HRSE := Lib.hid hrse
    have HACD := Lib.hid hacd
    have HSCD := Lib.hid hscd
    clear hcre hrcr hcd hap hrap hse hrse hacd hscd hlp htop hg1 hi hsz hm1 hin hac htop2 hsc hg2 hz h hR hF hF7 hG hrd h0 h1 hst hlen hX hfr hct HF7 HRW
    obtain ⟨B, hB⟩ : ∃ B, sealP (appendP (createP S).1 (createP S).2.1 (layT k ws)).1 (createP S).2.1 = B := ⟨_, rfl⟩
    rw [hB] at HRSE HSE HSCD ⊢
    obtain ⟨A, hA⟩ : ∃ A, appendP (createP S).1 (createP S).2.1 (layT k ws) = A := ⟨_, rfl⟩
    rw [hA] at HRSE HSE HAP HRAP HACD ⊢
    clear hA hB
    generalize createP S = C at *
    generalize layT k ws = t at *
    by_cases hk : k = 1
    · subst hk
      by_cases hn : n = 1
      · have hnb : (n == 1) = true := beq_iff_eq.2 hn
        rw [if_pos ⟨rfl, hn⟩]
        clear hn
        go_enter Tryz.func20, Tryz.ntmps20
        (repeat' (first | go_values | go_skip | go_guarded | go_step | go_upon | go_back | dsimp only))
        generalize w.alloc (.cells #[.int .i64 1, .int .i64 n, .int .i64 m, lv, .slice av ws.length cv] tOp10) = w1 at *
        generalize w.heap.size = s at *
        go_loopw [7, 17] (fun va vi wr => ∃ j : Nat, va = .string ⟨(cat (ws.take j)).toArray⟩ ∧ vi = .int .i64 j ∧ j ≤ ws.length ∧ wr = w1) (fun _ vi _ => ws.length - (intOf vi).toNat)
        case atStart => exact ⟨0, rfl, rfl, Nat.zero_le _, rfl⟩
        case round =>
        obtain ⟨j, rfl, rfl, hj, rfl⟩ := hrel
        by_cases hlt : j < ws.length
        · obtain ⟨r, hr⟩ : ∃ r, ws[j]? = some r := ⟨_, List.getElem?_eq_getElem hlt⟩
          obtain ⟨bb, off, cap', hsl, hcell⟩ := HRW2.out.str hr
          simp only [Value.slice.injEq] at hsl
          obtain ⟨rfl, _, rfl⟩ := hsl
          have hlc := World.block_lt_of_cell? _ _ hcell
          have hcp := cat_pick hr
          have hle1 := cat_pick_le ws j
          have hle2 := cat_pick_le ws (j + 1)
          rw [hcp, List.length_append] at hle2
          have hj1 : (j : Int) < ws.length := by omega
          have hj0 : (0 : Int) ≤ j := by omega
          have hwr : IntKind.i64.wrap ((j : Int) + 1) = ((j + 1 : Nat) : Int) := by rw [IntKind.wrap_i64] <;> omega
          have hadd := fun wx => str_catM (P := Tryz.prog) (cat (ws.take j)) r wx (by omega)
          have HCP := Lib.hid hcp
          clear hcp hr
          (repeat' (first | go_values | go_skip | go_guarded | go_step | go_upon | go_back | dsimp only))
          go_roundw
          case rel => exact ⟨j + 1, by rw [HCP.out], rfl, hlt, by first | trivial | rfl⟩
          case measure => simp [intOf]; omega
        · obtain rfl : j = ws.length := by omega
          have hj1 : ¬ (ws.length : Int) < ws.length := by omega
          have HFW := Lib.hid (HFR.out rfl _ HRW2.out)
          (repeat' (first | go_values | go_skip | go_guarded | go_step | go_upon | go_back | dsimp only))
          refine HFW.out.mono ?_
          rintro e w2 ⟨⟨cf, rfl⟩, hb2⟩
          have H2 := Lib.hid (H1.out.mono ((StoreT.stable _ _).both ((RefT.stable _ _).both hHX.out)) hb2)
          clear hb2 HFW
          (repeat' (first | go_values | go_skip | go_guarded | go_step | go_upon | go_back | dsimp only))
          refine (HCRE.out w2 H2.out).mono ?_
          rintro e w3 ⟨rfl, h3⟩
          have H3 := Lib.hid h3
          clear h3 H2 HCRE
          (repeat' (first | go_values | go_skip | go_guarded | go_step | go_upon | go_back | dsimp only))
          refine (HRCR.out w3 H3.out).mono ?_
          rintro e w4 ⟨rfl, h4⟩
          have H4 := Lib.hid h4
          have hcd := HCD.out w4 h4.below
          have q0 := cell_at h4.drop.drop.cell.1 0
          have q1 := cell_at h4.drop.drop.cell.1 1
          have lq := lt_of_heap h4.drop.drop.cell.1
          simp only [List.getElem?_toArray, List.getElem?_cons_zero, List.getElem?_cons_succ] at q0 q1
          have HCD2 := Lib.hid hcd
          clear h4 H3 HRCR hcd HCD
          (repeat' (first | go_values | go_skip | go_guarded | go_step | go_upon | go_back | dsimp only))
          refine HCD2.out.mono ?_
          rintro e w5 ⟨rfl, rfl⟩
          clear HCD2
          (repeat' (first | go_values | go_skip | go_guarded | go_step | go_upon | go_back | dsimp only))
          refine (HAP.out w4 H4.out).mono ?_
          rintro e w6 ⟨rfl, h6⟩
          have HA2 := Lib.hid (HACD.out w6 h6.below)
          have H6 := Lib.hid h6
          clear h6 H4 HAP
          (repeat' (first | go_values | go_skip | go_guarded | go_step | go_upon | go_back | dsimp only))
          refine HA2.out.mono ?_
          rintro e w7 ⟨rfl, rfl⟩
          clear HA2
          (repeat' (first | go_values | go_skip | go_guarded | go_step | go_upon | go_back | dsimp only))
          refine (HRAP.out w6 _ ((StoreT.stable _ _).both hHX.out) (H6.out.perm (show _ = Both (RefT rb C.1) (Both (StoreT sb A.1) (Both (CellT s #[.int .i64 1, .int .i64 n, .int .i64 m, lv, .slice av ws.length cv] tOp10) R)) by ac_rfl))).mono ?_
          rintro e w8 ⟨rfl, h8⟩
          have q0 := cell_at h8.drop.drop.cell.1 0
          have q1 := cell_at h8.drop.drop.cell.1 1
          have lq := lt_of_heap h8.drop.drop.cell.1
          simp only [List.getElem?_toArray, List.getElem?_cons_zero, List.getElem?_cons_succ] at q0 q1
          have H8 := Lib.hid h8
          clear h8 H6 HRAP
          (repeat' (first | go_values | go_skip | go_guarded | go_step | go_upon | go_back | dsimp only))
          go_ret
          exact ⟨rfl, (H8.out.perm (show _ = Both (CellT s #[.int .i64 1, .int .i64 n, .int .i64 m, lv, .slice av ws.length cv] tOp10) (Both (StoreT sb A.1) (Both (RefT rb A.1) R)) by ac_rfl)).drop⟩
      · have hnb : (n == 1) = false := beq_eq_false_iff_ne.2 hn
        rw [if_neg (fun e => hn e.2)]
        clear hn
        go_enter Tryz.func20, Tryz.ntmps20
        (repeat' (first | go_values | go_skip | go_guarded | go_step | go_upon | go_back | dsimp only))
        generalize w.alloc (.cells #[.int .i64 1, .int .i64 n, .int .i64 m, lv, .slice av ws.length cv] tOp10) = w1 at *
        generalize w.heap.size = s at *
        go_loopw [7, 17] (fun va vi wr => ∃ j : Nat, va = .string ⟨(cat (ws.take j)).toArray⟩ ∧ vi = .int .i64 j ∧ j ≤ ws.length ∧ wr = w1) (fun _ vi _ => ws.length - (intOf vi).toNat)
        case atStart => exact ⟨0, rfl, rfl, Nat.zero_le _, rfl⟩
        case round =>
        obtain ⟨j, rfl, rfl, hj, rfl⟩ := hrel
        by_cases hlt : j < ws.length
        · obtain ⟨r, hr⟩ : ∃ r, ws[j]? = some r := ⟨_, List.getElem?_eq_getElem hlt⟩
          obtain ⟨bb, off, cap', hsl, hcell⟩ := HRW2.out.str hr
          simp only [Value.slice.injEq] at hsl
          obtain ⟨rfl, _, rfl⟩ := hsl
          have hlc := World.block_lt_of_cell? _ _ hcell
          have hcp := cat_pick hr
          have hle1 := cat_pick_le ws j
          have hle2 := cat_pick_le ws (j + 1)
          rw [hcp, List.length_append] at hle2
          have hj1 : (j : Int) < ws.length := by omega
          have hj0 : (0 : Int) ≤ j := by omega
          have hwr : IntKind.i64.wrap ((j : Int) + 1) = ((j + 1 : Nat) : Int) := by rw [IntKind.wrap_i64] <;> omega
          have hadd := fun wx => str_catM (P := Tryz.prog) (cat (ws.take j)) r wx (by omega)
          have HCP := Lib.hid hcp
          clear hcp hr
          (repeat' (first | go_values | go_skip | go_guarded | go_step | go_upon | go_back | dsimp only))
          go_roundw
          case rel => exact ⟨j + 1, by rw [HCP.out], rfl, hlt, by first | trivial | rfl⟩
          case measure => simp [intOf]; omega
        · obtain rfl : j = ws.length := by omega
          have hj1 : ¬ (ws.length : Int) < ws.length := by omega
          have HFW := Lib.hid (HFR.out rfl _ HRW2.out)
          (repeat' (first | go_values | go_skip | go_guarded | go_step | go_upon | go_back | dsimp only))
          refine HFW.out.mono ?_
          rintro e w2 ⟨⟨cf, rfl⟩, hb2⟩
          have H2 := Lib.hid (H1.out.mono ((StoreT.stable _ _).both ((RefT.stable _ _).both hHX.out)) hb2)
          clear hb2 HFW
          (repeat' (first | go_values | go_skip | go_guarded | go_step | go_upon | go_back | dsimp only))
          refine (HCRE.out w2 H2.out).mono ?_
          rintro e w3 ⟨rfl, h3⟩
          have H3 := Lib.hid h3
          clear h3 H2 HCRE
          (repeat' (first | go_values | go_skip | go_guarded | go_step | go_upon | go_back | dsimp only))
          refine (HRCR.out w3 H3.out).mono ?_
          rintro e w4 ⟨rfl, h4⟩
          have H4 := Lib.hid h4
          have hcd := HCD.out w4 h4.below
          have q0 := cell_at h4.drop.drop.cell.1 0
          have q1 := cell_at h4.drop.drop.cell.1 1
          have lq := lt_of_heap h4.drop.drop.cell.1
          simp only [List.getElem?_toArray, List.getElem?_cons_zero, List.getElem?_cons_succ] at q0 q1
          have HCD2 := Lib.hid hcd
          clear h4 H3 HRCR hcd HCD
          (repeat' (first | go_values | go_skip | go_guarded | go_step | go_upon | go_back | dsimp only))
          refine HCD2.out.mono ?_
          rintro e w5 ⟨rfl, rfl⟩
          clear HCD2
          (repeat' (first | go_values | go_skip | go_guarded | go_step | go_upon | go_back | dsimp only))
          refine (HAP.out w4 H4.out).mono ?_
          rintro e w6 ⟨rfl, h6⟩
          have HA2 := Lib.hid (HACD.out w6 h6.below)
          have H6 := Lib.hid h6
          clear h6 H4 HAP
          (repeat' (first | go_values | go_skip | go_guarded | go_step | go_upon | go_back | dsimp only))
          refine HA2.out.mono ?_
          rintro e w7 ⟨rfl, rfl⟩
          clear HA2
          (repeat' (first | go_values | go_skip | go_guarded | go_step | go_upon | go_back | dsimp only))
          refine (HRAP.out w6 _ ((StoreT.stable _ _).both hHX.out) (H6.out.perm (show _ = Both (RefT rb C.1) (Both (StoreT sb A.1) (Both (CellT s #[.int .i64 1, .int .i64 n, .int .i64 m, lv, .slice av ws.length cv] tOp10) R)) by ac_rfl))).mono ?_
          rintro e w8 ⟨rfl, h8⟩
          have q0 := cell_at h8.drop.drop.cell.1 0
          have q1 := cell_at h8.drop.drop.cell.1 1
          have lq := lt_of_heap h8.drop.drop.cell.1
          simp only [List.getElem?_toArray, List.getElem?_cons_zero, List.getElem?_cons_succ] at q0 q1
          have H8 := Lib.hid h8
          clear h8 H6 HRAP
          (repeat' (first | go_values | go_skip | go_guarded | go_step | go_upon | go_back | dsimp only))
          refine (HSE.out w8 _ ((RefT.stable _ _).both hHX.out) (H8.out.perm (show _ = Both (StoreT sb A.1) (Both (RefT rb A.1) (Both (CellT s #[.int .i64 1, .int .i64 n, .int .i64 m, lv, .slice av ws.length cv] tOp10) R)) by ac_rfl))).mono ?_
          rintro e w9 ⟨rfl, h9⟩
          have HA2 := Lib.hid (HSCD.out w9 h9.below)
          have H9 := Lib.hid h9
          clear h9 H8 HSE
          (repeat' (first | go_values | go_skip | go_guarded | go_step | go_upon | go_back | dsimp only))
          refine HA2.out.mono ?_
          rintro e w10 ⟨rfl, rfl⟩
          clear HA2
          (repeat' (first | go_values | go_skip | go_guarded | go_step | go_upon | go_back | dsimp only))
          refine (HRSE.out w9 _ ((StoreT.stable _ _).both hHX.out) (H9.out.perm (show _ = Both (RefT rb A.1) (Both (StoreT sb B.1) (Both (CellT s #[.int .i64 1, .int .i64 n, .int .i64 m, lv, .slice av ws.length cv] tOp10) R)) by ac_rfl))).mono ?_
          rintro e w11 ⟨rfl, h11⟩
          have H11 := Lib.hid (h11.perm (show _ = Both (CellT s #[.int .i64 1, .int .i64 n, .int .i64 m, lv, .slice av ws.length cv] tOp10) (Both (StoreT sb B.1) (Both (RefT rb B.1) R)) by ac_rfl))
          clear h11 H9 HRSE
          (repeat' (first | go_values | go_skip | go_guarded | go_step | go_upon | go_back | dsimp only))
          go_ret
          exact ⟨rfl, H11.out.drop⟩
    · have hkb : (k == 1) = false := beq_eq_false_iff_ne.2 hk
      rw [if_neg (fun e => hk e.1)]
      go_enter Tryz.func20, Tryz.ntmps20
      (repeat' (first | go_values | go_skip | go_guarded | go_step | go_upon | go_back | dsimp only))
      generalize w.alloc (.cells #[.int .i64 k, .int .i64 n, .int .i64 m, lv, .slice av ws.length cv] tOp10) = w1 at *
      generalize w.heap.size = s at *
      go_loopw [7, 17] (fun va vi wr => ∃ j : Nat, va = .string ⟨(cat (ws.take j)).toArray⟩ ∧ vi = .int .i64 j ∧ j ≤ ws.length ∧ wr = w1) (fun _ vi _ => ws.length - (intOf vi).toNat)
      case atStart => exact ⟨0, rfl, rfl, Nat.zero_le _, rfl⟩
      case round =>
      obtain ⟨j, rfl, rfl, hj, rfl⟩ := hrel
      by_cases hlt : j < ws.length
      · obtain ⟨r, hr⟩ : ∃ r, ws[j]? = some r := ⟨_, List.getElem?_eq_getElem hlt⟩
        obtain ⟨bb, off, cap', hsl, hcell⟩ := HRW2.out.str hr
        simp only [Value.slice.injEq] at hsl
        obtain ⟨rfl, _, rfl⟩ := hsl
        have hlc := World.block_lt_of_cell? _ _ hcell
        have hcp := cat_pick hr
        have hle1 := cat_pick_le ws j
        have hle2 := cat_pick_le ws (j + 1)
        rw [hcp, List.length_append] at hle2
        have hj1 : (j : Int) < ws.length := by omega
        have hj0 : (0 : Int) ≤ j := by omega
        have hwr : IntKind.i64.wrap ((j : Int) + 1) = ((j + 1 : Nat) : Int) := by rw [IntKind.wrap_i64] <;> omega
        have hadd := fun wx => str_catM (P := Tryz.prog) (cat (ws.take j)) r wx (by omega)
        have HCP := Lib.hid hcp
        clear hcp hr
        (repeat' (first | go_values | go_skip | go_guarded | go_step | go_upon | go_back | dsimp only))
        go_roundw
        case rel => exact ⟨j + 1, by rw [HCP.out], rfl, hlt, by first | trivial | rfl⟩
        case measure => simp [intOf]; omega
      · obtain rfl : j = ws.length := by omega
        have hj1 : ¬ (ws.length : Int) < ws.length := by omega
        have hct := HCT.out hk
        generalize cat (ws.take ws.length) = t0 at *
        subst hct
        have H2 := H1
        generalize wr = w2 at *
        (repeat' (first | go_values | go_skip | go_guarded | go_step | go_upon | go_back | dsimp only))
        refine (HCRE.out w2 H2.out).mono ?_
        rintro e w3 ⟨rfl, h3⟩
        have H3 := Lib.hid h3
        clear h3 H2 HCRE
        (repeat' (first | go_values | go_skip | go_guarded | go_step | go_upon | go_back | dsimp only))
        refine (HRCR.out w3 H3.out).mono ?_
        rintro e w4 ⟨rfl, h4⟩
        have H4 := Lib.hid h4
        have hcd := HCD.out w4 h4.below
        have q0 := cell_at h4.drop.drop.cell.1 0
        have q1 := cell_at h4.drop.drop.cell.1 1
        have lq := lt_of_heap h4.drop.drop.cell.1
        simp only [List.getElem?_toArray, List.getElem?_cons_zero, List.getElem?_cons_succ] at q0 q1
        have HCD2 := Lib.hid hcd
        clear h4 H3 HRCR hcd HCD
        (repeat' (first | go_values | go_skip | go_guarded | go_step | go_upon | go_back | dsimp only))
        refine HCD2.out.mono ?_
        rintro e w5 ⟨rfl, rfl⟩
        clear HCD2
        (repeat' (first | go_values | go_skip | go_guarded | go_step | go_upon | go_back | dsimp only))
        refine (HAP.out w4 H4.out).mono ?_
        rintro e w6 ⟨rfl, h6⟩
        have HA2 := Lib.hid (HACD.out w6 h6.below)
        have H6 := Lib.hid h6
        clear h6 H4 HAP
        (repeat' (first | go_values | go_skip | go_guarded | go_step | go_upon | go_back | dsimp only))
        refine HA2.out.mono ?_
        rintro e w7 ⟨rfl, rfl⟩
        clear HA2
        (repeat' (first | go_values | go_skip | go_guarded | go_step | go_upon | go_back | dsimp only))
        refine (HRAP.out w6 _ ((StoreT.stable _ _).both hHX.out) (H6.out.perm (show _ = Both (RefT rb C.1) (Both (StoreT sb A.1) (Both (CellT s #[.int .i64 k, .int .i64 n, .int .i64 m, lv, .slice av ws.length cv] tOp10) R)) by ac_rfl))).mono ?_
        rintro e w8 ⟨rfl, h8⟩
        have q0 := cell_at h8.drop.drop.cell.1 0
        have q1 := cell_at h8.drop.drop.cell.1 1
        have lq := lt_of_heap h8.drop.drop.cell.1
        simp only [List.getElem?_toArray, List.getElem?_cons_zero, List.getElem?_cons_succ] at q0 q1
        have H8 := Lib.hid h8
        clear h8 H6 HRAP
        (repeat' (first | go_values | go_skip | go_guarded | go_step | go_upon | go_back | dsimp only))
        refine (HSE.out w8 _ ((RefT.stable _ _).both hHX.out) (H8.out.perm (show _ = Both (StoreT sb A.1) (Both (RefT rb A.1) (Both (CellT s #[.int .i64 k, .int .i64 n, .int .i64 m, lv, .slice av ws.length cv] tOp10) R)) by ac_rfl))).mono ?_
        rintro e w9 ⟨rfl, h9⟩
        have HA2 := Lib.hid (HSCD.out w9 h9.below)
        have H9 := Lib.hid h9
        clear h9 H8 HSE
        (repeat' (first | go_values | go_skip | go_guarded | go_step | go_upon | go_back | dsimp only))
        refine HA2.out.mono ?_
        rintro e w10 ⟨rfl, rfl⟩
        clear HA2
        (repeat' (first | go_values | go_skip | go_guarded | go_step | go_upon | go_back | dsimp only))
        refine (HRSE.out w9 _ ((StoreT.stable _ _).both hHX.out) (H9.out.perm (show _ = Both (RefT rb A.1) (Both (StoreT sb B.1) (Both (CellT s #[.int .i64 k, .int .i64 n, .int .i64 m, lv, .slice av ws.length cv] tOp10) R)) by ac_rfl))).mono ?_
        rintro e w11 ⟨rfl, h11⟩
        have H11 := Lib.hid (h11.perm (show _ = Both (CellT s #[.int .i64 k, .int .i64 n, .int .i64 m, lv, .slice av ws.length cv] tOp10) (Both (StoreT sb B.1) (Both (RefT rb B.1) R)) by ac_rfl))
        clear h11 H9 HRSE
        (repeat' (first | go_values | go_skip | go_guarded | go_step | go_upon | go_back | dsimp only))
        go_ret
        exact ⟨rfl, H11.out.drop⟩
  · have hzn : (((createP S).2.2 : Int) != 0) = true := by simp; omega
    have hlp : layP S k n ws = (createP S).1 := by unfold layP; rw [if_neg hz]
    rw [hlp]
    have HCRE := Lib.hid hcre
    have HRCR := Lib.hid hrcr
    have HCD := Lib.hid hcd
    clear hcre hrcr hcd hlp hz h hR hF hF7 hG hrd h0 h1 hst hlen hX hfr hct HF7 HRW
    generalize createP S = C at *
    generalize layT k ws = t at *
    by_cases hk : k = 1
    · subst hk
      go_enter Tryz.func20, Tryz.ntmps20
      (repeat' (first | go_values | go_skip | go_guarded | go_step | go_upon | go_back | dsimp only))
      generalize w.alloc (.cells #[.int .i64 1, .int .i64 n, .int .i64 m, lv, .slice av ws.length cv] tOp10) = w1 at *
      generalize w.heap.size = s at *
      go_loopw [7, 17] (fun va vi wr => ∃ j : Nat, va = .string ⟨(cat (ws.take j)).toArray⟩ ∧ vi = .int .i64 j ∧ j ≤ ws.length ∧ wr = w1) (fun _ vi _ => ws.length - (intOf vi).toNat)
      case atStart => exact ⟨0, rfl, rfl, Nat.zero_le _, rfl⟩
      case round =>
      obtain ⟨j, rfl, rfl, hj, rfl⟩ := hrel
      by_cases hlt : j < ws.length
      · obtain ⟨r, hr⟩ : ∃ r, ws[j]? = some r := ⟨_, List.getElem?_eq_getElem hlt⟩
        obtain ⟨bb, off, cap', hsl, hcell⟩ := HRW2.out.str hr
        simp only [Value.slice.injEq] at hsl
        obtain ⟨rfl, _, rfl⟩ := hsl
        have hlc := World.block_lt_of_cell? _ _ hcell
        have hcp := cat_pick hr
        have hle1 := cat_pick_le ws j
        have hle2 := cat_pick_le ws (j + 1)
        rw [hcp, List.length_append] at hle2
        have hj1 : (j : Int) < ws.length := by omega
        have hj0 : (0 : Int) ≤ j := by omega
        have hwr : IntKind.i64.wrap ((j : Int) + 1) = ((j + 1 : Nat) : Int) := by rw [IntKind.wrap_i64] <;> omega
        have hadd := fun wx => str_catM (P := Tryz.prog) (cat (ws.take j)) r wx (by omega)
        have HCP := Lib.hid hcp
        clear hcp hr
        (repeat' (first | go_values | go_skip | go_guarded | go_step | go_upon | go_back | dsimp only))
        go_roundw
        case rel => exact ⟨j + 1, by rw [HCP.out], rfl, hlt, by first | trivial | rfl⟩
        case measure => simp [intOf]; omega
      · obtain rfl : j = ws.length := by omega
        have hj1 : ¬ (ws.length : Int) < ws.length := by omega
        have HFW := Lib.hid (HFR.out rfl _ HRW2.out)
        (repeat' (first | go_values | go_skip | go_guarded | go_step | go_upon | go_back | dsimp only))
        refine HFW.out.mono ?_
        rintro e w2 ⟨⟨cf, rfl⟩, hb2⟩
        have H2 := Lib.hid (H1.out.mono ((StoreT.stable _ _).both ((RefT.stable _ _).both hHX.out)) hb2)
        clear hb2 HFW
        (repeat' (first | go_values | go_skip | go_guarded | go_step | go_upon | go_back | dsimp only))
        refine (HCRE.out w2 H2.out).mono ?_
        rintro e w3 ⟨rfl, h3⟩
        have H3 := Lib.hid h3
        clear h3 H2 HCRE
        (repeat' (first | go_values | go_skip | go_guarded | go_step | go_upon | go_back | dsimp only))
        refine (HRCR.out w3 H3.out).mono ?_
        rintro e w4 ⟨rfl, h4⟩
        have H4 := Lib.hid h4
        have hcd := HCD.out w4 h4.below
        have q0 := cell_at h4.drop.drop.cell.1 0
        have q1 := cell_at h4.drop.drop.cell.1 1
        have lq := lt_of_heap h4.drop.drop.cell.1
        simp only [List.getElem?_toArray, List.getElem?_cons_zero, List.getElem?_cons_succ] at q0 q1
        have HCD2 := Lib.hid hcd
        clear h4 H3 HRCR hcd HCD
        (repeat' (first | go_values | go_skip | go_guarded | go_step | go_upon | go_back | dsimp only))
        refine HCD2.out.mono ?_
        rintro e w5 ⟨rfl, rfl⟩
        clear HCD2
        (repeat' (first | go_values | go_skip | go_guarded | go_step | go_upon | go_back | dsimp only))
        go_ret
        exact ⟨rfl, (H4.out.perm (show _ = Both (CellT s #[.int .i64 1, .int .i64 n, .int .i64 m, lv, .slice av ws.length cv] tOp10) (Both (StoreT sb C.1) (Both (RefT rb C.1) R)) by ac_rfl)).drop⟩
    · have hkb : (k == 1) = false := beq_eq_false_iff_ne.2 hk
      go_enter Tryz.func20, Tryz.ntmps20
      (repeat' (first | go_values | go_skip | go_guarded | go_step | go_upon | go_back | dsimp only))
      generalize w.alloc (.cells #[.int .i64 k, .int .i64 n, .int .i64 m, lv, .slice av ws.length cv] tOp10) = w1 at *
      generalize w.heap.size = s at *
      go_loopw [7, 17] (fun va vi wr => ∃ j : Nat, va = .string ⟨(cat (ws.take j)).toArray⟩ ∧ vi = .int .i64 j ∧ j ≤ ws.length ∧ wr = w1) (fun _ vi _ => ws.length - (intOf vi).toNat)
      case atStart => exact ⟨0, rfl, rfl, Nat.zero_le _, rfl⟩
      case round =>
      obtain ⟨j, rfl, rfl, hj, rfl⟩ := hrel
      by_cases hlt : j < ws.length
      · obtain ⟨r, hr⟩ : ∃ r, ws[j]? = some r := ⟨_, List.getElem?_eq_getElem hlt⟩
        obtain ⟨bb, off, cap', hsl, hcell⟩ := HRW2.out.str hr
        simp only [Value.slice.injEq] at hsl
        obtain ⟨rfl, _, rfl⟩ := hsl
        have hlc := World.block_lt_of_cell? _ _ hcell
        have hcp := cat_pick hr
        have hle1 := cat_pick_le ws j
        have hle2 := cat_pick_le ws (j + 1)
        rw [hcp, List.length_append] at hle2
        have hj1 : (j : Int) < ws.length := by omega
        have hj0 : (0 : Int) ≤ j := by omega
        have hwr : IntKind.i64.wrap ((j : Int) + 1) = ((j + 1 : Nat) : Int) := by rw [IntKind.wrap_i64] <;> omega
        have hadd := fun wx => str_catM (P := Tryz.prog) (cat (ws.take j)) r wx (by omega)
        have HCP := Lib.hid hcp
        clear hcp hr
        (repeat' (first | go_values | go_skip | go_guarded | go_step | go_upon | go_back | dsimp only))
        go_roundw
        case rel => exact ⟨j + 1, by rw [HCP.out], rfl, hlt, by first | trivial | rfl⟩
        case measure => simp [intOf]; omega
      · obtain rfl : j = ws.length := by omega
        have hj1 : ¬ (ws.length : Int) < ws.length := by omega
        have hct := HCT.out hk
        generalize cat (ws.take ws.length) = t0 at *
        subst hct
        have H2 := H1
        generalize wr = w2 at *
        (repeat' (first | go_values | go_skip | go_guarded | go_step | go_upon | go_back | dsimp only))
        refine (HCRE.out w2 H2.out).mono ?_
        rintro e w3 ⟨rfl, h3⟩
        have H3 := Lib.hid h3
        clear h3 H2 HCRE
        (repeat' (first | go_values | go_skip | go_guarded | go_step | go_upon | go_back | dsimp only))
        refine (HRCR.out w3 H3.out).mono ?_
        rintro e w4 ⟨rfl, h4⟩
        have H4 := Lib.hid h4
        have hcd := HCD.out w4 h4.below
        have q0 := cell_at h4.drop.drop.cell.1 0
        have q1 := cell_at h4.drop.drop.cell.1 1
        have lq := lt_of_heap h4.drop.drop.cell.1
        simp only [List.getElem?_toArray, List.getElem?_cons_zero, List.getElem?_cons_succ] at q0 q1
        have HCD2 := Lib.hid hcd
        clear h4 H3 HRCR hcd HCD
        (repeat' (first | go_values | go_skip | go_guarded | go_step | go_upon | go_back | dsimp only))
        refine HCD2.out.mono ?_
        rintro e w5 ⟨rfl, rfl⟩
        clear HCD2
        (repeat' (first | go_values | go_skip | go_guarded | go_step | go_upon | go_back | dsimp only))
        go_ret
        exact ⟨rfl, (H4.out.perm (show _ = Both (CellT s #[.int .i64 k, .int .i64 n, .int .i64 m, lv, .slice av ws.length cv] tOp10) (Both (StoreT sb C.1) (Both (RefT rb C.1) R)) by ac_rfl)).drop⟩
end
end Go.Proofs.YtadokkffmekndaaGreatDoor
