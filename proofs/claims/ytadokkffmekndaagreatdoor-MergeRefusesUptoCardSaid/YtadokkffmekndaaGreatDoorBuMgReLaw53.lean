/- merge.merged walked: the list is an owned row that is read and appended to at an offset. · merge.Merge walked. · merge.Sort walked. · hornbooklaw10: wakes walked. · The law MergeRefuses walked. -/
import Derived.Test.YtadokkffmekndaaGreatDoorBuMgReLaw52
import Derived.Test.YtadokkffmekndaaGreatDoorBuMgReLaw44
import Derived.Test.YtadokkffmekndaaGreatDoorBuMgReLaw48
import Derived.Test.YtadokkffmekndaaGreatDoorBuMgReLaw43
import Derived.Test.YtadokkffmekndaaGreatDoorBuMgReLaw51
import Derived.Test.YtadokkffmekndaaGreatDoorBuMgReLaw27
import Derived.Test.YtadokkffmekndaaGreatDoorBuMgReLaw31
import Derived.ArgAppend
import Derived.Deep.QuietTactic
import Derived.BigQuiet
set_option linter.unusedSimpArgs false
set_option linter.unusedVariables false
namespace Go.Proofs.YtadokkffmekndaaGreatDoor
open Go.RowKit

/-- The ints l lie in these cells from o on, with room up to cap. -/
structure SliF (cs : Array Value) (o cap : Nat) (l : List Int) : Prop where
  fit : l.length ≤ cap
  top : o + cap ≤ cs.size
  max : cap ≤ maxLen
  at_ : ∀ (j : Nat) (z : Int), l[j]? = some z → cs[o + j]? = some (.int .i64 z)
section
variable {cs : Array Value} {o cap : Nat} {l : List Int} {g : Nat} {w : World}
theorem SliF.rd (h : SliF cs o cap l) (hc : w.heap[g]? = some (.cells cs tInt (0, 0))) : RdRow w (.slice (some ⟨g, o, none⟩) l.length cap) l.length 1 (intsV l) :=
  ⟨by simp [intsV], _, _, rfl, h.fit, h.max, fun j u hj => ⟨g, o, rfl, by
    obtain ⟨z, hz, rfl⟩ : ∃ z, l[j]? = some z ∧ Value.int .i64 z = u := by simpa [intsV] using hj
    rw [cell_at hc]
    exact h.at_ j z hz⟩⟩
theorem SliF.take (h : SliF cs o cap l) (k : Nat) : SliF cs o cap (l.take k) :=
  ⟨by have := h.fit; rw [List.length_take]; omega, h.top, h.max, fun j z hz => h.at_ j z (by
    rw [List.getElem?_take] at hz
    split at hz
    · exact hz
    · cases hz)⟩
theorem SliF.drop (h : SliF cs o cap l) {k : Nat} (hk : k ≤ l.length) : SliF cs (o + k) (cap - k) (l.drop k) :=
  ⟨by have := h.fit; rw [List.length_drop]; omega, by have := h.top; have := h.fit; omega, by have := h.max; omega, fun j z hz => by
    rw [List.getElem?_drop] at hz
    rw [Nat.add_assoc]
    exact h.at_ _ z hz⟩
end
section
variable {W w : World} {R : Thing} {l : List Int} {v : Value}
theorem At.rowCells (h : At W w (Both (RowG tInt 1 v l.length (intsV l)) R)) (hl : l ≠ []) : ∃ g cap cs, v = .slice (some ⟨g, 0, none⟩) l.length cap ∧ SliF cs 0 cap l ∧ At W w (Both (CellT g cs tInt) R) := by
  obtain ⟨g, cap, rfl, _, hc1, hc2⟩ := own_cut h.rowG (List.length_pos_iff.2 hl)
  have h1 := h.rowG
  obtain ⟨_, ⟨h3, _⟩ | ⟨g', cap', cur, h3, _, h5, h6, h7, h8, h9⟩⟩ := h1
  · cases h3
  · cases h3
    refine ⟨g, cap, cur, rfl, ⟨h6, by omega, h7, fun j z hz => ?_⟩, h.impl fun fp q => ?_⟩
    · have h10 : (intsV l)[j]? = some (.int .i64 z) := by simp [intsV, hz]
      rw [← h9, List.getElem?_take] at h10
      split at h10
      · simpa using h10
      · cases h10
    · obtain ⟨f, gg, ⟨_, rfl⟩, h2⟩ := q
      exact ⟨_, gg, ⟨h5, rfl⟩, h2⟩
theorem slice_append {cs : Array Value} {g o cap : Nat} (h : At W w (Both (CellT g cs tInt) R)) (hR : Stable R) (hs : SliF cs o cap l) (n : Int) (hl : l.length ≤ 1099511627776) (ty : TypeId) :
    ∃ v' w' g' o' cap' cs', (Builtin.append_ #[23, 23] ty #[.slice (some ⟨g, o, none⟩) l.length cap, .slice (some ⟨w.heap.size, 0, none⟩) 1 1]).run Tryz.prog (w.alloc (.cells #[.int .i64 n] tInt)) = .ok v' w' ∧ v' = .slice (some ⟨g', o', none⟩) (l.length + 1) cap' ∧ SliF cs' o' cap' (l ++ [n]) ∧ At W w' (Both (CellT g' cs' tInt) R) := by
  obtain ⟨i0, hi, hz⟩ : ∃ i, Tryz.prog.info? tInt = some i ∧ (i.zero, i.size, i.bytes) = (some (.int .i64 0), 1, 8) := by
    have := info_int
    cases hq : Tryz.prog.info? tInt with
    | none => rw [hq] at this; cases this
    | some i => rw [hq] at this; exact ⟨i, rfl, by simpa using this⟩
  simp only [Prod.mk.injEq] at hz
  obtain ⟨hz0, hz1, hz2⟩ := hz
  have hst := (CellT.stable g cs tInt).both hR
  have h1 := h.newCell hst #[.int .i64 n] tInt
  have hnw : ∀ j u, [Value.int .i64 n][j]? = some u → (w.alloc (.cells #[.int .i64 n] tInt)).cell? ((⟨w.heap.size, 0, none⟩ : Addr).add j) = some u := fun j u hu => by
    match j with
    | 0 =>
      simp at hu
      subst hu
      exact cell_at h1.cell.1 0
    | j + 1 => simp at hu
  have hc := h1.drop.cell.1
  by_cases hr : l.length + 1 ≤ cap
  · have hrm := run_append_room_cells (P := Tryz.prog) (w.alloc (.cells #[.int .i64 n] tInt)) 23 ty tInt i0 Tryz.underlying23 hi g o l.length cap ⟨w.heap.size, 0, none⟩ 1 1 [.int .i64 n] (by rw [hz1]; rfl) hnw (by simp [Value.oneCell']) hr
      (fun j hj => by
        have hj0 : j = 0 := by simpa using hj
        subst hj0
        rw [hz1, cell_at hc]
        have := hs.top
        simp
        omega)
      (fun j hj => thaw_at hc _)
    rw [hz1] at hrm
    have h2 := h1.drop.setCell hR (o + l.length) (.int .i64 n)
    refine ⟨_, _, g, o, cap, cs.setIfInBounds (o + l.length) (.int .i64 n), hrm, rfl, ⟨by simp; omega, by simpa using hs.top, hs.max, fun j z hj => ?_⟩, by simpa [World.setCells] using h2⟩
    by_cases hjl : j < l.length
    · rw [List.getElem?_append_left hjl] at hj
      rw [Array.getElem?_setIfInBounds_ne (by omega)]
      exact hs.at_ j z hj
    · rw [List.getElem?_append_right (by omega)] at hj
      have hj0 : j - l.length = 0 := by
        have := (List.getElem?_eq_some_iff.1 hj).1
        simp at this
        omega
      rw [hj0] at hj
      simp at hj
      subst hj
      have hje : j = l.length := by omega
      subst hje
      rw [Array.getElem?_setIfInBounds_self_of_lt (by have := hs.top; omega)]
  · have hcl : cap = l.length := by have := hs.fit; omega
    obtain ⟨v', w', hrn, ho, hg⟩ := run_append_arg_grows (P := Tryz.prog) (w.alloc (.cells #[.int .i64 n] tInt)) 23 ty tInt i0 (.int .i64 0) 1 8 Tryz.underlying23 hi hz0 hz1 hz2 rfl (by decide)
      ⟨g, o, none⟩ l.length cap (intsV l) (by simp [intsV]) (fun j u hu => by
        obtain ⟨z, hz, rfl⟩ : ∃ z, l[j]? = some z ∧ Value.int .i64 z = u := by simpa [intsV] using hu
        rw [Addr.add_lit, cell_at hc]
        exact hs.at_ j z hz)
      ⟨w.heap.size, 0, none⟩ 1 1 [.int .i64 n] rfl hnw (by omega) (by unfold maxLen; omega) (by omega)
    have hb : Below (w.alloc (.cells #[.int .i64 n] tInt)).heap.size (w.alloc (.cells #[.int .i64 n] tInt)) w' := (Below.refl _ _).grown hg (Nat.le_refl _) (fun k hk => by cases hk)
    have e1 : intsV l ++ [Value.int .i64 n] = intsV (l ++ [n]) := by simp [intsV]
    have e2 : l.length + 1 = (l ++ [n]).length := by simp
    rw [e1, e2] at ho
    have h2 := (h1.newRowG ((CellT.stable _ _ _).both hst) hb ho).perm (show _ = Both (CellT w.heap.size #[.int .i64 n] tInt) (Both (CellT g cs tInt) (Both (RowG tInt 1 v' (l ++ [n]).length (intsV (l ++ [n]))) R)) by ac_rfl)
    obtain ⟨g', cap', cs', hv, hsf, h3⟩ := h2.drop.drop.rowCells (by simp)
    exact ⟨v', w', g', 0, cap', cs', hrn, by rw [hv, ← e2], hsf, h3⟩
end
section
variable {W w : World} {R : Thing} {b : Nat} {ef : Nat → Nat × Nat} {S : St} {l : List Int} {v : Value}
theorem wpList_append_run {P : Program} {ops : Array Oper} {rest : List Oper} {o : Oper} {a : Act} {Q : Exit → Act → World → Prop} {w w' : World} (hgd : o.guard = none)
    (s x : Operand) (t : TypeId) (ho : o.op = .call { callee := .builtin .append, args := #[s, x], argTypes := #[t, t] }) {sv xv v' : Value} (hs : a.eval s = sv) (hx : a.eval x = xv)
    (hr : (Builtin.append_ #[t, t] o.type #[sv, xv]).run P w = .ok v' w') (h : wpList P ops Q rest (a.put o.dst v') w') : wpList P ops Q (o :: rest) a w := by
  refine wpList_plain hgd fun K hK' => ?_
  unfold Oper.wp
  simp [execOp, ho, resolve, invoke, builtin, hs, hx, hr, Result.andThen]
  exact hK' _ _ h
def sliN : Value → Nat
  | .slice _ n _ => n
  | _ => 0
/-- What merged computes. -/
def mergedP (S : St) (fan : Int) (l : List Int) : St × Int × Nat := if l = [] then ((writtenP S []).1, ((writtenP S []).2.1 : Int), (writtenP S []).2.2) else loopM fan.toNat l.length S l
set_option maxRecDepth 100000 in
set_option maxHeartbeats 6400000 in
theorem merged_at (h : At W w (Both (RowG tInt 1 v l.length (intsV l)) (Both (StoreT b S) R))) (hR : Stable R) (hF : Fails W ef fails13) (hG : GoodS S) (hl : LokP S l) {fan : Int} (hf : 2 ≤ fan ∧ fan ≤ 64) :
    Calls Tryz.prog 39 #[.pointer (some ⟨b, 0, none⟩), .int .i64 fan, v] w fun e w' => e = .returned (.tuple #[.int .i64 (mergedP S fan l).2.1, errV ef (mergedP S fan l).2.2]) ∧ At W w' (Both (StoreT b (mergedP S fan l).1) R) := by
  obtain ⟨ao, cp, rfl, hc1, hc2⟩ := own_shape h.rowG
  obtain ⟨res, hres⟩ : ∃ res, res = mergedP S fan l := ⟨_, rfl⟩
  rw [← hres]
  unfold mergedP at hres
  have hlen := hl.few hG
  by_cases hn : l = []
  · subst hn
    rw [if_pos rfl] at hres
    have hrd := round_at (l := []) (v := .slice none 0 0) h.drop hR hF hG hl (by decide) ⟨none, 0, rfl⟩ (fun w' _ => ⟨rfl, none, 0, rfl, Nat.le_refl _, by simp [maxLen], fun j u hu => by simp [intsV] at hu⟩)
    have ea : allP S [] = [] := ofL_nil
    rw [ea] at hrd
    have HRD := Lib.hid hrd
    have HRES := Lib.hid hres
    clear h hR hF hG hl hres hrd ea hc1 hc2 hlen
    go_enter Tryz.func39, Tryz.ntmps39
    (repeat' (first | (go_big_may; fail) | go_values | go_skip | go_guarded | go_step | go_upon | go_back | dsimp only))
    refine HRD.out.mono ?_
    rintro e w1 ⟨rfl, h1⟩
    have H1 := Lib.hid h1
    clear h1 HRD
    (repeat' (first | (go_big_may; fail) | go_values | go_skip | go_guarded | go_step | go_upon | go_back | dsimp only))
    go_ret2
    rw [HRES.out]
    exact ⟨rfl, H1.out⟩
  · rw [if_neg hn] at hres
    obtain ⟨g0, cap0, cs0, hv0, hs0, h0⟩ := h.rowCells hn
    simp only [Value.slice.injEq] at hv0
    obtain ⟨rfl, _, rfl⟩ := hv0
    have hl1 : 1 ≤ l.length := List.length_pos_iff.2 hn
    have hne : ((l.length : Int) == 0) = false := by simp; exact hn
    have H0 := Lib.hid h0
    have HS0 := Lib.hid hs0
    have HR := Lib.hid hR
    have HF := Lib.hid hF
    have HG := Lib.hid hG
    have HL := Lib.hid hl
    have HRES := Lib.hid hres
    have neqn : ∀ wz : World, (binOp .neq tErr .nilIface .nilIface).run Tryz.prog wz = .ok (.bool false) wz := fun wz => neq_nil wz
    clear h h0 hs0 hR hF hG hl hres hn
    go_enter Tryz.func39, Tryz.ntmps39
    (repeat' (first | (go_big_may; fail) | go_values | go_skip | go_guarded | go_step | go_upon | go_back | dsimp only))
    go_loopw [2] (fun v2 wr => ∃ (n : Nat) (S' : St) (l' : List Int) (g o cap : Nat) (cs : Array Value), v2 = .slice (some ⟨g, o, none⟩) l'.length cap ∧ SliF cs o cap l' ∧ GoodS S' ∧ LokP S' l' ∧ 1 ≤ l'.length ∧ l'.length ≤ n ∧ res = loopM fan.toNat n S' l' ∧ At W wr (Both (CellT g cs tInt) (Both (StoreT b S') R))) (fun v2 _ => sliN v2)
    case atStart => exact ⟨l.length, S, l, g0, 0, _, cs0, rfl, HS0.out, HG.out, HL.out, hl1, Nat.le_refl _, HRES.out, H0.out⟩
    case round =>
      obtain ⟨n, S', l', g, o, cap, cs, rfl, hs, hg', hl', hp', hn', hr', h1⟩ := hrel
      clear H0 HS0 HG HL HRES hne hl1 hc1 hc2 hlen
      have hlen' := hl'.few hg'
      have hfit := hs.fit
      have hmax := hs.max
      unfold maxLen at hmax
      obtain ⟨m, rfl⟩ : ∃ m, n = m + 1 := ⟨n - 1, by omega⟩
      rw [loopM] at hr'
      have HS := Lib.hid hs
      have HG := Lib.hid hg'
      have HL := Lib.hid hl'
      by_cases hlt : l'.length ≤ 1
      · rw [if_pos hlt] at hr'
        have hi1 : ¬ (1 : Int) < l'.length := by omega
        obtain ⟨z, hz⟩ : ∃ z, l'[0]? = some z := ⟨_, List.getElem?_eq_getElem (by omega)⟩
        have hz2 : l'.getD 0 0 = z := by rw [List.getD_eq_getElem?_getD, hz]; rfl
        rw [hz2] at hr'
        have c0 := cell_at h1.cell.1 (o + 0)
        rw [hs.at_ 0 z hz] at c0
        simp only [Nat.add_zero] at c0
        have hp0 : (0 : Int) < l'.length := by omega
        have HRR := Lib.hid hr'
        have H1 := Lib.hid h1
        clear hr' h1 hs hg' hl' hz hz2
        (repeat' (first | (go_big_may; fail) | go_values | go_skip | go_guarded | go_step | go_upon | go_back | dsimp only))
        go_ret2
        rw [HRR.out]
        refine ⟨?_, H1.out.drop⟩
        show _ = Ending.returned (.tuple #[.int .i64 z, errV ef 0])
        rw [errV_zero]
        rfl
      · rw [if_neg hlt] at hr'
        have hi1 : (1 : Int) < l'.length := by omega
        obtain ⟨k, hk⟩ : ∃ k, k = min fan.toNat l'.length := ⟨_, rfl⟩
        have hk2 : 2 ≤ k ∧ k ≤ 64 ∧ k ≤ l'.length := by omega
        have hmin : min fan (l'.length : Int) = (k : Int) := by omega
        have htk : l'.take fan.toNat = l'.take k := by
          rcases Nat.le_total fan.toNat l'.length with h | h
          · rw [hk, Nat.min_eq_left h]
          · rw [hk, Nat.min_eq_right h, List.take_length, List.take_of_length_le h]
        have hdk : l'.drop fan.toNat = l'.drop k := by
          rcases Nat.le_total fan.toNat l'.length with h | h
          · rw [hk, Nat.min_eq_left h]
          · rw [hk, Nat.min_eq_right h, List.drop_length, List.drop_of_length_le h]
        rw [htk, hdk] at hr'
        have hkl : (l'.take k).length = k := by rw [List.length_take]; omega
        have hrow := fun (w' : World) (h' : At W w' (Both (CellT g cs tInt) R)) => by
          have := (HS.out.take k).rd h'.cell.1
          rwa [hkl] at this
        have hrow2 : ∀ w', At W w' (Both (CellT g cs tInt) R) → RdRow w' (.slice (some ⟨g, o, none⟩) k cap) (l'.take k).length 1 (intsV (l'.take k)) := fun w' h' => by
          have := hrow w' h'
          rwa [hkl]
        have hrnd := round_at (l := l'.take k) (v := .slice (some ⟨g, o, none⟩) k cap) (h1.perm (show _ = Both (StoreT b S') (Both (CellT g cs tInt) R) by ac_rfl)) ((CellT.stable _ _ _).both HR.out) HF.out HG.out (HL.out.take k) (by omega) ⟨_, _, by rw [hkl]⟩ hrow2
        have hz64 := HL.out.z64 HG.out
        obtain ⟨P, hP⟩ : ∃ P, P = writtenP S' (allP S' (l'.take k)) := ⟨_, rfl⟩
        have hgb := LokP.bad HG.out (l'.take k)
        have hrd' := HL.out.round HG.out k
        rw [← hP] at hrnd hr' hgb hrd'
        have HROW := Lib.hid hrow2
        have HRN := Lib.hid hrnd
        have HZ := Lib.hid hz64
        have HGB := Lib.hid hgb
        have HRO := Lib.hid hrd'
        have HKL := Lib.hid hkl
        have hk0 : (0 : Int) ≤ k := by omega
        have hkc : (k : Int) ≤ cap := by omega
        have hkn : (k : Int) ≤ l'.length := by omega
        clear hs hg' hl' hrow hrow2 hrnd hz64 hP hgb hrd' htk hdk hkl hk h1
        by_cases hz : P.2.2 = 0
        · obtain ⟨q1, q2, q3, q4⟩ := HRO.out hz
          rw [if_neg (by simpa using hz)] at hr'
          rw [hz, errV_zero] at HRN
          have hrm := fun (w' : World) (h' : At W w' (Both (StoreT b P.1) (Both (CellT g cs tInt) R))) => remove_at (l := l'.take k) (v := .slice (some ⟨g, o, none⟩) k cap) h' ((CellT.stable _ _ _).both HR.out) HF.out q4 (fun z hz => HZ.out z (List.mem_of_mem_take hz)) (by rw [HKL.out]; omega) ⟨_, _, by rw [HKL.out]⟩ HROW.out
          have HRM := Lib.hid hrm
          have HRR := Lib.hid hr'
          have HQ1 := Lib.hid q1
          have HQ2 := Lib.hid q2
          have hnum : P.2.1 ≤ 16777216 := q3
          clear hrm hr' q1 q2 q3 q4 hz
          have hA : ∀ w', At W w' (Both (CellT g cs tInt) (Both (StoreT b (goneZ P.1 (l'.take k))) R)) → ∃ v' w'' g' o' cap' cs', (Builtin.append_ #[23, 23] 23 #[.slice (if cap = k then some ⟨g, o, none⟩ else some ⟨g, o + k, none⟩) (l'.length - k) (cap - k), .slice (some ⟨w'.heap.size, 0, none⟩) 1 1]).run Tryz.prog (w'.alloc (.cells #[.int .i64 P.2.1] tInt)) = .ok v' w'' ∧ v' = .slice (some ⟨g', o', none⟩) (l'.length - k + 1) cap' ∧ SliF cs' o' cap' (l'.drop k ++ [(P.2.1 : Int)]) ∧ At W w'' (Both (CellT g' cs' tInt) (Both (StoreT b (goneZ P.1 (l'.take k))) R)) := fun w' h' => by
            by_cases hk : cap = k
            · have hs2 : SliF cs o 0 (l'.drop k) := ⟨by rw [List.length_drop]; omega, by have := HS.out.top; omega, by simp [maxLen], fun j z hz => by rw [List.drop_of_length_le (by omega)] at hz; cases hz⟩
              have := slice_append h' ((StoreT.stable _ _).both HR.out) hs2 P.2.1 (by rw [List.length_drop]; omega) 23
              rw [if_pos hk, show cap - k = 0 by omega]
              rwa [List.length_drop] at this
            · have := slice_append h' ((StoreT.stable _ _).both HR.out) (HS.out.drop (k := k) (by omega)) P.2.1 (by rw [List.length_drop]; omega) 23
              rw [if_neg hk]
              rwa [List.length_drop] at this
          have HA := Lib.hid hA
          clear hA
          (repeat' (first | (go_big_may; fail) | go_values | go_skip | go_guarded | go_step | go_upon | go_back | dsimp only))
          refine HRN.out.mono ?_
          rintro e w1 ⟨rfl, h2⟩
          have H2 := Lib.hid h2
          clear h2 HRN
          (repeat' (first | (go_big_may; fail) | go_values | go_skip | go_guarded | go_step | go_upon | go_back | dsimp only))
          refine (HRM.out w1 H2.out).mono ?_
          rintro e w2 ⟨rfl, h3⟩
          have H4 := Lib.hid (h3.perm (show _ = Both (CellT g cs tInt) (Both (StoreT b (goneZ P.1 (l'.take k))) R) by ac_rfl))
          clear h3 HRM H2
          (repeat' (first | (go_big_may; (at_builtin; obtain ⟨v5, w5, g5, o5, cap5, cs5, hap, hv5, hsf, h5⟩ := HA.out w2 H4.out; go_must (refine wpList_append_run (sv := .slice (if cap = k then some ⟨g, o, none⟩ else some ⟨g, o + k, none⟩) (l'.length - k) (cap - k)) (xv := .slice (some ⟨w2.heap.size, 0, none⟩) 1 1) (v' := v5) (w' := w5) rfl _ _ 23 rfl rfl rfl (by exact hap) ?_); have H5 := Lib.hid h5; have HSF := Lib.hid hsf; subst hv5; clear h5 hsf hap HA H4)) | go_values | go_skip | go_guarded | go_step | go_upon | go_back | dsimp only))
          go_roundw
          case rel =>
            refine ⟨m, _, _, g5, o5, cap5, cs5, ?_, HSF.out, HQ1.out, HQ2.out, by simp, ?_, HRR.out, H5.out⟩
            · rw [List.length_append, List.length_drop]; rfl
            · rw [List.length_append, List.length_drop, List.length_singleton]; omega
          case measure =>
            show l'.length - k + 1 < l'.length
            omega
        · rw [if_pos (by simpa using hz)] at hr'
          rw [errV_pos ef hz] at HRN
          have hrm := fun (w' : World) (h' : At W w' (Both (StoreT b P.1) (Both (CellT g cs tInt) R))) => remove_at (l := l') (v := .slice (some ⟨g, o, none⟩) l'.length cap) h' ((CellT.stable _ _ _).both HR.out) HF.out (HGB.out l').1 HZ.out (by omega) ⟨_, _, rfl⟩ (fun w' h' => HS.out.rd h'.cell.1)
          have HRM := Lib.hid hrm
          have HRR := Lib.hid hr'
          have HZZ := Lib.hid (errV_pos ef hz)
          have neqi := run_neq_iface_nil2 ⟨(ef P.2.2).1, (ef P.2.2).2, none⟩
          clear hrm hr' hz
          (repeat' (first | (go_big_may; fail) | go_values | go_skip | go_guarded | go_step | go_upon | go_back | dsimp only))
          refine HRN.out.mono ?_
          rintro e w1 ⟨rfl, h2⟩
          have H2 := Lib.hid h2
          clear h2 HRN
          (repeat' (first | (go_big_may; fail) | go_values | go_skip | go_guarded | go_step | go_upon | go_back | dsimp only))
          refine (HRM.out w1 H2.out).mono ?_
          rintro e w2 ⟨rfl, h3⟩
          have H3 := Lib.hid h3
          clear h3 HRM H2
          (repeat' (first | (go_big_may; fail) | go_values | go_skip | go_guarded | go_step | go_upon | go_back | dsimp only))
          go_ret2
          rw [HRR.out]
          refine ⟨?_, (H3.out.perm (show _ = Both (CellT g cs tInt) (Both (StoreT b (goneZ P.1 l')) R) by ac_rfl)).drop⟩
          show _ = Ending.returned (.tuple #[.int .i64 0, errV ef P.2.2])
          rw [HZZ.out]
          rfl
end
end Go.Proofs.YtadokkffmekndaaGreatDoor
namespace Go.Proofs.YtadokkffmekndaaGreatDoor
open Go.RowKit

section
variable {W w : World} {R : Thing} {b : Nat} {ef : Nat → Nat × Nat} {S : St} {l : List Int} {v : Value}
theorem mergeP_lim {fan : Int} (h : fan < 2 ∨ 64 < fan) : mergeP S fan l = (S, 0, 2) := by unfold mergeP; rw [if_pos h]
theorem mergeP_look {fan : Int} (h : ¬ (fan < 2 ∨ 64 < fan)) (h2 : lookP S [] l ≠ 0) : mergeP S fan l = (S, 0, lookP S [] l) := by unfold mergeP; rw [if_neg h, if_pos h2]
theorem mergeP_ok {fan : Int} (h : ¬ (fan < 2 ∨ 64 < fan)) (h2 : lookP S [] l = 0) : mergeP S fan l = mergedP S fan l := by unfold mergeP mergedP; rw [if_neg h, if_neg (by simpa using h2)]
set_option maxRecDepth 100000 in
set_option maxHeartbeats 3200000 in
theorem Merge_at (h : At W w (Both (StoreT b S) R)) (hR : Stable R) (hF : Fails W ef fails13) (hG : GoodS S) (hz : ∀ z ∈ l, inI64 z) (hlen : l.length ≤ 1099511627776) {fan : Int} (hf64 : inI64 fan) (hv : ∃ ao cp, v = .slice ao l.length cp) (hrd : ∀ w', At W w' R → RdRow w' v l.length 1 (intsV l)) :
    Calls Tryz.prog 16 #[.pointer (some ⟨b, 0, none⟩), .int .i64 fan, v] w fun e w' => e = .returned (.tuple #[.int .i64 (mergeP S fan l).2.1, errV ef (mergeP S fan l).2.2]) ∧ At W w' (Both (StoreT b (mergeP S fan l).1) R) := by
  have hlk := look_at h hR hF hz hlen hv hrd
  obtain ⟨av, cv, rfl⟩ := hv
  have hnotf : ∀ (x : Bool) (w : World), (Op.unary .not (.bool x)).run Tryz.prog w = .ok (.bool (!x)) w := fun _ _ => rfl
  have hcg := (hF.below h.below).cell (2, 1) (by decide)
  by_cases hfl : fan < 2 ∨ 64 < fan
  · rw [mergeP_lim hfl]
    dsimp only
    rw [errV_pos ef (show (2 : Nat) ≠ 0 by decide)]
    have hft := mfit_calls fan w
    rw [decide_eq_false (by omega)] at hft
    have HFT := Lib.hid hft
    have H := Lib.hid h
    have HR := Lib.hid hR
    clear h hR hF hG hz hrd hlk hft hfl
    go_enter Tryz.func16, Tryz.ntmps16
    (repeat' (first | (go_big_may; fail) | go_values | go_skip | go_guarded | go_step | go_upon | go_back | dsimp only))
    refine HFT.out.mono ?_
    rintro e w1 ⟨rfl, rfl⟩
    (repeat' (first | (go_big_may; fail) | go_values | go_skip | go_guarded | go_step | go_upon | go_back | dsimp only))
    go_quiet (fail)
    (repeat' (first | (go_big_may; fail) | go_values | go_skip | go_guarded | go_step | go_upon | go_back | dsimp only))
    go_ret2
    exact ⟨rfl, H.out.drewN ((StoreT.stable _ _).both HR.out) _⟩
  · have hft := mfit_calls fan w
    rw [decide_eq_true (by omega)] at hft
    have HFT := Lib.hid hft
    by_cases hl0 : lookP S [] l = 0
    · rw [mergeP_ok hfl hl0]
      rw [hl0, errV_zero] at hlk
      have HLK := Lib.hid hlk
      have hmg := fun (w1 w2 : World) (v' : Value) (h1 : At W w1 (Both (StoreT b S) R)) (hb : Below w1.heap.size w1 w2) (ho : w2.ownsRow w1.heap.size tInt 1 v' l.length (intsV l)) =>
        merged_at (fan := fan) (h1.newRowG ((StoreT.stable _ _).both hR) hb ho) hR hF hG (look_lok hl0) (by omega)
      have HMG := Lib.hid hmg
      have HCL := Lib.hid (fun (w1 : World) (h1 : At W w1 (Both (StoreT b S) R)) => Clone_ints (hrd w1 h1.drop) (by have := (look_lok hl0).few hG; omega))
      have neqn : ∀ wz : World, (binOp .neq tErr .nilIface .nilIface).run Tryz.prog wz = .ok (.bool false) wz := fun wz => neq_nil wz
      clear h hR hF hG hz hrd hlk hft hfl hmg hcg hl0
      go_enter Tryz.func16, Tryz.ntmps16
      (repeat' (first | (go_big_may; fail) | go_values | go_skip | go_guarded | go_step | go_upon | go_back | dsimp only))
      refine HFT.out.mono ?_
      rintro e w1 ⟨rfl, rfl⟩
      (repeat' (first | (go_big_may; fail) | go_values | go_skip | go_guarded | go_step | go_upon | go_back | dsimp only))
      refine HLK.out.mono ?_
      rintro e w2 ⟨rfl, h2⟩
      have H2 := Lib.hid h2
      clear h2 HLK
      (repeat' (first | (go_big_may; fail) | go_values | go_skip | go_guarded | go_step | go_upon | go_back | dsimp only))
      refine (HCL.out _ H2.out).mono ?_
      rintro e w3 ⟨v3, rfl, ho, hb⟩
      have HM2 := Lib.hid (HMG.out _ _ _ H2.out hb ho)
      clear ho hb HCL HMG
      (repeat' (first | (go_big_may; fail) | go_values | go_skip | go_guarded | go_step | go_upon | go_back | dsimp only))
      refine HM2.out.mono ?_
      rintro e w4 ⟨rfl, h4⟩
      have H4 := Lib.hid h4
      clear h4 HM2
      (repeat' (first | (go_big_may; fail) | go_values | go_skip | go_guarded | go_step | go_upon | go_back | dsimp only))
      go_ret2
      exact ⟨rfl, H4.out⟩
    · rw [mergeP_look hfl hl0]
      dsimp only
      rw [errV_pos ef hl0] at hlk ⊢
      have HLK := Lib.hid hlk
      have neqi := run_neq_iface_nil2 ⟨(ef (lookP S [] l)).1, (ef (lookP S [] l)).2, none⟩
      clear h hR hF hG hz hrd hlk hft hfl hl0 hcg
      go_enter Tryz.func16, Tryz.ntmps16
      (repeat' (first | (go_big_may; fail) | go_values | go_skip | go_guarded | go_step | go_upon | go_back | dsimp only))
      refine HFT.out.mono ?_
      rintro e w1 ⟨rfl, rfl⟩
      (repeat' (first | (go_big_may; fail) | go_values | go_skip | go_guarded | go_step | go_upon | go_back | dsimp only))
      refine HLK.out.mono ?_
      rintro e w2 ⟨rfl, h2⟩
      have H2 := Lib.hid h2
      clear h2 HLK
      (repeat' (first | (go_big_may; fail) | go_values | go_skip | go_guarded | go_step | go_upon | go_back | dsimp only))
      go_ret2
      exact ⟨rfl, H2.out⟩
end
set_option maxRecDepth 100000 in
set_option maxHeartbeats 3200000 in
theorem Merge_nil {w : World} {ef : Nat → Nat × Nat} (hF : Fails w ef fails13) (fan : Int) (v : Value) :
    Calls Tryz.prog 16 #[.pointer none, .int .i64 fan, v] w fun e w' => e = .returned (.tuple #[.int .i64 0, errV ef 1]) ∧ Below w.heap.size w w' := by
  have hcg := hF.cell (1, 0) (by decide)
  rw [errV_pos ef (by decide)]
  clear hF
  go_enter Tryz.func16, Tryz.ntmps16
  (repeat' (first | (go_big_may; fail) | go_values | go_skip | go_guarded | go_step | go_upon | go_back | dsimp only))
  go_quiet (fail)
  (repeat' (first | (go_big_may; fail) | go_values | go_skip | go_guarded | go_step | go_upon | go_back | dsimp only))
  go_ret2
  exact ⟨rfl, below_dW _ _⟩
end Go.Proofs.YtadokkffmekndaaGreatDoor
namespace Go.Proofs.YtadokkffmekndaaGreatDoor
open Go.RowKit

section
variable {W w : World} {R : Thing} {b : Nat} {ef : Nat → Nat × Nat} {S : St} {ws : List (List UInt8)} {v : Value}
theorem sortP_lim {bu fan : Int} (h : bu < 1 ∨ 65536 < bu ∨ fan < 2 ∨ 64 < fan) : sortP S bu fan ws = (S, 0, 2) := by unfold sortP; rw [if_pos h]
theorem sortP_add {bu fan : Int} (h : ¬ (bu < 1 ∨ 65536 < bu ∨ fan < 2 ∨ 64 < fan)) {A : St × FmD × Nat} (hA : addP S (newF bu.toNat) ws = A) (hz : A.2.2 ≠ 0) : sortP S bu fan ws = (A.1, 0, A.2.2) := by
  subst hA
  unfold sortP
  rw [if_neg h]
  exact if_pos hz
theorem sortP_fin {bu fan : Int} (h : ¬ (bu < 1 ∨ 65536 < bu ∨ fan < 2 ∨ 64 < fan)) {A : St × FmD × Nat} (hA : addP S (newF bu.toNat) ws = A) (hz : A.2.2 = 0) {Q : St × FmD × List Nat × Nat} (hQ : finishP A.1 A.2.1 = Q) (hq : Q.2.2.2 ≠ 0) : sortP S bu fan ws = (Q.1, 0, Q.2.2.2) := by
  subst hA
  subst hQ
  unfold sortP
  rw [if_neg h]
  refine (if_neg (show ¬ (addP S (newF bu.toNat) ws).2.2 ≠ 0 by simpa using hz)).trans ?_
  exact if_pos hq
theorem sortP_go {bu fan : Int} (h : ¬ (bu < 1 ∨ 65536 < bu ∨ fan < 2 ∨ 64 < fan)) {A : St × FmD × Nat} (hA : addP S (newF bu.toNat) ws = A) (hz : A.2.2 = 0) {Q : St × FmD × List Nat × Nat} (hQ : finishP A.1 A.2.1 = Q) (hq : Q.2.2.2 = 0) : sortP S bu fan ws = mergeP Q.1 fan (mz Q.2.2.1) := by
  subst hA
  subst hQ
  unfold sortP
  rw [if_neg h]
  refine (if_neg (show ¬ (addP S (newF bu.toNat) ws).2.2 ≠ 0 by simpa using hz)).trans ?_
  exact if_neg (fun h => h hq)
theorem finish_len (S : St) (f : FmD) : (finishP S f).2.2.1.length ≤ (finishP S f).2.1.made.length := by
  unfold finishP
  split
  · exact Nat.zero_le _
  · split
    · exact Nat.le_refl _
    · split
      · exact Nat.le_refl _
      · exact Nat.zero_le _
set_option maxRecDepth 100000 in
set_option maxHeartbeats 3200000 in
theorem Sort_at9 (h : At W w (Both (StoreT b S) R)) (hR : Stable R) (hF : Fails W ef fails13) (hG : GoodS S) {bu fan : Int} (hb64 : inI64 bu) (hf64 : inI64 fan) (hv : ∃ ao cp, v = .slice ao ws.length cp ∧ ws.length ≤ 1099511627776) (hx : ∀ x ∈ ws, x.length ≤ 1099511627776) (hrd : ∀ w', At W w' R → RdRow w' v ws.length 1 (strs ws)) :
    Calls Tryz.prog 13 #[.pointer (some ⟨b, 0, none⟩), .int .i64 bu, .int .i64 fan, v] w fun e w' => e = .returned (.tuple #[.int .i64 (sortP S bu fan ws).2.1, errV ef (sortP S bu fan ws).2.2]) ∧ At W w' (Both (StoreT b (sortP S bu fan ws).1) R) := by
  have hst := (StoreT.stable b S).both hR
  have hnotf : ∀ (x : Bool) (w : World), (Op.unary .not (.bool x)).run Tryz.prog w = .ok (.bool (!x)) w := fun _ _ => rfl
  have neqn : ∀ wz : World, (binOp .neq tErr .nilIface .nilIface).run Tryz.prog wz = .ok (.bool false) wz := fun wz => neq_nil wz
  by_cases hbl : bu < 1 ∨ 65536 < bu
  · rw [sortP_lim (by omega)]
    dsimp only
    have hfn := FNew_no (b := b) (hF.below h.below) hb64 hbl
    rw [errV_pos ef (show (2 : Nat) ≠ 0 by decide)] at hfn ⊢
    have neqi := run_neq_iface_nil2 ⟨(ef 2).1, (ef 2).2, none⟩
    have HFN := Lib.hid hfn
    have H := Lib.hid h
    have HST := Lib.hid hst
    clear h hR hF hG hb64 hf64 hv hx hrd hst hfn hbl
    go_enter Tryz.func13, Tryz.ntmps13
    (repeat' (first | (go_big_may; fail) | go_values | go_skip | go_guarded | go_step | go_upon | go_back | dsimp only))
    refine HFN.out.mono ?_
    rintro e w1 ⟨rfl, hb1⟩
    have H1 := Lib.hid (H.out.mono HST.out hb1)
    clear hb1 HFN
    (repeat' (first | (go_big_may; fail) | go_values | go_skip | go_guarded | go_step | go_upon | go_back | dsimp only))
    go_ret2
    exact ⟨rfl, H1.out⟩
  · obtain ⟨bn, hbn⟩ : ∃ bn : Nat, bu = bn := ⟨bu.toNat, by omega⟩
    subst hbn
    have hbn2 : 1 ≤ bn ∧ bn ≤ 65536 := by omega
    have hfn := FNew_at (b := b) (ef := ef) h hst hbn2
    have HFN := Lib.hid hfn
    by_cases hfl : fan < 2 ∨ 64 < fan
    · rw [sortP_lim (by omega)]
      dsimp only
      rw [errV_pos ef (show (2 : Nat) ≠ 0 by decide)]
      have HFT := Lib.hid (fun w => mfit_calls fan w)
      have hd : decide (2 ≤ fan ∧ fan ≤ 64) = false := decide_eq_false (by omega)
      rw [hd] at HFT
      have HR := Lib.hid hR
      have HF := Lib.hid hF
      clear h hR hF hG hb64 hf64 hv hx hrd hst hfn hbl hfl hd hbn2
      go_enter Tryz.func13, Tryz.ntmps13
      (repeat' (first | (go_big_may; fail) | go_values | go_skip | go_guarded | go_step | go_upon | go_back | dsimp only))
      refine HFN.out.mono ?_
      rintro e w1 ⟨k, rfl, h1⟩
      have hcg := (HF.out.below h1.below).cell (2, 1) (by decide)
      have H1 := Lib.hid h1
      clear h1 HFN
      (repeat' (first | (go_big_may; fail) | go_values | go_skip | go_guarded | go_step | go_upon | go_back | dsimp only))
      refine (HFT.out _).mono ?_
      rintro e w2 ⟨rfl, rfl⟩
      (repeat' (first | (go_big_may; fail) | go_values | go_skip | go_guarded | go_step | go_upon | go_back | dsimp only))
      go_quiet (fail)
      (repeat' (first | (go_big_may; fail) | go_values | go_skip | go_guarded | go_step | go_upon | go_back | dsimp only))
      go_ret2
      exact ⟨rfl, (H1.out.drewN ((FoT.stable _ _ _ _).both ((StoreT.stable _ _).both HR.out)) _).drop⟩
    · have HFT := Lib.hid (fun w => mfit_calls fan w)
      have hd : decide (2 ≤ fan ∧ fan ≤ 64) = true := decide_eq_true (by omega)
      rw [hd] at HFT
      have hlim : ¬ ((bn : Int) < 1 ∨ 65536 < (bn : Int) ∨ fan < 2 ∨ 64 < fan) := by omega
      have hO : FOk S (newF bn) := newF_ok S hbn2
      have hF11 : Fails W ef fails11 := hF.less (by decide)
      have had := fun (k : Nat) (w1 : World) (h1 : At W w1 (Both (FoT k b ef (newF bn)) (Both (StoreT b S) R))) => Add_at (ws := ws) (v := v) h1 hR hF11 hG trivial hO hv hx hrd
      obtain ⟨k1, hc1, hc2⟩ := addP_keep hG trivial hO ws
      obtain ⟨A, hA⟩ : ∃ A, A = addP S (newF bn) ws := ⟨_, rfl⟩
      have HAE := Lib.hid (show addP S (newF (bn : Int).toNat) ws = A by rw [hA]; rfl)
      rw [← hA] at had k1
      by_cases hz : A.2.2 = 0
      · rw [hz, errV_zero] at had
        have hfi := fun (k : Nat) (w1 : World) (h1 : At W w1 (Both (FoT k b ef A.2.1) (Both (StoreT b A.1) R))) => Finish_at h1 hR hF11 k1.good trivial k1.ok
        obtain ⟨k2, hc3, hc4⟩ := finishP_keep k1.good trivial k1.ok
        obtain ⟨Q, hQ⟩ : ∃ Q, Q = finishP A.1 A.2.1 := ⟨_, rfl⟩
        rw [← hQ] at hfi k2 hc4
        have HAD := Lib.hid had
        by_cases hq : Q.2.2.2 = 0
        · rw [sortP_go hlim HAE.out hz hQ.symm hq]
          rw [hq, errV_zero] at hfi
          have hmm : ∀ z ∈ mz Q.2.2.1, inI64 z := fun z hz => by
            obtain ⟨n, hn, rfl⟩ := List.mem_map.1 hz
            have h1 := hc4 n hn
            have h2 := k2.good.sizes.2.2.2.1
            unfold inI64; omega
          have hml : Q.2.2.1.length ≤ 1099511627776 := by
            have h1 := k2.ok.few
            have h2 := k2.good.sizes.2.2.2.1
            have h3 : Q.2.2.1.length ≤ Q.2.1.made.length := by
              rw [hQ]
              exact finish_len A.1 A.2.1
            omega
          have hmg := fun (k : Nat) (w1 : World) (v1 : Value) (h1 : At W w1 (Both (RowT v1 (mz Q.2.2.1)) (Both (FoT k b ef Q.2.1) (Both (StoreT b Q.1) R)))) =>
            Merge_at (l := mz Q.2.2.1) (v := v1) (fan := fan) (h1.perm (show _ = Both (StoreT b Q.1) (Both (RowT v1 (mz Q.2.2.1)) (Both (FoT k b ef Q.2.1) R)) by ac_rfl)) ((RowT.stable _ _).both ((FoT.stable _ _ _ _).both hR)) hF k2.good hmm (by simpa [mz] using hml) hf64 (by obtain ⟨ao, cp, hv, _⟩ := own_shape h1.row; exact ⟨ao, cp, hv⟩) (fun w' h' => RdRow.of_own h'.row)
          have HFI := Lib.hid hfi
          have HMG := Lib.hid hmg
          generalize mergeP Q.1 fan (mz Q.2.2.1) = M at *
          clear h hR hF hF11 hG hb64 hf64 hv hx hrd hst hfn hbl hfl hd hbn2 hlim hO had k1 hc1 hc2 hA hz hfi k2 hc3 hc4 hQ hq hmm hml hmg HAE
          go_enter Tryz.func13, Tryz.ntmps13
          (repeat' (first | (go_big_may; fail) | go_values | go_skip | go_guarded | go_step | go_upon | go_back | dsimp only))
          refine HFN.out.mono ?_
          rintro e w1 ⟨k, rfl, h1⟩
          have H1 := Lib.hid h1
          clear h1 HFN
          (repeat' (first | (go_big_may; fail) | go_values | go_skip | go_guarded | go_step | go_upon | go_back | dsimp only))
          refine (HFT.out _).mono ?_
          rintro e w2 ⟨rfl, rfl⟩
          (repeat' (first | (go_big_may; fail) | go_values | go_skip | go_guarded | go_step | go_upon | go_back | dsimp only))
          refine (HAD.out k _ H1.out).mono ?_
          rintro e w3 ⟨rfl, h3⟩
          have H3 := Lib.hid h3
          clear h3 HAD H1
          (repeat' (first | (go_big_may; fail) | go_values | go_skip | go_guarded | go_step | go_upon | go_back | dsimp only))
          refine (HFI.out k w3 H3.out).mono ?_
          rintro e w4 ⟨v4, rfl, h4⟩
          have H4 := Lib.hid h4
          clear h4 HFI H3
          (repeat' (first | (go_big_may; fail) | go_values | go_skip | go_guarded | go_step | go_upon | go_back | dsimp only))
          refine (HMG.out k w4 v4 H4.out).mono ?_
          rintro e w5 ⟨rfl, h5⟩
          have H5 := Lib.hid (h5.perm (show _ = Both (RowT v4 (mz Q.2.2.1)) (Both (FoT k b ef Q.2.1) (Both (StoreT b M.1) R)) by ac_rfl))
          clear h5 HMG H4
          (repeat' (first | (go_big_may; fail) | go_values | go_skip | go_guarded | go_step | go_upon | go_back | dsimp only))
          go_ret2
          exact ⟨rfl, H5.out.drop.drop⟩
        · rw [sortP_fin hlim HAE.out hz hQ.symm hq]
          dsimp only
          rw [errV_pos ef hq] at hfi ⊢
          have neqi := run_neq_iface_nil2 ⟨(ef Q.2.2.2).1, (ef Q.2.2.2).2, none⟩
          have HFI := Lib.hid hfi
          clear h hR hF hF11 hG hb64 hf64 hv hx hrd hst hfn hbl hfl hd hbn2 hlim hO had k1 hc1 hc2 hA hz hfi k2 hc3 hc4 hQ hq HAE
          go_enter Tryz.func13, Tryz.ntmps13
          (repeat' (first | (go_big_may; fail) | go_values | go_skip | go_guarded | go_step | go_upon | go_back | dsimp only))
          refine HFN.out.mono ?_
          rintro e w1 ⟨k, rfl, h1⟩
          have H1 := Lib.hid h1
          clear h1 HFN
          (repeat' (first | (go_big_may; fail) | go_values | go_skip | go_guarded | go_step | go_upon | go_back | dsimp only))
          refine (HFT.out _).mono ?_
          rintro e w2 ⟨rfl, rfl⟩
          (repeat' (first | (go_big_may; fail) | go_values | go_skip | go_guarded | go_step | go_upon | go_back | dsimp only))
          refine (HAD.out k _ H1.out).mono ?_
          rintro e w3 ⟨rfl, h3⟩
          have H3 := Lib.hid h3
          clear h3 HAD H1
          (repeat' (first | (go_big_may; fail) | go_values | go_skip | go_guarded | go_step | go_upon | go_back | dsimp only))
          refine (HFI.out k w3 H3.out).mono ?_
          rintro e w4 ⟨v4, rfl, h4⟩
          have H4 := Lib.hid h4
          clear h4 HFI H3
          (repeat' (first | (go_big_may; fail) | go_values | go_skip | go_guarded | go_step | go_upon | go_back | dsimp only))
          go_ret2
          exact ⟨rfl, H4.out.drop.drop⟩
      · rw [sortP_add hlim HAE.out hz]
        dsimp only
        rw [errV_pos ef hz] at had ⊢
        have neqi := run_neq_iface_nil2 ⟨(ef A.2.2).1, (ef A.2.2).2, none⟩
        have HAD := Lib.hid had
        clear h hR hF hF11 hG hb64 hf64 hv hx hrd hst hfn hbl hfl hd hbn2 hlim hO had k1 hc1 hc2 hA hz HAE
        go_enter Tryz.func13, Tryz.ntmps13
        (repeat' (first | (go_big_may; fail) | go_values | go_skip | go_guarded | go_step | go_upon | go_back | dsimp only))
        refine HFN.out.mono ?_
        rintro e w1 ⟨k, rfl, h1⟩
        have H1 := Lib.hid h1
        clear h1 HFN
        (repeat' (first | (go_big_may; fail) | go_values | go_skip | go_guarded | go_step | go_upon | go_back | dsimp only))
        refine (HFT.out _).mono ?_
        rintro e w2 ⟨rfl, rfl⟩
        (repeat' (first | (go_big_may; fail) | go_values | go_skip | go_guarded | go_step | go_upon | go_back | dsimp only))
        refine (HAD.out k _ H1.out).mono ?_
        rintro e w3 ⟨rfl, h3⟩
        have H3 := Lib.hid h3
        clear h3 HAD H1
        (repeat' (first | (go_big_may; fail) | go_values | go_skip | go_guarded | go_step | go_upon | go_back | dsimp only))
        go_ret2
        exact ⟨rfl, H3.out.drop⟩
end
set_option maxRecDepth 100000 in
set_option maxHeartbeats 3200000 in
theorem FNewM_nil {w : World} {ef : Nat → Nat × Nat} (hF : Fails w ef fails13) (z : Int) :
    Calls Tryz.prog 31 #[.pointer none, .int .i64 z] w fun e w' => e = .returned (.tuple #[.pointer none, errV ef 1]) ∧ Below w.heap.size w w' := by
  have c1 := hF.cell (1, 0) (by decide)
  rw [errV_pos ef (show (1 : Nat) ≠ 0 by decide)]
  clear hF
  go_enter Tryz.func31, Tryz.ntmps31
  (repeat' (first | (go_big_may; fail) | go_values | go_skip | go_guarded | go_step | go_upon | go_back | dsimp only))
  go_quiet (fail)
  (repeat' (first | (go_big_may; fail) | go_values | go_skip | go_guarded | go_step | go_upon | go_back | dsimp only))
  go_ret2
  exact ⟨rfl, below_dW _ _⟩
set_option maxRecDepth 100000 in
set_option maxHeartbeats 3200000 in
theorem SortM_nil {w : World} {ef : Nat → Nat × Nat} (hF : Fails w ef fails13) (bu fan : Int) (v : Value) :
    Calls Tryz.prog 13 #[.pointer none, .int .i64 bu, .int .i64 fan, v] w fun e w' => e = .returned (.tuple #[.int .i64 0, errV ef 1]) ∧ Below w.heap.size w w' := by
  have hfn := FNewM_nil hF bu
  rw [errV_pos ef (show (1 : Nat) ≠ 0 by decide)] at hfn ⊢
  have neqi := run_neq_iface_nil2 ⟨(ef 1).1, (ef 1).2, none⟩
  have HFN := Lib.hid hfn
  clear hF hfn
  go_enter Tryz.func13, Tryz.ntmps13
  (repeat' (first | (go_big_may; fail) | go_values | go_skip | go_guarded | go_step | go_upon | go_back | dsimp only))
  refine HFN.out.mono ?_
  rintro e w1 ⟨rfl, hb1⟩
  have HB := Lib.hid hb1
  clear hb1 HFN
  (repeat' (first | (go_big_may; fail) | go_values | go_skip | go_guarded | go_step | go_upon | go_back | dsimp only))
  go_ret2
  exact ⟨rfl, HB.out⟩
end Go.Proofs.YtadokkffmekndaaGreatDoor
namespace Go.Proofs.YtadokkffmekndaaGreatDoor
open Go.RowKit

theorem rd_cell {w : World} {g n : Nat} {cs : Array Value} {T : TypeId} (h : w.heap[g]? = some (.cells cs T (0, 0))) (hs : cs.size = n) (hn : n ≤ maxLen) : RdRow w (.slice (some ⟨g, 0, none⟩) n n) n 1 cs.toList :=
  ⟨by simpa using hs, _, _, rfl, Nat.le_refl _, hn, fun j u hu => ⟨g, 0, rfl, by rw [Nat.zero_add, cell_at h]; simpa using hu⟩⟩
theorem sort_good {S : St} (hG : GoodS S) (b fan : Int) (ws : List (List UInt8)) : GoodS (sortP S b fan ws).1 := by
  by_cases h : b < 1 ∨ 65536 < b ∨ fan < 2 ∨ 64 < fan
  · rw [sortP_lim h]; exact hG
  · rcases sort_end hG (b := b) (fan := fan) (by omega) (by omega) ws with ⟨_, m, _, h2⟩ | ⟨_, _, _, h2⟩
    · exact h2.good
    · exact h2
theorem fails13_all {W : World} {ef : Nat → Nat × Nat} (h : Fails W ef fails13) : Fails W ef fails12 := h.less (by decide)
end Go.Proofs.YtadokkffmekndaaGreatDoor
namespace Go.Proofs.YtadokkffmekndaaGreatDoor
open Go.RowKit

theorem rf_one : sortP (newSt 50) 2 2 [[98], [97]] = (⟨50, 4, 4, 1, 0, [(1, ⟨[1, 97, 1, 98], true⟩)]⟩, 1, 0) := by kernel_rfl
/-- The store of the law: the run of the words, and an open one. -/
abbrev rfS : St := ⟨50, 4, 4, 2, 0, [(1, ⟨[1, 97, 1, 98], true⟩), (2, ⟨[], false⟩)]⟩
theorem rf_two : createP ⟨50, 4, 4, 1, 0, [(1, ⟨[1, 97, 1, 98], true⟩)]⟩ = (rfS, 2, 0) := by kernel_rfl
theorem rf_good1 : GoodS (⟨50, 4, 4, 1, 0, [(1, ⟨[1, 97, 1, 98], true⟩)]⟩ : St) := by
  have h := sort_good (GoodS.new 50) 2 2 [[98], [97]]
  rw [rf_one] at h
  exact h
theorem rf_good : GoodS rfS := by
  have h := rf_good1.create
  rw [rf_two] at h
  exact h
/-- What the law asks of the store. -/
structure RfSt (S : St) : Prop where
  good : GoodS S
  one : ((1 : Nat), (⟨[1, 97, 1, 98], true⟩ : RunD)) ∈ S.runs
  two : ((2 : Nat), (⟨[], false⟩ : RunD)) ∈ S.runs
theorem rf_st : RfSt rfS := ⟨rf_good, by simp, by simp⟩
section
variable {S : St} (h : RfSt S)
include h
theorem RfSt.text : textP S 1 = [1, 97, 1, 98] := textP_of h.good h.one rfl
theorem RfSt.r1 : readC S 1 0 0 = 0 := by
  have hf := find_of_mem h.good h.one
  unfold readC
  rw [show (1 : Int) = (((1 : Nat), (⟨[1, 97, 1, 98], true⟩ : RunD)).1 : Int) from rfl, hf]
  rfl
theorem RfSt.r2 : readC S 2 0 0 = 5 := by
  have hf := find_of_mem h.good h.two
  unfold readC
  rw [show (2 : Int) = (((2 : Nat), (⟨[], false⟩ : RunD)).1 : Int) from rfl, hf]
  rfl
theorem RfSt.same : lookP S [] [1, 1] = 12 := by
  unfold lookP
  rw [h.r1]
  unfold lookP
  rw [h.r1]
  rfl
theorem RfSt.open_ : lookP S [] [1, 2] = 5 := by
  unfold lookP
  rw [h.r1]
  unfold lookP
  rw [h.r2]
  rfl
theorem RfSt.none_ {z : Int} (hz : z < 0 ∨ S.made < z) : lookP S [] [1, z, 1] = 3 := by
  have hr : readC S z 0 0 = 3 := by
    unfold readC
    cases hf : S.find z with
    | none => rfl
    | some p =>
      have h1 := find_key hf
      have h2 := h.good.inside p (find_mem hf).1
      omega
  unfold lookP
  rw [h.r1]
  unfold lookP
  rw [hr]
  rfl
end
theorem rf_sort {bu fan : Int} (hb : 1 ≤ bu ∧ bu ≤ 65536) (hf : 2 ≤ fan ∧ fan ≤ 64) : (sortP rfS bu fan [[99]]).2.2 = 0 ∧ RfSt (sortP rfS bu fan [[99]]).1 := by
  have h0 := sort_free rf_good hb hf [[99]] rfl rfl (by decide) (by decide)
  refine ⟨h0, ?_⟩
  rcases sort_end rf_good hb hf [[99]] with ⟨_, m, _, h2⟩ | ⟨h1, _⟩
  · exact ⟨h2.good, by rw [h2.runs]; simp, by rw [h2.runs]; simp⟩
  · exact absurd h0 h1
theorem eql_nil_left (a : Addr) (wz : World) : (binOp .eql tErr .nilIface (.iface tES (.pointer (some a)))).run Tryz.prog wz = .ok (.bool false) wz := by
  have h : ∀ d : Nat, (Op.equalIn (d + 1) tErr .nilIface (.iface tES (.pointer (some a)))).run Tryz.prog wz = .ok false wz := fun d => by simp [Op.equalIn, run_underlying Tryz.underlying33]
  simp only [binOp]
  simp [Op.equal, Op.maxDepth, h]
set_option maxRecDepth 100000 in
set_option maxHeartbeats 12800000 in
theorem mergeRefuses_walk (W : World) (ef : Nat → Nat × Nat) (hF : Fails W ef fails13) (fan : Int) (hfan : inI64 fan) (bu : Int) (hbu : inI64 bu) (run : Int) (hrun : inI64 run) :
    Calls Tryz.prog 5 #[.int .i64 fan, .int .i64 bu, .int .i64 run] W fun e w' => e = .returned (.bool true) ∧ Below W.heap.size W w' := by
  have HF := Lib.hid hF
  have HFA := Lib.hid hfan
  have HBU := Lib.hid hbu
  have HRU := Lib.hid hrun
  have H0 := Lib.hid (At.nought ((Below.refl W.heap.size W).alloc (Nat.le_refl _) (.cells #[.int .i64 run] tInt)))
  have E1 := Lib.hid (errV_pos ef (show (1 : Nat) ≠ 0 by decide))
  have E2 := Lib.hid (errV_pos ef (show (2 : Nat) ≠ 0 by decide))
  have E12 := Lib.hid (errV_pos ef (show (12 : Nat) ≠ 0 by decide))
  have neqs := fun (a : Addr) => neq_same a
  have neqn : ∀ wz : World, (binOp .neq tErr .nilIface .nilIface).run Tryz.prog wz = .ok (.bool false) wz := fun wz => neq_nil wz
  clear hF hfan hbu hrun
  have eqls := fun (a : Addr) => eql_same a
  by_cases hf1 : fan < 2
  · skip
    go_enter Tryz.func5, Tryz.ntmps5
    (repeat' (first | (go_big_may; fail) | go_values | go_skip | go_guarded | go_step | go_upon | go_back | dsimp only))
    refine (Merge_nil (HF.out.below H0.out.below) fan _).mono ?_
    rintro e w1 ⟨rfl, hb1⟩
    have h1 := H0.out.mono Stable.nought hb1
    have c1 := (HF.out.below h1.below).cell (1, 0) (by decide)
    rw [E1.out]
    have H1 := Lib.hid h1
    clear h1 hb1
    (repeat' (first | (go_big_may; fail) | go_values | go_skip | go_guarded | go_step | go_upon | go_back | dsimp only))
    refine (SortM_nil (HF.out.below H1.out.below) bu fan _).mono ?_
    rintro e w2 ⟨rfl, hb2⟩
    have h2 := H1.out.mono Stable.nought hb2
    clear c1
    have c1 := (HF.out.below h2.below).cell (1, 0) (by decide)
    rw [E1.out]
    have HN := Lib.hid (New_at h2 Stable.nought (c := 50) (by unfold inI64; omega))
    clear h2 hb2 H1
    (repeat' (first | (go_big_may; fail) | go_values | go_skip | go_guarded | go_step | go_upon | go_back | dsimp only))
    refine HN.out.mono ?_
    rintro e w3 ⟨rfl, h3⟩
    clear HN c1
    generalize w2.heap.size + 1 = b at *
    have h4 := (h3.newCell ((StoreT.stable _ _).both Stable.nought) #[.string ⟨#[98]⟩, .string ⟨#[97]⟩] 9).perm (show _ = Both (StoreT b (newSt 50)) (Both (CellT w3.heap.size #[.string ⟨#[98]⟩, .string ⟨#[97]⟩] 9) Nought) by ac_rfl)
    have hso := Sort_at9 (ws := [[98], [97]]) (bu := 2) (fan := 2) (v := .slice (some ⟨w3.heap.size, 0, none⟩) 2 2) h4 ((CellT.stable _ _ _).both Stable.nought) HF.out (GoodS.new 50) (by unfold inI64; omega) (by unfold inI64; omega) ⟨_, _, rfl, by decide⟩ (by intro x hx; simp at hx; rcases hx with rfl | rfl <;> simp) (fun w' h' => rd_cell h'.cell.1 rfl (by unfold maxLen; decide))
    rw [rf_one] at hso
    dsimp only at hso
    rw [errV_zero] at hso
    have HSO := Lib.hid hso
    clear h3 h4 hso
    (repeat' (first | (go_big_may; fail) | go_values | go_skip | go_guarded | go_step | go_upon | go_back | dsimp only))
    refine HSO.out.mono ?_
    rintro e w4 ⟨rfl, h5⟩
    have h5 := (h5.perm (show _ = Both (CellT w3.heap.size #[.string ⟨#[98]⟩, .string ⟨#[97]⟩] 9) (Both (StoreT b _) Nought) by ac_rfl)).drop
    have hcr := Create_7 h5 Stable.nought (fails11_7 (HF.out.less (fl' := fails11) (by decide)))
    rw [rf_two] at hcr
    dsimp only at hcr
    rw [errV_zero] at hcr
    have HCR := Lib.hid hcr
    clear hcr h5 HSO
    (repeat' (first | (go_big_may; fail) | go_values | go_skip | go_guarded | go_step | go_upon | go_back | dsimp only))
    refine HCR.out.mono ?_
    rintro e w5 ⟨rfl, h6⟩
    have h7 := (h6.newCell ((StoreT.stable _ _).both Stable.nought) #[.int .i64 1, .int .i64 1] tInt).perm (show _ = Both (StoreT b rfS) (Both (CellT w5.heap.size #[.int .i64 1, .int .i64 1] tInt) Nought) by ac_rfl)
    have hmg := Merge_at (l := [1, 1]) (fan := fan) (v := .slice (some ⟨w5.heap.size, 0, none⟩) 2 2) h7 ((CellT.stable _ _ _).both Stable.nought) HF.out rf_good (by intro z hz; simp at hz; subst hz; unfold inI64; omega) (by decide) HFA.out ⟨_, _, rfl⟩ (fun w' h' => rd_cell h'.cell.1 rfl (by unfold maxLen; decide))
    rw [mergeP_lim (.inl hf1)] at hmg
    dsimp only at hmg
    rw [E2.out] at hmg
    have HMG := Lib.hid hmg
    clear h6 h7 hmg HCR h5
    (repeat' (first | (go_big_may; fail) | go_values | go_skip | go_guarded | go_step | go_upon | go_back | dsimp only))
    refine HMG.out.mono ?_
    rintro e w6 ⟨rfl, h8⟩
    have h8 := (h8.perm (show _ = Both (CellT w5.heap.size #[.int .i64 1, .int .i64 1] tInt) (Both (StoreT b rfS) Nought) by ac_rfl)).drop
    have h9 := (h8.newCell ((StoreT.stable _ _).both Stable.nought) #[.string ⟨#[99]⟩] 9).perm (show _ = Both (StoreT b rfS) (Both (CellT w6.heap.size #[.string ⟨#[99]⟩] 9) Nought) by ac_rfl)
    have hso2 := Sort_at9 (ws := [[99]]) (bu := bu) (fan := fan) (v := .slice (some ⟨w6.heap.size, 0, none⟩) 1 1) h9 ((CellT.stable _ _ _).both Stable.nought) HF.out rf_good HBU.out HFA.out ⟨_, _, rfl, by decide⟩ (by intro x hx; simp at hx; subst hx; simp) (fun w' h' => rd_cell h'.cell.1 rfl (by unfold maxLen; decide))
    rw [sortP_lim (by omega)] at hso2
    dsimp only at hso2
    rw [E2.out] at hso2
    have HSO2 := Lib.hid hso2
    clear h8 h9 hso2 HMG
    (repeat' (first | (go_big_may; fail) | go_values | go_skip | go_guarded | go_step | go_upon | go_back | dsimp only))
    refine HSO2.out.mono ?_
    rintro e w7 ⟨rfl, h10⟩
    have c2 := (HF.out.below h10.below).cell (2, 1) (by decide)
    have hlv := Live_at h10 ((CellT.stable _ _ _).both Stable.nought)
    have HLV := Lib.hid hlv
    clear h10 hlv HSO2
    (repeat' (first | (go_big_may; fail) | go_values | go_skip | go_guarded | go_step | go_upon | go_back | dsimp only))
    refine HLV.out.mono ?_
    rintro e w8 ⟨v8, rfl, h11⟩
    obtain ⟨ao, cp, hv8, _, _⟩ := own_shape h11.row
    have hv9 : v8 = .slice ao 2 cp := hv8
    subst hv9
    have htx := text_at (h11.perm (show _ = Both (StoreT b rfS) (Both (RowT (.slice ao 2 cp) rfS.keys) (Both (CellT w6.heap.size #[.string ⟨#[99]⟩] 9) Nought)) by ac_rfl)) ((RowT.stable _ _).both ((CellT.stable _ _ _).both Stable.nought)) (fails13_all HF.out) rf_good (z := 1) (by unfold inI64; omega)
    rw [rf_st.text] at htx
    have HTX := Lib.hid htx
    clear htx h11 HLV c2
    (repeat' (first | (go_big_may; fail) | go_values | go_skip | go_guarded | go_step | go_upon | go_back | dsimp only))
    refine HTX.out.mono ?_
    rintro e w9 ⟨rfl, h12⟩
    have HB := Lib.hid h12.below
    clear h12 HTX
    (repeat' (first | (go_big_may; fail) | go_values | go_skip | go_guarded | go_step | go_upon | go_back | dsimp only))
    go_ret
    exact ⟨rfl, HB.out⟩
  by_cases hf2 : 64 < fan
  · skip
    go_enter Tryz.func5, Tryz.ntmps5
    (repeat' (first | (go_big_may; fail) | go_values | go_skip | go_guarded | go_step | go_upon | go_back | dsimp only))
    refine (Merge_nil (HF.out.below H0.out.below) fan _).mono ?_
    rintro e w1 ⟨rfl, hb1⟩
    have h1 := H0.out.mono Stable.nought hb1
    have c1 := (HF.out.below h1.below).cell (1, 0) (by decide)
    rw [E1.out]
    have H1 := Lib.hid h1
    clear h1 hb1
    (repeat' (first | (go_big_may; fail) | go_values | go_skip | go_guarded | go_step | go_upon | go_back | dsimp only))
    refine (SortM_nil (HF.out.below H1.out.below) bu fan _).mono ?_
    rintro e w2 ⟨rfl, hb2⟩
    have h2 := H1.out.mono Stable.nought hb2
    clear c1
    have c1 := (HF.out.below h2.below).cell (1, 0) (by decide)
    rw [E1.out]
    have HN := Lib.hid (New_at h2 Stable.nought (c := 50) (by unfold inI64; omega))
    clear h2 hb2 H1
    (repeat' (first | (go_big_may; fail) | go_values | go_skip | go_guarded | go_step | go_upon | go_back | dsimp only))
    refine HN.out.mono ?_
    rintro e w3 ⟨rfl, h3⟩
    clear HN c1
    generalize w2.heap.size + 1 = b at *
    have h4 := (h3.newCell ((StoreT.stable _ _).both Stable.nought) #[.string ⟨#[98]⟩, .string ⟨#[97]⟩] 9).perm (show _ = Both (StoreT b (newSt 50)) (Both (CellT w3.heap.size #[.string ⟨#[98]⟩, .string ⟨#[97]⟩] 9) Nought) by ac_rfl)
    have hso := Sort_at9 (ws := [[98], [97]]) (bu := 2) (fan := 2) (v := .slice (some ⟨w3.heap.size, 0, none⟩) 2 2) h4 ((CellT.stable _ _ _).both Stable.nought) HF.out (GoodS.new 50) (by unfold inI64; omega) (by unfold inI64; omega) ⟨_, _, rfl, by decide⟩ (by intro x hx; simp at hx; rcases hx with rfl | rfl <;> simp) (fun w' h' => rd_cell h'.cell.1 rfl (by unfold maxLen; decide))
    rw [rf_one] at hso
    dsimp only at hso
    rw [errV_zero] at hso
    have HSO := Lib.hid hso
    clear h3 h4 hso
    (repeat' (first | (go_big_may; fail) | go_values | go_skip | go_guarded | go_step | go_upon | go_back | dsimp only))
    refine HSO.out.mono ?_
    rintro e w4 ⟨rfl, h5⟩
    have h5 := (h5.perm (show _ = Both (CellT w3.heap.size #[.string ⟨#[98]⟩, .string ⟨#[97]⟩] 9) (Both (StoreT b _) Nought) by ac_rfl)).drop
    have hcr := Create_7 h5 Stable.nought (fails11_7 (HF.out.less (fl' := fails11) (by decide)))
    rw [rf_two] at hcr
    dsimp only at hcr
    rw [errV_zero] at hcr
    have HCR := Lib.hid hcr
    clear hcr h5 HSO
    (repeat' (first | (go_big_may; fail) | go_values | go_skip | go_guarded | go_step | go_upon | go_back | dsimp only))
    refine HCR.out.mono ?_
    rintro e w5 ⟨rfl, h6⟩
    have h7 := (h6.newCell ((StoreT.stable _ _).both Stable.nought) #[.int .i64 1, .int .i64 1] tInt).perm (show _ = Both (StoreT b rfS) (Both (CellT w5.heap.size #[.int .i64 1, .int .i64 1] tInt) Nought) by ac_rfl)
    have hmg := Merge_at (l := [1, 1]) (fan := fan) (v := .slice (some ⟨w5.heap.size, 0, none⟩) 2 2) h7 ((CellT.stable _ _ _).both Stable.nought) HF.out rf_good (by intro z hz; simp at hz; subst hz; unfold inI64; omega) (by decide) HFA.out ⟨_, _, rfl⟩ (fun w' h' => rd_cell h'.cell.1 rfl (by unfold maxLen; decide))
    rw [mergeP_lim (.inr hf2)] at hmg
    dsimp only at hmg
    rw [E2.out] at hmg
    have HMG := Lib.hid hmg
    clear h6 h7 hmg HCR h5
    (repeat' (first | (go_big_may; fail) | go_values | go_skip | go_guarded | go_step | go_upon | go_back | dsimp only))
    refine HMG.out.mono ?_
    rintro e w6 ⟨rfl, h8⟩
    have h8 := (h8.perm (show _ = Both (CellT w5.heap.size #[.int .i64 1, .int .i64 1] tInt) (Both (StoreT b rfS) Nought) by ac_rfl)).drop
    have h9 := (h8.newCell ((StoreT.stable _ _).both Stable.nought) #[.string ⟨#[99]⟩] 9).perm (show _ = Both (StoreT b rfS) (Both (CellT w6.heap.size #[.string ⟨#[99]⟩] 9) Nought) by ac_rfl)
    have hso2 := Sort_at9 (ws := [[99]]) (bu := bu) (fan := fan) (v := .slice (some ⟨w6.heap.size, 0, none⟩) 1 1) h9 ((CellT.stable _ _ _).both Stable.nought) HF.out rf_good HBU.out HFA.out ⟨_, _, rfl, by decide⟩ (by intro x hx; simp at hx; subst hx; simp) (fun w' h' => rd_cell h'.cell.1 rfl (by unfold maxLen; decide))
    rw [sortP_lim (by omega)] at hso2
    dsimp only at hso2
    rw [E2.out] at hso2
    have HSO2 := Lib.hid hso2
    clear h8 h9 hso2 HMG
    (repeat' (first | (go_big_may; fail) | go_values | go_skip | go_guarded | go_step | go_upon | go_back | dsimp only))
    refine HSO2.out.mono ?_
    rintro e w7 ⟨rfl, h10⟩
    have c2 := (HF.out.below h10.below).cell (2, 1) (by decide)
    have hlv := Live_at h10 ((CellT.stable _ _ _).both Stable.nought)
    have HLV := Lib.hid hlv
    clear h10 hlv HSO2
    (repeat' (first | (go_big_may; fail) | go_values | go_skip | go_guarded | go_step | go_upon | go_back | dsimp only))
    refine HLV.out.mono ?_
    rintro e w8 ⟨v8, rfl, h11⟩
    obtain ⟨ao, cp, hv8, _, _⟩ := own_shape h11.row
    have hv9 : v8 = .slice ao 2 cp := hv8
    subst hv9
    have htx := text_at (h11.perm (show _ = Both (StoreT b rfS) (Both (RowT (.slice ao 2 cp) rfS.keys) (Both (CellT w6.heap.size #[.string ⟨#[99]⟩] 9) Nought)) by ac_rfl)) ((RowT.stable _ _).both ((CellT.stable _ _ _).both Stable.nought)) (fails13_all HF.out) rf_good (z := 1) (by unfold inI64; omega)
    rw [rf_st.text] at htx
    have HTX := Lib.hid htx
    clear htx h11 HLV c2
    (repeat' (first | (go_big_may; fail) | go_values | go_skip | go_guarded | go_step | go_upon | go_back | dsimp only))
    refine HTX.out.mono ?_
    rintro e w9 ⟨rfl, h12⟩
    have HB := Lib.hid h12.below
    clear h12 HTX
    (repeat' (first | (go_big_may; fail) | go_values | go_skip | go_guarded | go_step | go_upon | go_back | dsimp only))
    go_ret
    exact ⟨rfl, HB.out⟩
  have E5 := Lib.hid (errV_pos ef (show (5 : Nat) ≠ 0 by decide))
  have E3 := Lib.hid (errV_pos ef (show (3 : Nat) ≠ 0 by decide))
  have eqnl := fun (a : Addr) => eql_nil_left a
  by_cases hbu : 1 ≤ bu ∧ bu ≤ 65536
  · obtain ⟨hr1, hr2⟩ := rf_sort hbu (fan := fan) (by omega)
    have hb1 : ¬ bu < 1 := by omega
    have hb2 : ¬ 65536 < bu := by omega
    have HR1 := Lib.hid hr1
    have HS3' := Lib.hid hr2
    clear hr1 hr2 hbu
    go_enter Tryz.func5, Tryz.ntmps5
    (repeat' (first | (go_big_may; fail) | go_values | go_skip | go_guarded | go_step | go_upon | go_back | dsimp only))
    refine (Merge_nil (HF.out.below H0.out.below) fan _).mono ?_
    rintro e w1 ⟨rfl, hb1⟩
    have h1 := H0.out.mono Stable.nought hb1
    have c1 := (HF.out.below h1.below).cell (1, 0) (by decide)
    rw [E1.out]
    have H1 := Lib.hid h1
    clear h1 hb1
    (repeat' (first | (go_big_may; fail) | go_values | go_skip | go_guarded | go_step | go_upon | go_back | dsimp only))
    refine (SortM_nil (HF.out.below H1.out.below) bu fan _).mono ?_
    rintro e w2 ⟨rfl, hb2⟩
    have h2 := H1.out.mono Stable.nought hb2
    clear c1
    have c1 := (HF.out.below h2.below).cell (1, 0) (by decide)
    rw [E1.out]
    have HN := Lib.hid (New_at h2 Stable.nought (c := 50) (by unfold inI64; omega))
    clear h2 hb2 H1
    (repeat' (first | (go_big_may; fail) | go_values | go_skip | go_guarded | go_step | go_upon | go_back | dsimp only))
    refine HN.out.mono ?_
    rintro e w3 ⟨rfl, h3⟩
    clear HN c1
    generalize w2.heap.size + 1 = b at *
    have h4 := (h3.newCell ((StoreT.stable _ _).both Stable.nought) #[.string ⟨#[98]⟩, .string ⟨#[97]⟩] 9).perm (show _ = Both (StoreT b (newSt 50)) (Both (CellT w3.heap.size #[.string ⟨#[98]⟩, .string ⟨#[97]⟩] 9) Nought) by ac_rfl)
    have hso := Sort_at9 (ws := [[98], [97]]) (bu := 2) (fan := 2) (v := .slice (some ⟨w3.heap.size, 0, none⟩) 2 2) h4 ((CellT.stable _ _ _).both Stable.nought) HF.out (GoodS.new 50) (by unfold inI64; omega) (by unfold inI64; omega) ⟨_, _, rfl, by decide⟩ (by intro x hx; simp at hx; rcases hx with rfl | rfl <;> simp) (fun w' h' => rd_cell h'.cell.1 rfl (by unfold maxLen; decide))
    rw [rf_one] at hso
    dsimp only at hso
    rw [errV_zero] at hso
    have HSO := Lib.hid hso
    clear h3 h4 hso
    (repeat' (first | (go_big_may; fail) | go_values | go_skip | go_guarded | go_step | go_upon | go_back | dsimp only))
    refine HSO.out.mono ?_
    rintro e w4 ⟨rfl, h5⟩
    have h5 := (h5.perm (show _ = Both (CellT w3.heap.size #[.string ⟨#[98]⟩, .string ⟨#[97]⟩] 9) (Both (StoreT b _) Nought) by ac_rfl)).drop
    have hcr := Create_7 h5 Stable.nought (fails11_7 (HF.out.less (fl' := fails11) (by decide)))
    rw [rf_two] at hcr
    dsimp only at hcr
    rw [errV_zero] at hcr
    have HCR := Lib.hid hcr
    clear hcr h5 HSO
    (repeat' (first | (go_big_may; fail) | go_values | go_skip | go_guarded | go_step | go_upon | go_back | dsimp only))
    refine HCR.out.mono ?_
    rintro e w5 ⟨rfl, h6⟩
    have h7 := (h6.newCell ((StoreT.stable _ _).both Stable.nought) #[.int .i64 1, .int .i64 1] tInt).perm (show _ = Both (StoreT b rfS) (Both (CellT w5.heap.size #[.int .i64 1, .int .i64 1] tInt) Nought) by ac_rfl)
    have hmg := Merge_at (l := [1, 1]) (fan := fan) (v := .slice (some ⟨w5.heap.size, 0, none⟩) 2 2) h7 ((CellT.stable _ _ _).both Stable.nought) HF.out rf_good (by intro z hz; simp at hz; subst hz; unfold inI64; omega) (by decide) HFA.out ⟨_, _, rfl⟩ (fun w' h' => rd_cell h'.cell.1 rfl (by unfold maxLen; decide))
    rw [mergeP_look (by omega) (by rw [rf_st.same]; decide), rf_st.same] at hmg
    dsimp only at hmg
    rw [E12.out] at hmg
    have HMG := Lib.hid hmg
    clear h6 h7 hmg HCR h5
    (repeat' (first | (go_big_may; fail) | go_values | go_skip | go_guarded | go_step | go_upon | go_back | dsimp only))
    refine HMG.out.mono ?_
    rintro e w6 ⟨rfl, h8⟩
    have h8 := (h8.perm (show _ = Both (CellT w5.heap.size #[.int .i64 1, .int .i64 1] tInt) (Both (StoreT b rfS) Nought) by ac_rfl)).drop
    have h9 := (h8.newCell ((StoreT.stable _ _).both Stable.nought) #[.string ⟨#[99]⟩] 9).perm (show _ = Both (StoreT b rfS) (Both (CellT w6.heap.size #[.string ⟨#[99]⟩] 9) Nought) by ac_rfl)
    have hso2 := Sort_at9 (ws := [[99]]) (bu := bu) (fan := fan) (v := .slice (some ⟨w6.heap.size, 0, none⟩) 1 1) h9 ((CellT.stable _ _ _).both Stable.nought) HF.out rf_good HBU.out HFA.out ⟨_, _, rfl, by decide⟩ (by intro x hx; simp at hx; subst hx; simp) (fun w' h' => rd_cell h'.cell.1 rfl (by unfold maxLen; decide))
    rw [HR1.out, errV_zero] at hso2
    generalize (sortP rfS bu fan [[99]]).2.1 = m3 at *
    generalize (sortP rfS bu fan [[99]]).1 = S3 at *
    have HS3 := HS3'
    clear HS3' HR1
    have HSO2 := Lib.hid hso2
    clear h8 h9 hso2 HMG
    (repeat' (first | (go_big_may; fail) | go_values | go_skip | go_guarded | go_step | go_upon | go_back | dsimp only))
    refine HSO2.out.mono ?_
    rintro e w7 ⟨rfl, h10⟩
    have c12 := (HF.out.below h10.below).cell (12, 2) (by decide)
    have c2 := (HF.out.below h10.below).cell (2, 1) (by decide)
    have h10 := (h10.perm (show _ = Both (CellT w6.heap.size #[.string ⟨#[99]⟩] 9) (Both (StoreT b S3) Nought) by ac_rfl)).drop
    have h11 := (h10.newCell ((StoreT.stable _ _).both Stable.nought) #[.int .i64 1, .int .i64 2] tInt).perm (show _ = Both (StoreT b S3) (Both (CellT w7.heap.size #[.int .i64 1, .int .i64 2] tInt) Nought) by ac_rfl)
    have hm2 := Merge_at (l := [1, 2]) (fan := fan) (v := .slice (some ⟨w7.heap.size, 0, none⟩) 2 2) h11 ((CellT.stable _ _ _).both Stable.nought) HF.out HS3.out.good (by intro z hz; simp at hz; rcases hz with rfl | rfl <;> (unfold inI64; omega)) (by decide) HFA.out ⟨_, _, rfl⟩ (fun w' h' => rd_cell h'.cell.1 rfl (by unfold maxLen; decide))
    rw [mergeP_look (by omega) (by rw [HS3.out.open_]; decide), HS3.out.open_] at hm2
    dsimp only at hm2
    rw [E5.out] at hm2
    have HM2 := Lib.hid hm2
    clear h10 h11 hm2 HSO2
    (repeat' (first | (go_big_may; fail) | go_values | go_skip | go_guarded | go_step | go_upon | go_back | dsimp only))
    refine HM2.out.mono ?_
    rintro e w8 ⟨rfl, h12⟩
    have c5 := (HF.out.below h12.below).cell (5, 3) (by decide)
    have h12 := (h12.perm (show _ = Both (CellT w7.heap.size #[.int .i64 1, .int .i64 2] tInt) (Both (StoreT b S3) Nought) by ac_rfl)).drop
    have htx := text_at h12 Stable.nought (fails13_all HF.out) HS3.out.good (z := 1) (by unfold inI64; omega)
    rw [HS3.out.text] at htx
    have HTX := Lib.hid htx
    clear htx h12 HM2 c12 c2
    (repeat' (first | (go_big_may; fail) | go_values | go_skip | go_guarded | go_step | go_upon | go_back | dsimp only))
    refine HTX.out.mono ?_
    rintro e w9 ⟨rfl, h13⟩
    clear c5 HTX
    by_cases hr0 : run < 0
    · skip
      have h14 := (h13.newCell ((StoreT.stable _ _).both Stable.nought) #[.int .i64 1, .int .i64 run, .int .i64 1] tInt).perm (show _ = Both (StoreT b S3) (Both (CellT w9.heap.size #[.int .i64 1, .int .i64 run, .int .i64 1] tInt) Nought) by ac_rfl)
      have hm3 := Merge_at (l := [1, run, 1]) (fan := fan) (v := .slice (some ⟨w9.heap.size, 0, none⟩) 3 3) h14 ((CellT.stable _ _ _).both Stable.nought) HF.out HS3.out.good (by intro z hz; simp at hz; rcases hz with rfl | rfl | rfl <;> first | exact HRU.out | (unfold inI64; omega)) (by show 3 ≤ _; omega) HFA.out ⟨_, _, rfl⟩ (fun w' h' => rd_cell h'.cell.1 rfl (by unfold maxLen; decide))
      rw [mergeP_look (by omega) (by rw [HS3.out.none_ (by omega)]; decide), HS3.out.none_ (by omega)] at hm3
      dsimp only at hm3
      rw [E3.out] at hm3
      have HM3 := Lib.hid hm3
      clear h13 h14 hm3
      (repeat' (first | (go_big_may; fail) | go_values | go_skip | go_guarded | go_step | go_upon | go_back | dsimp only))
      refine HM3.out.mono ?_
      rintro e w10 ⟨rfl, h15⟩
      have c3 := (HF.out.below h15.below).cell (3, 4) (by decide)
      have h15 := (h15.perm (show _ = Both (CellT w9.heap.size #[.int .i64 1, .int .i64 run, .int .i64 1] tInt) (Both (StoreT b S3) Nought) by ac_rfl)).drop
      have htx := text_at h15 Stable.nought (fails13_all HF.out) HS3.out.good (z := 1) (by unfold inI64; omega)
      rw [HS3.out.text] at htx
      have HTX := Lib.hid htx
      clear htx h15 HM3
      (repeat' (first | (go_big_may; fail) | go_values | go_skip | go_guarded | go_step | go_upon | go_back | dsimp only))
      refine HTX.out.mono ?_
      rintro e w11 ⟨rfl, h16⟩
      have HB := Lib.hid h16.below
      clear h16 HTX c3
      (repeat' (first | (go_big_may; fail) | go_values | go_skip | go_guarded | go_step | go_upon | go_back | dsimp only))
      go_ret
      exact ⟨rfl, HB.out⟩
    · have hmd := Made_at h13
      have HMD := Lib.hid hmd
      have H13 := Lib.hid h13
      clear hmd h13
      by_cases hr1 : (S3.made : Int) < run
      · (repeat' (first | (go_big_may; fail) | go_values | go_skip | go_guarded | go_step | go_upon | go_back | dsimp only))
        refine HMD.out.mono ?_
        rintro e w9b ⟨rfl, rfl⟩
        have h13 := H13.out
        clear H13 HMD
        have h14 := (h13.newCell ((StoreT.stable _ _).both Stable.nought) #[.int .i64 1, .int .i64 run, .int .i64 1] tInt).perm (show _ = Both (StoreT b S3) (Both (CellT w9.heap.size #[.int .i64 1, .int .i64 run, .int .i64 1] tInt) Nought) by ac_rfl)
        have hm3 := Merge_at (l := [1, run, 1]) (fan := fan) (v := .slice (some ⟨w9.heap.size, 0, none⟩) 3 3) h14 ((CellT.stable _ _ _).both Stable.nought) HF.out HS3.out.good (by intro z hz; simp at hz; rcases hz with rfl | rfl | rfl <;> first | exact HRU.out | (unfold inI64; omega)) (by show 3 ≤ _; omega) HFA.out ⟨_, _, rfl⟩ (fun w' h' => rd_cell h'.cell.1 rfl (by unfold maxLen; decide))
        rw [mergeP_look (by omega) (by rw [HS3.out.none_ (by omega)]; decide), HS3.out.none_ (by omega)] at hm3
        dsimp only at hm3
        rw [E3.out] at hm3
        have HM3 := Lib.hid hm3
        clear h13 h14 hm3
        (repeat' (first | (go_big_may; fail) | go_values | go_skip | go_guarded | go_step | go_upon | go_back | dsimp only))
        refine HM3.out.mono ?_
        rintro e w10 ⟨rfl, h15⟩
        have c3 := (HF.out.below h15.below).cell (3, 4) (by decide)
        have h15 := (h15.perm (show _ = Both (CellT w9.heap.size #[.int .i64 1, .int .i64 run, .int .i64 1] tInt) (Both (StoreT b S3) Nought) by ac_rfl)).drop
        have htx := text_at h15 Stable.nought (fails13_all HF.out) HS3.out.good (z := 1) (by unfold inI64; omega)
        rw [HS3.out.text] at htx
        have HTX := Lib.hid htx
        clear htx h15 HM3
        (repeat' (first | (go_big_may; fail) | go_values | go_skip | go_guarded | go_step | go_upon | go_back | dsimp only))
        refine HTX.out.mono ?_
        rintro e w11 ⟨rfl, h16⟩
        have HB := Lib.hid h16.below
        clear h16 HTX c3
        (repeat' (first | (go_big_may; fail) | go_values | go_skip | go_guarded | go_step | go_upon | go_back | dsimp only))
        go_ret
        exact ⟨rfl, HB.out⟩
      · (repeat' (first | (go_big_may; fail) | go_values | go_skip | go_guarded | go_step | go_upon | go_back | dsimp only))
        refine HMD.out.mono ?_
        rintro e w9b ⟨rfl, rfl⟩
        have HB := Lib.hid H13.out.below
        clear H13 HMD
        (repeat' (first | (go_big_may; fail) | go_values | go_skip | go_guarded | go_step | go_upon | go_back | dsimp only))
        go_ret
        exact ⟨rfl, HB.out⟩
  · obtain ⟨S3, hS3⟩ : ∃ S3, S3 = rfS := ⟨_, rfl⟩
    have HS3 := Lib.hid (show RfSt S3 by rw [hS3]; exact rf_st)
    have HE3 := Lib.hid hS3
    clear hS3
    by_cases hb1 : bu < 1
    · clear hbu
      go_enter Tryz.func5, Tryz.ntmps5
      (repeat' (first | (go_big_may; fail) | go_values | go_skip | go_guarded | go_step | go_upon | go_back | dsimp only))
      refine (Merge_nil (HF.out.below H0.out.below) fan _).mono ?_
      rintro e w1 ⟨rfl, hb1⟩
      have h1 := H0.out.mono Stable.nought hb1
      have c1 := (HF.out.below h1.below).cell (1, 0) (by decide)
      rw [E1.out]
      have H1 := Lib.hid h1
      clear h1 hb1
      (repeat' (first | (go_big_may; fail) | go_values | go_skip | go_guarded | go_step | go_upon | go_back | dsimp only))
      refine (SortM_nil (HF.out.below H1.out.below) bu fan _).mono ?_
      rintro e w2 ⟨rfl, hb2⟩
      have h2 := H1.out.mono Stable.nought hb2
      clear c1
      have c1 := (HF.out.below h2.below).cell (1, 0) (by decide)
      rw [E1.out]
      have HN := Lib.hid (New_at h2 Stable.nought (c := 50) (by unfold inI64; omega))
      clear h2 hb2 H1
      (repeat' (first | (go_big_may; fail) | go_values | go_skip | go_guarded | go_step | go_upon | go_back | dsimp only))
      refine HN.out.mono ?_
      rintro e w3 ⟨rfl, h3⟩
      clear HN c1
      generalize w2.heap.size + 1 = b at *
      have h4 := (h3.newCell ((StoreT.stable _ _).both Stable.nought) #[.string ⟨#[98]⟩, .string ⟨#[97]⟩] 9).perm (show _ = Both (StoreT b (newSt 50)) (Both (CellT w3.heap.size #[.string ⟨#[98]⟩, .string ⟨#[97]⟩] 9) Nought) by ac_rfl)
      have hso := Sort_at9 (ws := [[98], [97]]) (bu := 2) (fan := 2) (v := .slice (some ⟨w3.heap.size, 0, none⟩) 2 2) h4 ((CellT.stable _ _ _).both Stable.nought) HF.out (GoodS.new 50) (by unfold inI64; omega) (by unfold inI64; omega) ⟨_, _, rfl, by decide⟩ (by intro x hx; simp at hx; rcases hx with rfl | rfl <;> simp) (fun w' h' => rd_cell h'.cell.1 rfl (by unfold maxLen; decide))
      rw [rf_one] at hso
      dsimp only at hso
      rw [errV_zero] at hso
      have HSO := Lib.hid hso
      clear h3 h4 hso
      (repeat' (first | (go_big_may; fail) | go_values | go_skip | go_guarded | go_step | go_upon | go_back | dsimp only))
      refine HSO.out.mono ?_
      rintro e w4 ⟨rfl, h5⟩
      have h5 := (h5.perm (show _ = Both (CellT w3.heap.size #[.string ⟨#[98]⟩, .string ⟨#[97]⟩] 9) (Both (StoreT b _) Nought) by ac_rfl)).drop
      have hcr := Create_7 h5 Stable.nought (fails11_7 (HF.out.less (fl' := fails11) (by decide)))
      rw [rf_two] at hcr
      dsimp only at hcr
      rw [errV_zero] at hcr
      have HCR := Lib.hid hcr
      clear hcr h5 HSO
      (repeat' (first | (go_big_may; fail) | go_values | go_skip | go_guarded | go_step | go_upon | go_back | dsimp only))
      refine HCR.out.mono ?_
      rintro e w5 ⟨rfl, h6⟩
      have h7 := (h6.newCell ((StoreT.stable _ _).both Stable.nought) #[.int .i64 1, .int .i64 1] tInt).perm (show _ = Both (StoreT b rfS) (Both (CellT w5.heap.size #[.int .i64 1, .int .i64 1] tInt) Nought) by ac_rfl)
      have hmg := Merge_at (l := [1, 1]) (fan := fan) (v := .slice (some ⟨w5.heap.size, 0, none⟩) 2 2) h7 ((CellT.stable _ _ _).both Stable.nought) HF.out rf_good (by intro z hz; simp at hz; subst hz; unfold inI64; omega) (by decide) HFA.out ⟨_, _, rfl⟩ (fun w' h' => rd_cell h'.cell.1 rfl (by unfold maxLen; decide))
      rw [mergeP_look (by omega) (by rw [rf_st.same]; decide), rf_st.same] at hmg
      dsimp only at hmg
      rw [E12.out] at hmg
      have HMG := Lib.hid hmg
      clear h6 h7 hmg HCR h5
      (repeat' (first | (go_big_may; fail) | go_values | go_skip | go_guarded | go_step | go_upon | go_back | dsimp only))
      refine HMG.out.mono ?_
      rintro e w6 ⟨rfl, h8⟩
      have h8 := (h8.perm (show _ = Both (CellT w5.heap.size #[.int .i64 1, .int .i64 1] tInt) (Both (StoreT b rfS) Nought) by ac_rfl)).drop
      have h9 := (h8.newCell ((StoreT.stable _ _).both Stable.nought) #[.string ⟨#[99]⟩] 9).perm (show _ = Both (StoreT b rfS) (Both (CellT w6.heap.size #[.string ⟨#[99]⟩] 9) Nought) by ac_rfl)
      have hso2 := Sort_at9 (ws := [[99]]) (bu := bu) (fan := fan) (v := .slice (some ⟨w6.heap.size, 0, none⟩) 1 1) h9 ((CellT.stable _ _ _).both Stable.nought) HF.out rf_good HBU.out HFA.out ⟨_, _, rfl, by decide⟩ (by intro x hx; simp at hx; subst hx; simp) (fun w' h' => rd_cell h'.cell.1 rfl (by unfold maxLen; decide))
      rw [sortP_lim (by omega)] at hso2
      dsimp only at hso2
      rw [E2.out, ← HE3.out] at hso2
      have HSO2 := Lib.hid hso2
      clear h8 h9 hso2 HMG
      (repeat' (first | (go_big_may; fail) | go_values | go_skip | go_guarded | go_step | go_upon | go_back | dsimp only))
      refine HSO2.out.mono ?_
      rintro e w7 ⟨rfl, h10⟩
      have c12 := (HF.out.below h10.below).cell (12, 2) (by decide)
      have c2 := (HF.out.below h10.below).cell (2, 1) (by decide)
      have h10 := (h10.perm (show _ = Both (CellT w6.heap.size #[.string ⟨#[99]⟩] 9) (Both (StoreT b S3) Nought) by ac_rfl)).drop
      have h11 := (h10.newCell ((StoreT.stable _ _).both Stable.nought) #[.int .i64 1, .int .i64 2] tInt).perm (show _ = Both (StoreT b S3) (Both (CellT w7.heap.size #[.int .i64 1, .int .i64 2] tInt) Nought) by ac_rfl)
      have hm2 := Merge_at (l := [1, 2]) (fan := fan) (v := .slice (some ⟨w7.heap.size, 0, none⟩) 2 2) h11 ((CellT.stable _ _ _).both Stable.nought) HF.out HS3.out.good (by intro z hz; simp at hz; rcases hz with rfl | rfl <;> (unfold inI64; omega)) (by decide) HFA.out ⟨_, _, rfl⟩ (fun w' h' => rd_cell h'.cell.1 rfl (by unfold maxLen; decide))
      rw [mergeP_look (by omega) (by rw [HS3.out.open_]; decide), HS3.out.open_] at hm2
      dsimp only at hm2
      rw [E5.out] at hm2
      have HM2 := Lib.hid hm2
      clear h10 h11 hm2 HSO2
      (repeat' (first | (go_big_may; fail) | go_values | go_skip | go_guarded | go_step | go_upon | go_back | dsimp only))
      refine HM2.out.mono ?_
      rintro e w8 ⟨rfl, h12⟩
      have c5 := (HF.out.below h12.below).cell (5, 3) (by decide)
      have h12 := (h12.perm (show _ = Both (CellT w7.heap.size #[.int .i64 1, .int .i64 2] tInt) (Both (StoreT b S3) Nought) by ac_rfl)).drop
      have htx := text_at h12 Stable.nought (fails13_all HF.out) HS3.out.good (z := 1) (by unfold inI64; omega)
      rw [HS3.out.text] at htx
      have HTX := Lib.hid htx
      clear htx h12 HM2 c12 c2
      (repeat' (first | (go_big_may; fail) | go_values | go_skip | go_guarded | go_step | go_upon | go_back | dsimp only))
      refine HTX.out.mono ?_
      rintro e w9 ⟨rfl, h13⟩
      clear c5 HTX
      by_cases hr0 : run < 0
      · skip
        have h14 := (h13.newCell ((StoreT.stable _ _).both Stable.nought) #[.int .i64 1, .int .i64 run, .int .i64 1] tInt).perm (show _ = Both (StoreT b S3) (Both (CellT w9.heap.size #[.int .i64 1, .int .i64 run, .int .i64 1] tInt) Nought) by ac_rfl)
        have hm3 := Merge_at (l := [1, run, 1]) (fan := fan) (v := .slice (some ⟨w9.heap.size, 0, none⟩) 3 3) h14 ((CellT.stable _ _ _).both Stable.nought) HF.out HS3.out.good (by intro z hz; simp at hz; rcases hz with rfl | rfl | rfl <;> first | exact HRU.out | (unfold inI64; omega)) (by show 3 ≤ _; omega) HFA.out ⟨_, _, rfl⟩ (fun w' h' => rd_cell h'.cell.1 rfl (by unfold maxLen; decide))
        rw [mergeP_look (by omega) (by rw [HS3.out.none_ (by omega)]; decide), HS3.out.none_ (by omega)] at hm3
        dsimp only at hm3
        rw [E3.out] at hm3
        have HM3 := Lib.hid hm3
        clear h13 h14 hm3
        (repeat' (first | (go_big_may; fail) | go_values | go_skip | go_guarded | go_step | go_upon | go_back | dsimp only))
        refine HM3.out.mono ?_
        rintro e w10 ⟨rfl, h15⟩
        have c3 := (HF.out.below h15.below).cell (3, 4) (by decide)
        have h15 := (h15.perm (show _ = Both (CellT w9.heap.size #[.int .i64 1, .int .i64 run, .int .i64 1] tInt) (Both (StoreT b S3) Nought) by ac_rfl)).drop
        have htx := text_at h15 Stable.nought (fails13_all HF.out) HS3.out.good (z := 1) (by unfold inI64; omega)
        rw [HS3.out.text] at htx
        have HTX := Lib.hid htx
        clear htx h15 HM3
        (repeat' (first | (go_big_may; fail) | go_values | go_skip | go_guarded | go_step | go_upon | go_back | dsimp only))
        refine HTX.out.mono ?_
        rintro e w11 ⟨rfl, h16⟩
        have HB := Lib.hid h16.below
        clear h16 HTX c3
        (repeat' (first | (go_big_may; fail) | go_values | go_skip | go_guarded | go_step | go_upon | go_back | dsimp only))
        go_ret
        exact ⟨rfl, HB.out⟩
      · have hmd := Made_at h13
        have HMD := Lib.hid hmd
        have H13 := Lib.hid h13
        clear hmd h13
        by_cases hr1 : (S3.made : Int) < run
        · (repeat' (first | (go_big_may; fail) | go_values | go_skip | go_guarded | go_step | go_upon | go_back | dsimp only))
          refine HMD.out.mono ?_
          rintro e w9b ⟨rfl, rfl⟩
          have h13 := H13.out
          clear H13 HMD
          have h14 := (h13.newCell ((StoreT.stable _ _).both Stable.nought) #[.int .i64 1, .int .i64 run, .int .i64 1] tInt).perm (show _ = Both (StoreT b S3) (Both (CellT w9.heap.size #[.int .i64 1, .int .i64 run, .int .i64 1] tInt) Nought) by ac_rfl)
          have hm3 := Merge_at (l := [1, run, 1]) (fan := fan) (v := .slice (some ⟨w9.heap.size, 0, none⟩) 3 3) h14 ((CellT.stable _ _ _).both Stable.nought) HF.out HS3.out.good (by intro z hz; simp at hz; rcases hz with rfl | rfl | rfl <;> first | exact HRU.out | (unfold inI64; omega)) (by show 3 ≤ _; omega) HFA.out ⟨_, _, rfl⟩ (fun w' h' => rd_cell h'.cell.1 rfl (by unfold maxLen; decide))
          rw [mergeP_look (by omega) (by rw [HS3.out.none_ (by omega)]; decide), HS3.out.none_ (by omega)] at hm3
          dsimp only at hm3
          rw [E3.out] at hm3
          have HM3 := Lib.hid hm3
          clear h13 h14 hm3
          (repeat' (first | (go_big_may; fail) | go_values | go_skip | go_guarded | go_step | go_upon | go_back | dsimp only))
          refine HM3.out.mono ?_
          rintro e w10 ⟨rfl, h15⟩
          have c3 := (HF.out.below h15.below).cell (3, 4) (by decide)
          have h15 := (h15.perm (show _ = Both (CellT w9.heap.size #[.int .i64 1, .int .i64 run, .int .i64 1] tInt) (Both (StoreT b S3) Nought) by ac_rfl)).drop
          have htx := text_at h15 Stable.nought (fails13_all HF.out) HS3.out.good (z := 1) (by unfold inI64; omega)
          rw [HS3.out.text] at htx
          have HTX := Lib.hid htx
          clear htx h15 HM3
          (repeat' (first | (go_big_may; fail) | go_values | go_skip | go_guarded | go_step | go_upon | go_back | dsimp only))
          refine HTX.out.mono ?_
          rintro e w11 ⟨rfl, h16⟩
          have HB := Lib.hid h16.below
          clear h16 HTX c3
          (repeat' (first | (go_big_may; fail) | go_values | go_skip | go_guarded | go_step | go_upon | go_back | dsimp only))
          go_ret
          exact ⟨rfl, HB.out⟩
        · (repeat' (first | (go_big_may; fail) | go_values | go_skip | go_guarded | go_step | go_upon | go_back | dsimp only))
          refine HMD.out.mono ?_
          rintro e w9b ⟨rfl, rfl⟩
          have HB := Lib.hid H13.out.below
          clear H13 HMD
          (repeat' (first | (go_big_may; fail) | go_values | go_skip | go_guarded | go_step | go_upon | go_back | dsimp only))
          go_ret
          exact ⟨rfl, HB.out⟩
    · have hb2 : 65536 < bu := by omega
      clear hbu
      go_enter Tryz.func5, Tryz.ntmps5
      (repeat' (first | (go_big_may; fail) | go_values | go_skip | go_guarded | go_step | go_upon | go_back | dsimp only))
      refine (Merge_nil (HF.out.below H0.out.below) fan _).mono ?_
      rintro e w1 ⟨rfl, hb1⟩
      have h1 := H0.out.mono Stable.nought hb1
      have c1 := (HF.out.below h1.below).cell (1, 0) (by decide)
      rw [E1.out]
      have H1 := Lib.hid h1
      clear h1 hb1
      (repeat' (first | (go_big_may; fail) | go_values | go_skip | go_guarded | go_step | go_upon | go_back | dsimp only))
      refine (SortM_nil (HF.out.below H1.out.below) bu fan _).mono ?_
      rintro e w2 ⟨rfl, hb2⟩
      have h2 := H1.out.mono Stable.nought hb2
      clear c1
      have c1 := (HF.out.below h2.below).cell (1, 0) (by decide)
      rw [E1.out]
      have HN := Lib.hid (New_at h2 Stable.nought (c := 50) (by unfold inI64; omega))
      clear h2 hb2 H1
      (repeat' (first | (go_big_may; fail) | go_values | go_skip | go_guarded | go_step | go_upon | go_back | dsimp only))
      refine HN.out.mono ?_
      rintro e w3 ⟨rfl, h3⟩
      clear HN c1
      generalize w2.heap.size + 1 = b at *
      have h4 := (h3.newCell ((StoreT.stable _ _).both Stable.nought) #[.string ⟨#[98]⟩, .string ⟨#[97]⟩] 9).perm (show _ = Both (StoreT b (newSt 50)) (Both (CellT w3.heap.size #[.string ⟨#[98]⟩, .string ⟨#[97]⟩] 9) Nought) by ac_rfl)
      have hso := Sort_at9 (ws := [[98], [97]]) (bu := 2) (fan := 2) (v := .slice (some ⟨w3.heap.size, 0, none⟩) 2 2) h4 ((CellT.stable _ _ _).both Stable.nought) HF.out (GoodS.new 50) (by unfold inI64; omega) (by unfold inI64; omega) ⟨_, _, rfl, by decide⟩ (by intro x hx; simp at hx; rcases hx with rfl | rfl <;> simp) (fun w' h' => rd_cell h'.cell.1 rfl (by unfold maxLen; decide))
      rw [rf_one] at hso
      dsimp only at hso
      rw [errV_zero] at hso
      have HSO := Lib.hid hso
      clear h3 h4 hso
      (repeat' (first | (go_big_may; fail) | go_values | go_skip | go_guarded | go_step | go_upon | go_back | dsimp only))
      refine HSO.out.mono ?_
      rintro e w4 ⟨rfl, h5⟩
      have h5 := (h5.perm (show _ = Both (CellT w3.heap.size #[.string ⟨#[98]⟩, .string ⟨#[97]⟩] 9) (Both (StoreT b _) Nought) by ac_rfl)).drop
      have hcr := Create_7 h5 Stable.nought (fails11_7 (HF.out.less (fl' := fails11) (by decide)))
      rw [rf_two] at hcr
      dsimp only at hcr
      rw [errV_zero] at hcr
      have HCR := Lib.hid hcr
      clear hcr h5 HSO
      (repeat' (first | (go_big_may; fail) | go_values | go_skip | go_guarded | go_step | go_upon | go_back | dsimp only))
      refine HCR.out.mono ?_
      rintro e w5 ⟨rfl, h6⟩
      have h7 := (h6.newCell ((StoreT.stable _ _).both Stable.nought) #[.int .i64 1, .int .i64 1] tInt).perm (show _ = Both (StoreT b rfS) (Both (CellT w5.heap.size #[.int .i64 1, .int .i64 1] tInt) Nought) by ac_rfl)
      have hmg := Merge_at (l := [1, 1]) (fan := fan) (v := .slice (some ⟨w5.heap.size, 0, none⟩) 2 2) h7 ((CellT.stable _ _ _).both Stable.nought) HF.out rf_good (by intro z hz; simp at hz; subst hz; unfold inI64; omega) (by decide) HFA.out ⟨_, _, rfl⟩ (fun w' h' => rd_cell h'.cell.1 rfl (by unfold maxLen; decide))
      rw [mergeP_look (by omega) (by rw [rf_st.same]; decide), rf_st.same] at hmg
      dsimp only at hmg
      rw [E12.out] at hmg
      have HMG := Lib.hid hmg
      clear h6 h7 hmg HCR h5
      (repeat' (first | (go_big_may; fail) | go_values | go_skip | go_guarded | go_step | go_upon | go_back | dsimp only))
      refine HMG.out.mono ?_
      rintro e w6 ⟨rfl, h8⟩
      have h8 := (h8.perm (show _ = Both (CellT w5.heap.size #[.int .i64 1, .int .i64 1] tInt) (Both (StoreT b rfS) Nought) by ac_rfl)).drop
      have h9 := (h8.newCell ((StoreT.stable _ _).both Stable.nought) #[.string ⟨#[99]⟩] 9).perm (show _ = Both (StoreT b rfS) (Both (CellT w6.heap.size #[.string ⟨#[99]⟩] 9) Nought) by ac_rfl)
      have hso2 := Sort_at9 (ws := [[99]]) (bu := bu) (fan := fan) (v := .slice (some ⟨w6.heap.size, 0, none⟩) 1 1) h9 ((CellT.stable _ _ _).both Stable.nought) HF.out rf_good HBU.out HFA.out ⟨_, _, rfl, by decide⟩ (by intro x hx; simp at hx; subst hx; simp) (fun w' h' => rd_cell h'.cell.1 rfl (by unfold maxLen; decide))
      rw [sortP_lim (by omega)] at hso2
      dsimp only at hso2
      rw [E2.out, ← HE3.out] at hso2
      have HSO2 := Lib.hid hso2
      clear h8 h9 hso2 HMG
      (repeat' (first | (go_big_may; fail) | go_values | go_skip | go_guarded | go_step | go_upon | go_back | dsimp only))
      refine HSO2.out.mono ?_
      rintro e w7 ⟨rfl, h10⟩
      have c12 := (HF.out.below h10.below).cell (12, 2) (by decide)
      have c2 := (HF.out.below h10.below).cell (2, 1) (by decide)
      have h10 := (h10.perm (show _ = Both (CellT w6.heap.size #[.string ⟨#[99]⟩] 9) (Both (StoreT b S3) Nought) by ac_rfl)).drop
      have h11 := (h10.newCell ((StoreT.stable _ _).both Stable.nought) #[.int .i64 1, .int .i64 2] tInt).perm (show _ = Both (StoreT b S3) (Both (CellT w7.heap.size #[.int .i64 1, .int .i64 2] tInt) Nought) by ac_rfl)
      have hm2 := Merge_at (l := [1, 2]) (fan := fan) (v := .slice (some ⟨w7.heap.size, 0, none⟩) 2 2) h11 ((CellT.stable _ _ _).both Stable.nought) HF.out HS3.out.good (by intro z hz; simp at hz; rcases hz with rfl | rfl <;> (unfold inI64; omega)) (by decide) HFA.out ⟨_, _, rfl⟩ (fun w' h' => rd_cell h'.cell.1 rfl (by unfold maxLen; decide))
      rw [mergeP_look (by omega) (by rw [HS3.out.open_]; decide), HS3.out.open_] at hm2
      dsimp only at hm2
      rw [E5.out] at hm2
      have HM2 := Lib.hid hm2
      clear h10 h11 hm2 HSO2
      (repeat' (first | (go_big_may; fail) | go_values | go_skip | go_guarded | go_step | go_upon | go_back | dsimp only))
      refine HM2.out.mono ?_
      rintro e w8 ⟨rfl, h12⟩
      have c5 := (HF.out.below h12.below).cell (5, 3) (by decide)
      have h12 := (h12.perm (show _ = Both (CellT w7.heap.size #[.int .i64 1, .int .i64 2] tInt) (Both (StoreT b S3) Nought) by ac_rfl)).drop
      have htx := text_at h12 Stable.nought (fails13_all HF.out) HS3.out.good (z := 1) (by unfold inI64; omega)
      rw [HS3.out.text] at htx
      have HTX := Lib.hid htx
      clear htx h12 HM2 c12 c2
      (repeat' (first | (go_big_may; fail) | go_values | go_skip | go_guarded | go_step | go_upon | go_back | dsimp only))
      refine HTX.out.mono ?_
      rintro e w9 ⟨rfl, h13⟩
      clear c5 HTX
      by_cases hr0 : run < 0
      · skip
        have h14 := (h13.newCell ((StoreT.stable _ _).both Stable.nought) #[.int .i64 1, .int .i64 run, .int .i64 1] tInt).perm (show _ = Both (StoreT b S3) (Both (CellT w9.heap.size #[.int .i64 1, .int .i64 run, .int .i64 1] tInt) Nought) by ac_rfl)
        have hm3 := Merge_at (l := [1, run, 1]) (fan := fan) (v := .slice (some ⟨w9.heap.size, 0, none⟩) 3 3) h14 ((CellT.stable _ _ _).both Stable.nought) HF.out HS3.out.good (by intro z hz; simp at hz; rcases hz with rfl | rfl | rfl <;> first | exact HRU.out | (unfold inI64; omega)) (by show 3 ≤ _; omega) HFA.out ⟨_, _, rfl⟩ (fun w' h' => rd_cell h'.cell.1 rfl (by unfold maxLen; decide))
        rw [mergeP_look (by omega) (by rw [HS3.out.none_ (by omega)]; decide), HS3.out.none_ (by omega)] at hm3
        dsimp only at hm3
        rw [E3.out] at hm3
        have HM3 := Lib.hid hm3
        clear h13 h14 hm3
        (repeat' (first | (go_big_may; fail) | go_values | go_skip | go_guarded | go_step | go_upon | go_back | dsimp only))
        refine HM3.out.mono ?_
        rintro e w10 ⟨rfl, h15⟩
        have c3 := (HF.out.below h15.below).cell (3, 4) (by decide)
        have h15 := (h15.perm (show _ = Both (CellT w9.heap.size #[.int .i64 1, .int .i64 run, .int .i64 1] tInt) (Both (StoreT b S3) Nought) by ac_rfl)).drop
        have htx := text_at h15 Stable.nought (fails13_all HF.out) HS3.out.good (z := 1) (by unfold inI64; omega)
        rw [HS3.out.text] at htx
        have HTX := Lib.hid htx
        clear htx h15 HM3
        (repeat' (first | (go_big_may; fail) | go_values | go_skip | go_guarded | go_step | go_upon | go_back | dsimp only))
        refine HTX.out.mono ?_
        rintro e w11 ⟨rfl, h16⟩
        have HB := Lib.hid h16.below
        clear h16 HTX c3
        (repeat' (first | (go_big_may; fail) | go_values | go_skip | go_guarded | go_step | go_upon | go_back | dsimp only))
        go_ret
        exact ⟨rfl, HB.out⟩
      · have hmd := Made_at h13
        have HMD := Lib.hid hmd
        have H13 := Lib.hid h13
        clear hmd h13
        by_cases hr1 : (S3.made : Int) < run
        · (repeat' (first | (go_big_may; fail) | go_values | go_skip | go_guarded | go_step | go_upon | go_back | dsimp only))
          refine HMD.out.mono ?_
          rintro e w9b ⟨rfl, rfl⟩
          have h13 := H13.out
          clear H13 HMD
          have h14 := (h13.newCell ((StoreT.stable _ _).both Stable.nought) #[.int .i64 1, .int .i64 run, .int .i64 1] tInt).perm (show _ = Both (StoreT b S3) (Both (CellT w9.heap.size #[.int .i64 1, .int .i64 run, .int .i64 1] tInt) Nought) by ac_rfl)
          have hm3 := Merge_at (l := [1, run, 1]) (fan := fan) (v := .slice (some ⟨w9.heap.size, 0, none⟩) 3 3) h14 ((CellT.stable _ _ _).both Stable.nought) HF.out HS3.out.good (by intro z hz; simp at hz; rcases hz with rfl | rfl | rfl <;> first | exact HRU.out | (unfold inI64; omega)) (by show 3 ≤ _; omega) HFA.out ⟨_, _, rfl⟩ (fun w' h' => rd_cell h'.cell.1 rfl (by unfold maxLen; decide))
          rw [mergeP_look (by omega) (by rw [HS3.out.none_ (by omega)]; decide), HS3.out.none_ (by omega)] at hm3
          dsimp only at hm3
          rw [E3.out] at hm3
          have HM3 := Lib.hid hm3
          clear h13 h14 hm3
          (repeat' (first | (go_big_may; fail) | go_values | go_skip | go_guarded | go_step | go_upon | go_back | dsimp only))
          refine HM3.out.mono ?_
          rintro e w10 ⟨rfl, h15⟩
          have c3 := (HF.out.below h15.below).cell (3, 4) (by decide)
          have h15 := (h15.perm (show _ = Both (CellT w9.heap.size #[.int .i64 1, .int .i64 run, .int .i64 1] tInt) (Both (StoreT b S3) Nought) by ac_rfl)).drop
          have htx := text_at h15 Stable.nought (fails13_all HF.out) HS3.out.good (z := 1) (by unfold inI64; omega)
          rw [HS3.out.text] at htx
          have HTX := Lib.hid htx
          clear htx h15 HM3
          (repeat' (first | (go_big_may; fail) | go_values | go_skip | go_guarded | go_step | go_upon | go_back | dsimp only))
          refine HTX.out.mono ?_
          rintro e w11 ⟨rfl, h16⟩
          have HB := Lib.hid h16.below
          clear h16 HTX c3
          (repeat' (first | (go_big_may; fail) | go_values | go_skip | go_guarded | go_step | go_upon | go_back | dsimp only))
          go_ret
          exact ⟨rfl, HB.out⟩
        · (repeat' (first | (go_big_may; fail) | go_values | go_skip | go_guarded | go_step | go_upon | go_back | dsimp only))
          refine HMD.out.mono ?_
          rintro e w9b ⟨rfl, rfl⟩
          have HB := Lib.hid H13.out.below
          clear H13 HMD
          (repeat' (first | (go_big_may; fail) | go_values | go_skip | go_guarded | go_step | go_upon | go_back | dsimp only))
          go_ret
          exact ⟨rfl, HB.out⟩
end Go.Proofs.YtadokkffmekndaaGreatDoor
