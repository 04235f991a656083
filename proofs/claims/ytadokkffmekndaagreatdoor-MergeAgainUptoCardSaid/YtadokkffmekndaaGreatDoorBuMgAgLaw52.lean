/- merge.merged walked: the list is an owned row that is read and appended to at an offset. · merge.Merge walked. · merge.Sort walked. · hornbooklaw10: wakes walked. · MergeSorts, MergeSame, MergeAgain: what a sort leaves in a store with room; no program in sight. · MergeAgain: what several sorts and one merge of all leave in a store with room; no program in sight. -/
import Derived.Test.YtadokkffmekndaaGreatDoorBuMgAgLaw51
import Derived.Test.YtadokkffmekndaaGreatDoorBuMgAgLaw31
import Derived.Test.YtadokkffmekndaaGreatDoorBuMgAgLaw47
import Derived.Test.YtadokkffmekndaaGreatDoorBuMgAgLaw43
import Derived.Test.YtadokkffmekndaaGreatDoorBuMgAgLaw50
import Derived.ArgAppend
import Derived.Deep.QuietTactic
import Derived.BigQuiet
set_option linter.unusedSimpArgs false
set_option linter.unusedVariables false
namespace Go.Proofs.YtadokkffmekndaaGreatDoor
open Go.RowKit

/-- The ints l lie in these cells from o on, with room up to cap. -/
structure SliF (cs : Array Value) (o cap : Nat) (l : List Int) : Prop where
  fit : l.length ≤ cap
  top : o + cap ≤ cs.size
  max : cap ≤ maxLen
  at_ : ∀ (j : Nat) (z : Int), l[j]? = some z → cs[o + j]? = some (.int .i64 z)
section
variable {cs : Array Value} {o cap : Nat} {l : List Int} {g : Nat} {w : World}
theorem SliF.rd (h : SliF cs o cap l) (hc : w.heap[g]? = some (.cells cs tInt (0, 0))) : RdRow w (.slice (some ⟨g, o, none⟩) l.length cap) l.length 1 (intsV l) :=
  ⟨by simp [intsV], _, _, rfl, h.fit, h.max, fun j u hj => ⟨g, o, rfl, by
    obtain ⟨z, hz, rfl⟩ : ∃ z, l[j]? = some z ∧ Value.int .i64 z = u := by simpa [intsV] using hj
    rw [cell_at hc]
    exact h.at_ j z hz⟩⟩
theorem SliF.take (h : SliF cs o cap l) (k : Nat) : SliF cs o cap (l.take k) :=
  ⟨by have := h.fit; rw [List.length_take]; omega, h.top, h.max, fun j z hz => h.at_ j z (by
    rw [List.getElem?_take] at hz
    split at hz
    · exact hz
    · cases hz)⟩
theorem SliF.drop (h : SliF cs o cap l) {k : Nat} (hk : k ≤ l.length) : SliF cs (o + k) (cap - k) (l.drop k) :=
  ⟨by have := h.fit; rw [List.length_drop]; omega, by have := h.top; have := h.fit; omega, by have := h.max; omega, fun j z hz => by
    rw [List.getElem?_drop] at hz
    rw [Nat.add_assoc]
    exact h.at_ _ z hz⟩
end
section
variable {W w : World} {R : Thing} {l : List Int} {v : Value}
theorem At.rowCells (h : At W w (Both (RowG tInt 1 v l.length (intsV l)) R)) (hl : l ≠ []) : ∃ g cap cs, v = .slice (some ⟨g, 0, none⟩) l.length cap ∧ SliF cs 0 cap l ∧ At W w (Both (CellT g cs tInt) R) := by
  obtain ⟨g, cap, rfl, _, hc1, hc2⟩ := own_cut h.rowG (List.length_pos_iff.2 hl)
  have h1 := h.rowG
  obtain ⟨_, ⟨h3, _⟩ | ⟨g', cap', cur, h3, _, h5, h6, h7, h8, h9⟩⟩ := h1
  · cases h3
  · cases h3
    refine ⟨g, cap, cur, rfl, ⟨h6, by omega, h7, fun j z hz => ?_⟩, h.impl fun fp q => ?_⟩
    · have h10 : (intsV l)[j]? = some (.int .i64 z) := by simp [intsV, hz]
      rw [← h9, List.getElem?_take] at h10
      split at h10
      · simpa using h10
      · cases h10
    · obtain ⟨f, gg, ⟨_, rfl⟩, h2⟩ := q
      exact ⟨_, gg, ⟨h5, rfl⟩, h2⟩
theorem slice_append {cs : Array Value} {g o cap : Nat} (h : At W w (Both (CellT g cs tInt) R)) (hR : Stable R) (hs : SliF cs o cap l) (n : Int) (hl : l.length ≤ 1099511627776) (ty : TypeId) :
    ∃ v' w' g' o' cap' cs', (Builtin.append_ #[23, 23] ty #[.slice (some ⟨g, o, none⟩) l.length cap, .slice (some ⟨w.heap.size, 0, none⟩) 1 1]).run Tryz.prog (w.alloc (.cells #[.int .i64 n] tInt)) = .ok v' w' ∧ v' = .slice (some ⟨g', o', none⟩) (l.length + 1) cap' ∧ SliF cs' o' cap' (l ++ [n]) ∧ At W w' (Both (CellT g' cs' tInt) R) := by
  obtain ⟨i0, hi, hz⟩ : ∃ i, Tryz.prog.info? tInt = some i ∧ (i.zero, i.size, i.bytes) = (some (.int .i64 0), 1, 8) := by
    have := info_int
    cases hq : Tryz.prog.info? tInt with
    | none => rw [hq] at this; cases this
    | some i => rw [hq] at this; exact ⟨i, rfl, by simpa using this⟩
  simp only [Prod.mk.injEq] at hz
  obtain ⟨hz0, hz1, hz2⟩ := hz
  have hst := (CellT.stable g cs tInt).both hR
  have h1 := h.newCell hst #[.int .i64 n] tInt
  have hnw : ∀ j u, [Value.int .i64 n][j]? = some u → (w.alloc (.cells #[.int .i64 n] tInt)).cell? ((⟨w.heap.size, 0, none⟩ : Addr).add j) = some u := fun j u hu => by
    match j with
    | 0 =>
      simp at hu
      subst hu
      exact cell_at h1.cell.1 0
    | j + 1 => simp at hu
  have hc := h1.drop.cell.1
  by_cases hr : l.length + 1 ≤ cap
  · have hrm := run_append_room_cells (P := Tryz.prog) (w.alloc (.cells #[.int .i64 n] tInt)) 23 ty tInt i0 Tryz.underlying23 hi g o l.length cap ⟨w.heap.size, 0, none⟩ 1 1 [.int .i64 n] (by rw [hz1]; rfl) hnw (by simp [Value.oneCell']) hr
      (fun j hj => by
        have hj0 : j = 0 := by simpa using hj
        subst hj0
        rw [hz1, cell_at hc]
        have := hs.top
        simp
        omega)
      (fun j hj => thaw_at hc _)
    rw [hz1] at hrm
    have h2 := h1.drop.setCell hR (o + l.length) (.int .i64 n)
    refine ⟨_, _, g, o, cap, cs.setIfInBounds (o + l.length) (.int .i64 n), hrm, rfl, ⟨by simp; omega, by simpa using hs.top, hs.max, fun j z hj => ?_⟩, by simpa [World.setCells] using h2⟩
    by_cases hjl : j < l.length
    · rw [List.getElem?_append_left hjl] at hj
      rw [Array.getElem?_setIfInBounds_ne (by omega)]
      exact hs.at_ j z hj
    · rw [List.getElem?_append_right (by omega)] at hj
      have hj0 : j - l.length = 0 := by
        have := (List.getElem?_eq_some_iff.1 hj).1
        simp at this
        omega
      rw [hj0] at hj
      simp at hj
      subst hj
      have hje : j = l.length := by omega
      subst hje
      rw [Array.getElem?_setIfInBounds_self_of_lt (by have := hs.top; omega)]
  · have hcl : cap = l.length := by have := hs.fit; omega
    obtain ⟨v', w', hrn, ho, hg⟩ := run_append_arg_grows (P := Tryz.prog) (w.alloc (.cells #[.int .i64 n] tInt)) 23 ty tInt i0 (.int .i64 0) 1 8 Tryz.underlying23 hi hz0 hz1 hz2 rfl (by decide)
      ⟨g, o, none⟩ l.length cap (intsV l) (by simp [intsV]) (fun j u hu => by
        obtain ⟨z, hz, rfl⟩ : ∃ z, l[j]? = some z ∧ Value.int .i64 z = u := by simpa [intsV] using hu
        rw [Addr.add_lit, cell_at hc]
        exact hs.at_ j z hz)
      ⟨w.heap.size, 0, none⟩ 1 1 [.int .i64 n] rfl hnw (by omega) (by unfold maxLen; omega) (by omega)
    have hb : Below (w.alloc (.cells #[.int .i64 n] tInt)).heap.size (w.alloc (.cells #[.int .i64 n] tInt)) w' := (Below.refl _ _).grown hg (Nat.le_refl _) (fun k hk => by cases hk)
    have e1 : intsV l ++ [Value.int .i64 n] = intsV (l ++ [n]) := by simp [intsV]
    have e2 : l.length + 1 = (l ++ [n]).length := by simp
    rw [e1, e2] at ho
    have h2 := (h1.newRowG ((CellT.stable _ _ _).both hst) hb ho).perm (show _ = Both (CellT w.heap.size #[.int .i64 n] tInt) (Both (CellT g cs tInt) (Both (RowG tInt 1 v' (l ++ [n]).length (intsV (l ++ [n]))) R)) by ac_rfl)
    obtain ⟨g', cap', cs', hv, hsf, h3⟩ := h2.drop.drop.rowCells (by simp)
    exact ⟨v', w', g', 0, cap', cs', hrn, by rw [hv, ← e2], hsf, h3⟩
end
section
variable {W w : World} {R : Thing} {b : Nat} {ef : Nat → Nat × Nat} {S : St} {l : List Int} {v : Value}
theorem wpList_append_run {P : Program} {ops : Array Oper} {rest : List Oper} {o : Oper} {a : Act} {Q : Exit → Act → World → Prop} {w w' : World} (hgd : o.guard = none)
    (s x : Operand) (t : TypeId) (ho : o.op = .call { callee := .builtin .append, args := #[s, x], argTypes := #[t, t] }) {sv xv v' : Value} (hs : a.eval s = sv) (hx : a.eval x = xv)
    (hr : (Builtin.append_ #[t, t] o.type #[sv, xv]).run P w = .ok v' w') (h : wpList P ops Q rest (a.put o.dst v') w') : wpList P ops Q (o :: rest) a w := by
  refine wpList_plain hgd fun K hK' => ?_
  unfold Oper.wp
  simp [execOp, ho, resolve, invoke, builtin, hs, hx, hr, Result.andThen]
  exact hK' _ _ h
def sliN : Value → Nat
  | .slice _ n _ => n
  | _ => 0
/-- What merged computes. -/
def mergedP (S : St) (fan : Int) (l : List Int) : St × Int × Nat := if l = [] then ((writtenP S []).1, ((writtenP S []).2.1 : Int), (writtenP S []).2.2) else loopM fan.toNat l.length S l
set_option maxRecDepth 100000 in
set_option maxHeartbeats 6400000 in
theorem merged_at (h : At W w (Both (RowG tInt 1 v l.length (intsV l)) (Both (StoreT b S) R))) (hR : Stable R) (hF : Fails W ef fails13) (hG : GoodS S) (hl : LokP S l) {fan : Int} (hf : 2 ≤ fan ∧ fan ≤ 64) :
    Calls Tryz.prog 39 #[.pointer (some ⟨b, 0, none⟩), .int .i64 fan, v] w fun e w' => e = .returned (.tuple #[.int .i64 (mergedP S fan l).2.1, errV ef (mergedP S fan l).2.2]) ∧ At W w' (Both (StoreT b (mergedP S fan l).1) R) := by
  obtain ⟨ao, cp, rfl, hc1, hc2⟩ := own_shape h.rowG
  obtain ⟨res, hres⟩ : ∃ res, res = mergedP S fan l := ⟨_, rfl⟩
  rw [← hres]
  unfold mergedP at hres
  have hlen := hl.few hG
  by_cases hn : l = []
  · subst hn
    rw [if_pos rfl] at hres
    have hrd := round_at (l := []) (v := .slice none 0 0) h.drop hR hF hG hl (by decide) ⟨none, 0, rfl⟩ (fun w' _ => ⟨rfl, none, 0, rfl, Nat.le_refl _, by simp [maxLen], fun j u hu => by simp [intsV] at hu⟩)
    have ea : allP S [] = [] := ofL_nil
    rw [ea] at hrd
    have HRD := Lib.hid hrd
    have HRES := Lib.hid hres
    clear h hR hF hG hl hres hrd ea hc1 hc2 hlen
    go_enter Tryz.func39, Tryz.ntmps39
    (repeat' (first | (go_big_may; fail) | go_values | go_skip | go_guarded | go_step | go_upon | go_back | dsimp only))
    refine HRD.out.mono ?_
    rintro e w1 ⟨rfl, h1⟩
    have H1 := Lib.hid h1
    clear h1 HRD
    (repeat' (first | (go_big_may; fail) | go_values | go_skip | go_guarded | go_step | go_upon | go_back | dsimp only))
    go_ret2
    rw [HRES.out]
    exact ⟨rfl, H1.out⟩
  · rw [if_neg hn] at hres
    obtain ⟨g0, cap0, cs0, hv0, hs0, h0⟩ := h.rowCells hn
    simp only [Value.slice.injEq] at hv0
    obtain ⟨rfl, _, rfl⟩ := hv0
    have hl1 : 1 ≤ l.length := List.length_pos_iff.2 hn
    have hne : ((l.length : Int) == 0) = false := by simp; exact hn
    have H0 := Lib.hid h0
    have HS0 := Lib.hid hs0
    have HR := Lib.hid hR
    have HF := Lib.hid hF
    have HG := Lib.hid hG
    have HL := Lib.hid hl
    have HRES := Lib.hid hres
    have neqn : ∀ wz : World, (binOp .neq tErr .nilIface .nilIface).run Tryz.prog wz = .ok (.bool false) wz := fun wz => neq_nil wz
    clear h h0 hs0 hR hF hG hl hres hn
    go_enter Tryz.func39, Tryz.ntmps39
    (repeat' (first | (go_big_may; fail) | go_values | go_skip | go_guarded | go_step | go_upon | go_back | dsimp only))
    go_loopw [2] (fun v2 wr => ∃ (n : Nat) (S' : St) (l' : List Int) (g o cap : Nat) (cs : Array Value), v2 = .slice (some ⟨g, o, none⟩) l'.length cap ∧ SliF cs o cap l' ∧ GoodS S' ∧ LokP S' l' ∧ 1 ≤ l'.length ∧ l'.length ≤ n ∧ res = loopM fan.toNat n S' l' ∧ At W wr (Both (CellT g cs tInt) (Both (StoreT b S') R))) (fun v2 _ => sliN v2)
    case atStart => exact ⟨l.length, S, l, g0, 0, _, cs0, rfl, HS0.out, HG.out, HL.out, hl1, Nat.le_refl _, HRES.out, H0.out⟩
    case round =>
      obtain ⟨n, S', l', g, o, cap, cs, rfl, hs, hg', hl', hp', hn', hr', h1⟩ := hrel
      clear H0 HS0 HG HL HRES hne hl1 hc1 hc2 hlen
      have hlen' := hl'.few hg'
      have hfit := hs.fit
      have hmax := hs.max
      unfold maxLen at hmax
      obtain ⟨m, rfl⟩ : ∃ m, n = m + 1 := ⟨n - 1, by omega⟩
      rw [loopM] at hr'
      have HS := Lib.hid hs
      have HG := Lib.hid hg'
      have HL := Lib.hid hl'
      by_cases hlt : l'.length ≤ 1
      · rw [if_pos hlt] at hr'
        have hi1 : ¬ (1 : Int) < l'.length := by omega
        obtain ⟨z, hz⟩ : ∃ z, l'[0]? = some z := ⟨_, List.getElem?_eq_getElem (by omega)⟩
        have hz2 : l'.getD 0 0 = z := by rw [List.getD_eq_getElem?_getD, hz]; rfl
        rw [hz2] at hr'
        have c0 := cell_at h1.cell.1 (o + 0)
        rw [hs.at_ 0 z hz] at c0
        simp only [Nat.add_zero] at c0
        have hp0 : (0 : Int) < l'.length := by omega
        have HRR := Lib.hid hr'
        have H1 := Lib.hid h1
        clear hr' h1 hs hg' hl' hz hz2
        (repeat' (first | (go_big_may; fail) | go_values | go_skip | go_guarded | go_step | go_upon | go_back | dsimp only))
        go_ret2
        rw [HRR.out]
        refine ⟨?_, H1.out.drop⟩
        show _ = Ending.returned (.tuple #[.int .i64 z, errV ef 0])
        rw [errV_zero]
        rfl
      · rw [if_neg hlt] at hr'
        have hi1 : (1 : Int) < l'.length := by omega
        obtain ⟨k, hk⟩ : ∃ k, k = min fan.toNat l'.length := ⟨_, rfl⟩
        have hk2 : 2 ≤ k ∧ k ≤ 64 ∧ k ≤ l'.length := by omega
        have hmin : min fan (l'.length : Int) = (k : Int) := by omega
        have htk : l'.take fan.toNat = l'.take k := by
          rcases Nat.le_total fan.toNat l'.length with h | h
          · rw [hk, Nat.min_eq_left h]
          · rw [hk, Nat.min_eq_right h, List.take_length, List.take_of_length_le h]
        have hdk : l'.drop fan.toNat = l'.drop k := by
          rcases Nat.le_total fan.toNat l'.length with h | h
          · rw [hk, Nat.min_eq_left h]
          · rw [hk, Nat.min_eq_right h, List.drop_length, List.drop_of_length_le h]
        rw [htk, hdk] at hr'
        have hkl : (l'.take k).length = k := by rw [List.length_take]; omega
        have hrow := fun (w' : World) (h' : At W w' (Both (CellT g cs tInt) R)) => by
          have := (HS.out.take k).rd h'.cell.1
          rwa [hkl] at this
        have hrow2 : ∀ w', At W w' (Both (CellT g cs tInt) R) → RdRow w' (.slice (some ⟨g, o, none⟩) k cap) (l'.take k).length 1 (intsV (l'.take k)) := fun w' h' => by
          have := hrow w' h'
          rwa [hkl]
        have hrnd := round_at (l := l'.take k) (v := .slice (some ⟨g, o, none⟩) k cap) (h1.perm (show _ = Both (StoreT b S') (Both (CellT g cs tInt) R) by ac_rfl)) ((CellT.stable _ _ _).both HR.out) HF.out HG.out (HL.out.take k) (by omega) ⟨_, _, by rw [hkl]⟩ hrow2
        have hz64 := HL.out.z64 HG.out
        obtain ⟨P, hP⟩ : ∃ P, P = writtenP S' (allP S' (l'.take k)) := ⟨_, rfl⟩
        have hgb := LokP.bad HG.out (l'.take k)
        have hrd' := HL.out.round HG.out k
        rw [← hP] at hrnd hr' hgb hrd'
        have HROW := Lib.hid hrow2
        have HRN := Lib.hid hrnd
        have HZ := Lib.hid hz64
        have HGB := Lib.hid hgb
        have HRO := Lib.hid hrd'
        have HKL := Lib.hid hkl
        have hk0 : (0 : Int) ≤ k := by omega
        have hkc : (k : Int) ≤ cap := by omega
        have hkn : (k : Int) ≤ l'.length := by omega
        clear hs hg' hl' hrow hrow2 hrnd hz64 hP hgb hrd' htk hdk hkl hk h1
        by_cases hz : P.2.2 = 0
        · obtain ⟨q1, q2, q3, q4⟩ := HRO.out hz
          rw [if_neg (by simpa using hz)] at hr'
          rw [hz, errV_zero] at HRN
          have hrm := fun (w' : World) (h' : At W w' (Both (StoreT b P.1) (Both (CellT g cs tInt) R))) => remove_at (l := l'.take k) (v := .slice (some ⟨g, o, none⟩) k cap) h' ((CellT.stable _ _ _).both HR.out) HF.out q4 (fun z hz => HZ.out z (List.mem_of_mem_take hz)) (by rw [HKL.out]; omega) ⟨_, _, by rw [HKL.out]⟩ HROW.out
          have HRM := Lib.hid hrm
          have HRR := Lib.hid hr'
          have HQ1 := Lib.hid q1
          have HQ2 := Lib.hid q2
          have hnum : P.2.1 ≤ 16777216 := q3
          clear hrm hr' q1 q2 q3 q4 hz
          have hA : ∀ w', At W w' (Both (CellT g cs tInt) (Both (StoreT b (goneZ P.1 (l'.take k))) R)) → ∃ v' w'' g' o' cap' cs', (Builtin.append_ #[23, 23] 23 #[.slice (if cap = k then some ⟨g, o, none⟩ else some ⟨g, o + k, none⟩) (l'.length - k) (cap - k), .slice (some ⟨w'.heap.size, 0, none⟩) 1 1]).run Tryz.prog (w'.alloc (.cells #[.int .i64 P.2.1] tInt)) = .ok v' w'' ∧ v' = .slice (some ⟨g', o', none⟩) (l'.length - k + 1) cap' ∧ SliF cs' o' cap' (l'.drop k ++ [(P.2.1 : Int)]) ∧ At W w'' (Both (CellT g' cs' tInt) (Both (StoreT b (goneZ P.1 (l'.take k))) R)) := fun w' h' => by
            by_cases hk : cap = k
            · have hs2 : SliF cs o 0 (l'.drop k) := ⟨by rw [List.length_drop]; omega, by have := HS.out.top; omega, by simp [maxLen], fun j z hz => by rw [List.drop_of_length_le (by omega)] at hz; cases hz⟩
              have := slice_append h' ((StoreT.stable _ _).both HR.out) hs2 P.2.1 (by rw [List.length_drop]; omega) 23
              rw [if_pos hk, show cap - k = 0 by omega]
              rwa [List.length_drop] at this
            · have := slice_append h' ((StoreT.stable _ _).both HR.out) (HS.out.drop (k := k) (by omega)) P.2.1 (by rw [List.length_drop]; omega) 23
              rw [if_neg hk]
              rwa [List.length_drop] at this
          have HA := Lib.hid hA
          clear hA
          (repeat' (first | (go_big_may; fail) | go_values | go_skip | go_guarded | go_step | go_upon | go_back | dsimp only))
          refine HRN.out.mono ?_
          rintro e w1 ⟨rfl, h2⟩
          have H2 := Lib.hid h2
          clear h2 HRN
          (repeat' (first | (go_big_may; fail) | go_values | go_skip | go_guarded | go_step | go_upon | go_back | dsimp only))
          refine (HRM.out w1 H2.out).mono ?_
          rintro e w2 ⟨rfl, h3⟩
          have H4 := Lib.hid (h3.perm (show _ = Both (CellT g cs tInt) (Both (StoreT b (goneZ P.1 (l'.take k))) R) by ac_rfl))
          clear h3 HRM H2
          (repeat' (first | (go_big_may; (at_builtin; obtain ⟨v5, w5, g5, o5, cap5, cs5, hap, hv5, hsf, h5⟩ := HA.out w2 H4.out; go_must (refine wpList_append_run (sv := .slice (if cap = k then some ⟨g, o, none⟩ else some ⟨g, o + k, none⟩) (l'.length - k) (cap - k)) (xv := .slice (some ⟨w2.heap.size, 0, none⟩) 1 1) (v' := v5) (w' := w5) rfl _ _ 23 rfl rfl rfl (by exact hap) ?_); have H5 := Lib.hid h5; have HSF := Lib.hid hsf; subst hv5; clear h5 hsf hap HA H4)) | go_values | go_skip | go_guarded | go_step | go_upon | go_back | dsimp only))
          go_roundw
          case rel =>
            refine ⟨m, _, _, g5, o5, cap5, cs5, ?_, HSF.out, HQ1.out, HQ2.out, by simp, ?_, HRR.out, H5.out⟩
            · rw [List.length_append, List.length_drop]; rfl
            · rw [List.length_append, List.length_drop, List.length_singleton]; omega
          case measure =>
            show l'.length - k + 1 < l'.length
            omega
        · rw [if_pos (by simpa using hz)] at hr'
          rw [errV_pos ef hz] at HRN
          have hrm := fun (w' : World) (h' : At W w' (Both (StoreT b P.1) (Both (CellT g cs tInt) R))) => remove_at (l := l') (v := .slice (some ⟨g, o, none⟩) l'.length cap) h' ((CellT.stable _ _ _).both HR.out) HF.out (HGB.out l').1 HZ.out (by omega) ⟨_, _, rfl⟩ (fun w' h' => HS.out.rd h'.cell.1)
          have HRM := Lib.hid hrm
          have HRR := Lib.hid hr'
          have HZZ := Lib.hid (errV_pos ef hz)
          have neqi := run_neq_iface_nil2 ⟨(ef P.2.2).1, (ef P.2.2).2, none⟩
          clear hrm hr' hz
          (repeat' (first | (go_big_may; fail) | go_values | go_skip | go_guarded | go_step | go_upon | go_back | dsimp only))
          refine HRN.out.mono ?_
          rintro e w1 ⟨rfl, h2⟩
          have H2 := Lib.hid h2
          clear h2 HRN
          (repeat' (first | (go_big_may; fail) | go_values | go_skip | go_guarded | go_step | go_upon | go_back | dsimp only))
          refine (HRM.out w1 H2.out).mono ?_
          rintro e w2 ⟨rfl, h3⟩
          have H3 := Lib.hid h3
          clear h3 HRM H2
          (repeat' (first | (go_big_may; fail) | go_values | go_skip | go_guarded | go_step | go_upon | go_back | dsimp only))
          go_ret2
          rw [HRR.out]
          refine ⟨?_, (H3.out.perm (show _ = Both (CellT g cs tInt) (Both (StoreT b (goneZ P.1 l')) R) by ac_rfl)).drop⟩
          show _ = Ending.returned (.tuple #[.int .i64 0, errV ef P.2.2])
          rw [HZZ.out]
          rfl
end
end Go.Proofs.YtadokkffmekndaaGreatDoor
namespace Go.Proofs.YtadokkffmekndaaGreatDoor
open Go.RowKit

section
variable {W w : World} {R : Thing} {b : Nat} {ef : Nat → Nat × Nat} {S : St} {l : List Int} {v : Value}
theorem mergeP_lim {fan : Int} (h : fan < 2 ∨ 64 < fan) : mergeP S fan l = (S, 0, 2) := by unfold mergeP; rw [if_pos h]
theorem mergeP_look {fan : Int} (h : ¬ (fan < 2 ∨ 64 < fan)) (h2 : lookP S [] l ≠ 0) : mergeP S fan l = (S, 0, lookP S [] l) := by unfold mergeP; rw [if_neg h, if_pos h2]
theorem mergeP_ok {fan : Int} (h : ¬ (fan < 2 ∨ 64 < fan)) (h2 : lookP S [] l = 0) : mergeP S fan l = mergedP S fan l := by unfold mergeP mergedP; rw [if_neg h, if_neg (by simpa using h2)]
set_option maxRecDepth 100000 in
set_option maxHeartbeats 3200000 in
theorem Merge_at (h : At W w (Both (StoreT b S) R)) (hR : Stable R) (hF : Fails W ef fails13) (hG : GoodS S) (hz : ∀ z ∈ l, inI64 z) (hlen : l.length ≤ 1099511627776) {fan : Int} (hf64 : inI64 fan) (hv : ∃ ao cp, v = .slice ao l.length cp) (hrd : ∀ w', At W w' R → RdRow w' v l.length 1 (intsV l)) :
    Calls Tryz.prog 16 #[.pointer (some ⟨b, 0, none⟩), .int .i64 fan, v] w fun e w' => e = .returned (.tuple #[.int .i64 (mergeP S fan l).2.1, errV ef (mergeP S fan l).2.2]) ∧ At W w' (Both (StoreT b (mergeP S fan l).1) R) := by
  have hlk := look_at h hR hF hz hlen hv hrd
  obtain ⟨av, cv, rfl⟩ := hv
  have hnotf : ∀ (x : Bool) (w : World), (Op.unary .not (.bool x)).run Tryz.prog w = .ok (.bool (!x)) w := fun _ _ => rfl
  have hcg := (hF.below h.below).cell (2, 1) (by decide)
  by_cases hfl : fan < 2 ∨ 64 < fan
  · rw [mergeP_lim hfl]
    dsimp only
    rw [errV_pos ef (show (2 : Nat) ≠ 0 by decide)]
    have hft := mfit_calls fan w
    rw [decide_eq_false (by omega)] at hft
    have HFT := Lib.hid hft
    have H := Lib.hid h
    have HR := Lib.hid hR
    clear h hR hF hG hz hrd hlk hft hfl
    go_enter Tryz.func16, Tryz.ntmps16
    (repeat' (first | (go_big_may; fail) | go_values | go_skip | go_guarded | go_step | go_upon | go_back | dsimp only))
    refine HFT.out.mono ?_
    rintro e w1 ⟨rfl, rfl⟩
    (repeat' (first | (go_big_may; fail) | go_values | go_skip | go_guarded | go_step | go_upon | go_back | dsimp only))
    go_quiet (fail)
    (repeat' (first | (go_big_may; fail) | go_values | go_skip | go_guarded | go_step | go_upon | go_back | dsimp only))
    go_ret2
    exact ⟨rfl, H.out.drewN ((StoreT.stable _ _).both HR.out) _⟩
  · have hft := mfit_calls fan w
    rw [decide_eq_true (by omega)] at hft
    have HFT := Lib.hid hft
    by_cases hl0 : lookP S [] l = 0
    · rw [mergeP_ok hfl hl0]
      rw [hl0, errV_zero] at hlk
      have HLK := Lib.hid hlk
      have hmg := fun (w1 w2 : World) (v' : Value) (h1 : At W w1 (Both (StoreT b S) R)) (hb : Below w1.heap.size w1 w2) (ho : w2.ownsRow w1.heap.size tInt 1 v' l.length (intsV l)) =>
        merged_at (fan := fan) (h1.newRowG ((StoreT.stable _ _).both hR) hb ho) hR hF hG (look_lok hl0) (by omega)
      have HMG := Lib.hid hmg
      have HCL := Lib.hid (fun (w1 : World) (h1 : At W w1 (Both (StoreT b S) R)) => Clone_ints (hrd w1 h1.drop) (by have := (look_lok hl0).few hG; omega))
      have neqn : ∀ wz : World, (binOp .neq tErr .nilIface .nilIface).run Tryz.prog wz = .ok (.bool false) wz := fun wz => neq_nil wz
      clear h hR hF hG hz hrd hlk hft hfl hmg hcg hl0
      go_enter Tryz.func16, Tryz.ntmps16
      (repeat' (first | (go_big_may; fail) | go_values | go_skip | go_guarded | go_step | go_upon | go_back | dsimp only))
      refine HFT.out.mono ?_
      rintro e w1 ⟨rfl, rfl⟩
      (repeat' (first | (go_big_may; fail) | go_values | go_skip | go_guarded | go_step | go_upon | go_back | dsimp only))
      refine HLK.out.mono ?_
      rintro e w2 ⟨rfl, h2⟩
      have H2 := Lib.hid h2
      clear h2 HLK
      (repeat' (first | (go_big_may; fail) | go_values | go_skip | go_guarded | go_step | go_upon | go_back | dsimp only))
      refine (HCL.out _ H2.out).mono ?_
      rintro e w3 ⟨v3, rfl, ho, hb⟩
      have HM2 := Lib.hid (HMG.out _ _ _ H2.out hb ho)
      clear ho hb HCL HMG
      (repeat' (first | (go_big_may; fail) | go_values | go_skip | go_guarded | go_step | go_upon | go_back | dsimp only))
      refine HM2.out.mono ?_
      rintro e w4 ⟨rfl, h4⟩
      have H4 := Lib.hid h4
      clear h4 HM2
      (repeat' (first | (go_big_may; fail) | go_values | go_skip | go_guarded | go_step | go_upon | go_back | dsimp only))
      go_ret2
      exact ⟨rfl, H4.out⟩
    · rw [mergeP_look hfl hl0]
      dsimp only
      rw [errV_pos ef hl0] at hlk ⊢
      have HLK := Lib.hid hlk
      have neqi := run_neq_iface_nil2 ⟨(ef (lookP S [] l)).1, (ef (lookP S [] l)).2, none⟩
      clear h hR hF hG hz hrd hlk hft hfl hl0 hcg
      go_enter Tryz.func16, Tryz.ntmps16
      (repeat' (first | (go_big_may; fail) | go_values | go_skip | go_guarded | go_step | go_upon | go_back | dsimp only))
      refine HFT.out.mono ?_
      rintro e w1 ⟨rfl, rfl⟩
      (repeat' (first | (go_big_may; fail) | go_values | go_skip | go_guarded | go_step | go_upon | go_back | dsimp only))
      refine HLK.out.mono ?_
      rintro e w2 ⟨rfl, h2⟩
      have H2 := Lib.hid h2
      clear h2 HLK
      (repeat' (first | (go_big_may; fail) | go_values | go_skip | go_guarded | go_step | go_upon | go_back | dsimp only))
      go_ret2
      exact ⟨rfl, H2.out⟩
end
end Go.Proofs.YtadokkffmekndaaGreatDoor
namespace Go.Proofs.YtadokkffmekndaaGreatDoor
open Go.RowKit

section
variable {W w : World} {R : Thing} {b : Nat} {ef : Nat → Nat × Nat} {S : St} {ws : List (List UInt8)} {v : Value}
theorem sortP_lim {bu fan : Int} (h : bu < 1 ∨ 65536 < bu ∨ fan < 2 ∨ 64 < fan) : sortP S bu fan ws = (S, 0, 2) := by unfold sortP; rw [if_pos h]
theorem sortP_add {bu fan : Int} (h : ¬ (bu < 1 ∨ 65536 < bu ∨ fan < 2 ∨ 64 < fan)) {A : St × FmD × Nat} (hA : addP S (newF bu.toNat) ws = A) (hz : A.2.2 ≠ 0) : sortP S bu fan ws = (A.1, 0, A.2.2) := by
  subst hA
  unfold sortP
  rw [if_neg h]
  exact if_pos hz
theorem sortP_fin {bu fan : Int} (h : ¬ (bu < 1 ∨ 65536 < bu ∨ fan < 2 ∨ 64 < fan)) {A : St × FmD × Nat} (hA : addP S (newF bu.toNat) ws = A) (hz : A.2.2 = 0) {Q : St × FmD × List Nat × Nat} (hQ : finishP A.1 A.2.1 = Q) (hq : Q.2.2.2 ≠ 0) : sortP S bu fan ws = (Q.1, 0, Q.2.2.2) := by
  subst hA
  subst hQ
  unfold sortP
  rw [if_neg h]
  refine (if_neg (show ¬ (addP S (newF bu.toNat) ws).2.2 ≠ 0 by simpa using hz)).trans ?_
  exact if_pos hq
theorem sortP_go {bu fan : Int} (h : ¬ (bu < 1 ∨ 65536 < bu ∨ fan < 2 ∨ 64 < fan)) {A : St × FmD × Nat} (hA : addP S (newF bu.toNat) ws = A) (hz : A.2.2 = 0) {Q : St × FmD × List Nat × Nat} (hQ : finishP A.1 A.2.1 = Q) (hq : Q.2.2.2 = 0) : sortP S bu fan ws = mergeP Q.1 fan (mz Q.2.2.1) := by
  subst hA
  subst hQ
  unfold sortP
  rw [if_neg h]
  refine (if_neg (show ¬ (addP S (newF bu.toNat) ws).2.2 ≠ 0 by simpa using hz)).trans ?_
  exact if_neg (fun h => h hq)
theorem finish_len (S : St) (f : FmD) : (finishP S f).2.2.1.length ≤ (finishP S f).2.1.made.length := by
  unfold finishP
  split
  · exact Nat.zero_le _
  · split
    · exact Nat.le_refl _
    · split
      · exact Nat.le_refl _
      · exact Nat.zero_le _
set_option maxRecDepth 100000 in
set_option maxHeartbeats 3200000 in
theorem Sort_at9 (h : At W w (Both (StoreT b S) R)) (hR : Stable R) (hF : Fails W ef fails13) (hG : GoodS S) {bu fan : Int} (hb64 : inI64 bu) (hf64 : inI64 fan) (hv : ∃ ao cp, v = .slice ao ws.length cp ∧ ws.length ≤ 1099511627776) (hx : ∀ x ∈ ws, x.length ≤ 1099511627776) (hrd : ∀ w', At W w' R → RdRow w' v ws.length 1 (strs ws)) :
    Calls Tryz.prog 13 #[.pointer (some ⟨b, 0, none⟩), .int .i64 bu, .int .i64 fan, v] w fun e w' => e = .returned (.tuple #[.int .i64 (sortP S bu fan ws).2.1, errV ef (sortP S bu fan ws).2.2]) ∧ At W w' (Both (StoreT b (sortP S bu fan ws).1) R) := by
  have hst := (StoreT.stable b S).both hR
  have hnotf : ∀ (x : Bool) (w : World), (Op.unary .not (.bool x)).run Tryz.prog w = .ok (.bool (!x)) w := fun _ _ => rfl
  have neqn : ∀ wz : World, (binOp .neq tErr .nilIface .nilIface).run Tryz.prog wz = .ok (.bool false) wz := fun wz => neq_nil wz
  by_cases hbl : bu < 1 ∨ 65536 < bu
  · rw [sortP_lim (by omega)]
    dsimp only
    have hfn := FNew_no (b := b) (hF.below h.below) hb64 hbl
    rw [errV_pos ef (show (2 : Nat) ≠ 0 by decide)] at hfn ⊢
    have neqi := run_neq_iface_nil2 ⟨(ef 2).1, (ef 2).2, none⟩
    have HFN := Lib.hid hfn
    have H := Lib.hid h
    have HST := Lib.hid hst
    clear h hR hF hG hb64 hf64 hv hx hrd hst hfn hbl
    go_enter Tryz.func13, Tryz.ntmps13
    (repeat' (first | (go_big_may; fail) | go_values | go_skip | go_guarded | go_step | go_upon | go_back | dsimp only))
    refine HFN.out.mono ?_
    rintro e w1 ⟨rfl, hb1⟩
    have H1 := Lib.hid (H.out.mono HST.out hb1)
    clear hb1 HFN
    (repeat' (first | (go_big_may; fail) | go_values | go_skip | go_guarded | go_step | go_upon | go_back | dsimp only))
    go_ret2
    exact ⟨rfl, H1.out⟩
  · obtain ⟨bn, hbn⟩ : ∃ bn : Nat, bu = bn := ⟨bu.toNat, by omega⟩
    subst hbn
    have hbn2 : 1 ≤ bn ∧ bn ≤ 65536 := by omega
    have hfn := FNew_at (b := b) (ef := ef) h hst hbn2
    have HFN := Lib.hid hfn
    by_cases hfl : fan < 2 ∨ 64 < fan
    · rw [sortP_lim (by omega)]
      dsimp only
      rw [errV_pos ef (show (2 : Nat) ≠ 0 by decide)]
      have HFT := Lib.hid (fun w => mfit_calls fan w)
      have hd : decide (2 ≤ fan ∧ fan ≤ 64) = false := decide_eq_false (by omega)
      rw [hd] at HFT
      have HR := Lib.hid hR
      have HF := Lib.hid hF
      clear h hR hF hG hb64 hf64 hv hx hrd hst hfn hbl hfl hd hbn2
      go_enter Tryz.func13, Tryz.ntmps13
      (repeat' (first | (go_big_may; fail) | go_values | go_skip | go_guarded | go_step | go_upon | go_back | dsimp only))
      refine HFN.out.mono ?_
      rintro e w1 ⟨k, rfl, h1⟩
      have hcg := (HF.out.below h1.below).cell (2, 1) (by decide)
      have H1 := Lib.hid h1
      clear h1 HFN
      (repeat' (first | (go_big_may; fail) | go_values | go_skip | go_guarded | go_step | go_upon | go_back | dsimp only))
      refine (HFT.out _).mono ?_
      rintro e w2 ⟨rfl, rfl⟩
      (repeat' (first | (go_big_may; fail) | go_values | go_skip | go_guarded | go_step | go_upon | go_back | dsimp only))
      go_quiet (fail)
      (repeat' (first | (go_big_may; fail) | go_values | go_skip | go_guarded | go_step | go_upon | go_back | dsimp only))
      go_ret2
      exact ⟨rfl, (H1.out.drewN ((FoT.stable _ _ _ _).both ((StoreT.stable _ _).both HR.out)) _).drop⟩
    · have HFT := Lib.hid (fun w => mfit_calls fan w)
      have hd : decide (2 ≤ fan ∧ fan ≤ 64) = true := decide_eq_true (by omega)
      rw [hd] at HFT
      have hlim : ¬ ((bn : Int) < 1 ∨ 65536 < (bn : Int) ∨ fan < 2 ∨ 64 < fan) := by omega
      have hO : FOk S (newF bn) := newF_ok S hbn2
      have hF11 : Fails W ef fails11 := hF.less (by decide)
      have had := fun (k : Nat) (w1 : World) (h1 : At W w1 (Both (FoT k b ef (newF bn)) (Both (StoreT b S) R))) => Add_at (ws := ws) (v := v) h1 hR hF11 hG trivial hO hv hx hrd
      obtain ⟨k1, hc1, hc2⟩ := addP_keep hG trivial hO ws
      obtain ⟨A, hA⟩ : ∃ A, A = addP S (newF bn) ws := ⟨_, rfl⟩
      have HAE := Lib.hid (show addP S (newF (bn : Int).toNat) ws = A by rw [hA]; rfl)
      rw [← hA] at had k1
      by_cases hz : A.2.2 = 0
      · rw [hz, errV_zero] at had
        have hfi := fun (k : Nat) (w1 : World) (h1 : At W w1 (Both (FoT k b ef A.2.1) (Both (StoreT b A.1) R))) => Finish_at h1 hR hF11 k1.good trivial k1.ok
        obtain ⟨k2, hc3, hc4⟩ := finishP_keep k1.good trivial k1.ok
        obtain ⟨Q, hQ⟩ : ∃ Q, Q = finishP A.1 A.2.1 := ⟨_, rfl⟩
        rw [← hQ] at hfi k2 hc4
        have HAD := Lib.hid had
        by_cases hq : Q.2.2.2 = 0
        · rw [sortP_go hlim HAE.out hz hQ.symm hq]
          rw [hq, errV_zero] at hfi
          have hmm : ∀ z ∈ mz Q.2.2.1, inI64 z := fun z hz => by
            obtain ⟨n, hn, rfl⟩ := List.mem_map.1 hz
            have h1 := hc4 n hn
            have h2 := k2.good.sizes.2.2.2.1
            unfold inI64; omega
          have hml : Q.2.2.1.length ≤ 1099511627776 := by
            have h1 := k2.ok.few
            have h2 := k2.good.sizes.2.2.2.1
            have h3 : Q.2.2.1.length ≤ Q.2.1.made.length := by
              rw [hQ]
              exact finish_len A.1 A.2.1
            omega
          have hmg := fun (k : Nat) (w1 : World) (v1 : Value) (h1 : At W w1 (Both (RowT v1 (mz Q.2.2.1)) (Both (FoT k b ef Q.2.1) (Both (StoreT b Q.1) R)))) =>
            Merge_at (l := mz Q.2.2.1) (v := v1) (fan := fan) (h1.perm (show _ = Both (StoreT b Q.1) (Both (RowT v1 (mz Q.2.2.1)) (Both (FoT k b ef Q.2.1) R)) by ac_rfl)) ((RowT.stable _ _).both ((FoT.stable _ _ _ _).both hR)) hF k2.good hmm (by simpa [mz] using hml) hf64 (by obtain ⟨ao, cp, hv, _⟩ := own_shape h1.row; exact ⟨ao, cp, hv⟩) (fun w' h' => RdRow.of_own h'.row)
          have HFI := Lib.hid hfi
          have HMG := Lib.hid hmg
          generalize mergeP Q.1 fan (mz Q.2.2.1) = M at *
          clear h hR hF hF11 hG hb64 hf64 hv hx hrd hst hfn hbl hfl hd hbn2 hlim hO had k1 hc1 hc2 hA hz hfi k2 hc3 hc4 hQ hq hmm hml hmg HAE
          go_enter Tryz.func13, Tryz.ntmps13
          (repeat' (first | (go_big_may; fail) | go_values | go_skip | go_guarded | go_step | go_upon | go_back | dsimp only))
          refine HFN.out.mono ?_
          rintro e w1 ⟨k, rfl, h1⟩
          have H1 := Lib.hid h1
          clear h1 HFN
          (repeat' (first | (go_big_may; fail) | go_values | go_skip | go_guarded | go_step | go_upon | go_back | dsimp only))
          refine (HFT.out _).mono ?_
          rintro e w2 ⟨rfl, rfl⟩
          (repeat' (first | (go_big_may; fail) | go_values | go_skip | go_guarded | go_step | go_upon | go_back | dsimp only))
          refine (HAD.out k _ H1.out).mono ?_
          rintro e w3 ⟨rfl, h3⟩
          have H3 := Lib.hid h3
          clear h3 HAD H1
          (repeat' (first | (go_big_may; fail) | go_values | go_skip | go_guarded | go_step | go_upon | go_back | dsimp only))
          refine (HFI.out k w3 H3.out).mono ?_
          rintro e w4 ⟨v4, rfl, h4⟩
          have H4 := Lib.hid h4
          clear h4 HFI H3
          (repeat' (first | (go_big_may; fail) | go_values | go_skip | go_guarded | go_step | go_upon | go_back | dsimp only))
          refine (HMG.out k w4 v4 H4.out).mono ?_
          rintro e w5 ⟨rfl, h5⟩
          have H5 := Lib.hid (h5.perm (show _ = Both (RowT v4 (mz Q.2.2.1)) (Both (FoT k b ef Q.2.1) (Both (StoreT b M.1) R)) by ac_rfl))
          clear h5 HMG H4
          (repeat' (first | (go_big_may; fail) | go_values | go_skip | go_guarded | go_step | go_upon | go_back | dsimp only))
          go_ret2
          exact ⟨rfl, H5.out.drop.drop⟩
        · rw [sortP_fin hlim HAE.out hz hQ.symm hq]
          dsimp only
          rw [errV_pos ef hq] at hfi ⊢
          have neqi := run_neq_iface_nil2 ⟨(ef Q.2.2.2).1, (ef Q.2.2.2).2, none⟩
          have HFI := Lib.hid hfi
          clear h hR hF hF11 hG hb64 hf64 hv hx hrd hst hfn hbl hfl hd hbn2 hlim hO had k1 hc1 hc2 hA hz hfi k2 hc3 hc4 hQ hq HAE
          go_enter Tryz.func13, Tryz.ntmps13
          (repeat' (first | (go_big_may; fail) | go_values | go_skip | go_guarded | go_step | go_upon | go_back | dsimp only))
          refine HFN.out.mono ?_
          rintro e w1 ⟨k, rfl, h1⟩
          have H1 := Lib.hid h1
          clear h1 HFN
          (repeat' (first | (go_big_may; fail) | go_values | go_skip | go_guarded | go_step | go_upon | go_back | dsimp only))
          refine (HFT.out _).mono ?_
          rintro e w2 ⟨rfl, rfl⟩
          (repeat' (first | (go_big_may; fail) | go_values | go_skip | go_guarded | go_step | go_upon | go_back | dsimp only))
          refine (HAD.out k _ H1.out).mono ?_
          rintro e w3 ⟨rfl, h3⟩
          have H3 := Lib.hid h3
          clear h3 HAD H1
          (repeat' (first | (go_big_may; fail) | go_values | go_skip | go_guarded | go_step | go_upon | go_back | dsimp only))
          refine (HFI.out k w3 H3.out).mono ?_
          rintro e w4 ⟨v4, rfl, h4⟩
          have H4 := Lib.hid h4
          clear h4 HFI H3
          (repeat' (first | (go_big_may; fail) | go_values | go_skip | go_guarded | go_step | go_upon | go_back | dsimp only))
          go_ret2
          exact ⟨rfl, H4.out.drop.drop⟩
      · rw [sortP_add hlim HAE.out hz]
        dsimp only
        rw [errV_pos ef hz] at had ⊢
        have neqi := run_neq_iface_nil2 ⟨(ef A.2.2).1, (ef A.2.2).2, none⟩
        have HAD := Lib.hid had
        clear h hR hF hF11 hG hb64 hf64 hv hx hrd hst hfn hbl hfl hd hbn2 hlim hO had k1 hc1 hc2 hA hz HAE
        go_enter Tryz.func13, Tryz.ntmps13
        (repeat' (first | (go_big_may; fail) | go_values | go_skip | go_guarded | go_step | go_upon | go_back | dsimp only))
        refine HFN.out.mono ?_
        rintro e w1 ⟨k, rfl, h1⟩
        have H1 := Lib.hid h1
        clear h1 HFN
        (repeat' (first | (go_big_may; fail) | go_values | go_skip | go_guarded | go_step | go_upon | go_back | dsimp only))
        refine (HFT.out _).mono ?_
        rintro e w2 ⟨rfl, rfl⟩
        (repeat' (first | (go_big_may; fail) | go_values | go_skip | go_guarded | go_step | go_upon | go_back | dsimp only))
        refine (HAD.out k _ H1.out).mono ?_
        rintro e w3 ⟨rfl, h3⟩
        have H3 := Lib.hid h3
        clear h3 HAD H1
        (repeat' (first | (go_big_may; fail) | go_values | go_skip | go_guarded | go_step | go_upon | go_back | dsimp only))
        go_ret2
        exact ⟨rfl, H3.out.drop⟩
end
end Go.Proofs.YtadokkffmekndaaGreatDoor
namespace Go.Proofs.YtadokkffmekndaaGreatDoor
open Go.RowKit

theorem rd_cell {w : World} {g n : Nat} {cs : Array Value} {T : TypeId} (h : w.heap[g]? = some (.cells cs T (0, 0))) (hs : cs.size = n) (hn : n ≤ maxLen) : RdRow w (.slice (some ⟨g, 0, none⟩) n n) n 1 cs.toList :=
  ⟨by simpa using hs, _, _, rfl, Nat.le_refl _, hn, fun j u hu => ⟨g, 0, rfl, by rw [Nat.zero_add, cell_at h]; simpa using hu⟩⟩
theorem sort_good {S : St} (hG : GoodS S) (b fan : Int) (ws : List (List UInt8)) : GoodS (sortP S b fan ws).1 := by
  by_cases h : b < 1 ∨ 65536 < b ∨ fan < 2 ∨ 64 < fan
  · rw [sortP_lim h]; exact hG
  · rcases sort_end hG (b := b) (fan := fan) (by omega) (by omega) ws with ⟨_, m, _, h2⟩ | ⟨_, _, _, h2⟩
    · exact h2.good
    · exact h2
theorem wk_one : (sortP (newSt 100) 1 2 [[98], [97], [98]]).2 = (5, 0) := by kernel_rfl
theorem wk_two : (sortP (newSt 100) 1 2 [[98], [97], [98]]).1.runs = [(5, ⟨[1, 97, 1, 98], true⟩)] := by kernel_rfl
theorem wk_text : textP (sortP (newSt 100) 1 2 [[98], [97], [98]]).1 5 = [1, 97, 1, 98] := textP_of (sort_good (GoodS.new 100) 1 2 _) (p := (5, ⟨[1, 97, 1, 98], true⟩)) (by rw [wk_two]; simp) rfl
theorem wk_keys : (sortP (newSt 100) 1 2 [[98], [97], [98]]).1.keys = [5] := by unfold St.keys; rw [wk_two]; rfl
theorem fails13_all {W : World} {ef : Nat → Nat × Nat} (h : Fails W ef fails13) : Fails W ef fails12 := h.less (by decide)
set_option maxRecDepth 100000 in
set_option maxHeartbeats 3200000 in
theorem wakes10_calls {w : World} {ef : Nat → Nat × Nat} (hF : Fails w ef fails13) :
    Calls Tryz.prog 9 #[] w fun e w' => e = .returned (.bool true) ∧ Below w.heap.size w w' := by
  have h0 := At.nought (Below.refl w.heap.size w)
  have HN := Lib.hid (New_at h0 Stable.nought (c := 100) (by unfold inI64; omega))
  have HF := Lib.hid hF
  have eqn : ∀ wz : World, (binOp .eql tErr .nilIface .nilIface).run Tryz.prog wz = .ok (.bool true) wz := fun wz => eql_nil wz
  clear hF h0
  go_enter Tryz.func9, Tryz.ntmps9
  (repeat' (first | (go_big_may; fail) | go_values | go_skip | go_guarded | go_step | go_upon | go_back | dsimp only))
  refine HN.out.mono ?_
  rintro e w1 ⟨rfl, h1⟩
  generalize w.heap.size + 1 = b at *
  have h2 := (h1.newCell ((StoreT.stable _ _).both Stable.nought) #[.string ⟨#[98]⟩, .string ⟨#[97]⟩, .string ⟨#[98]⟩] 9).perm (show _ = Both (StoreT b (newSt 100)) (Both (CellT w1.heap.size #[.string ⟨#[98]⟩, .string ⟨#[97]⟩, .string ⟨#[98]⟩] 9) Nought) by ac_rfl)
  have hso := Sort_at9 (ws := [[98], [97], [98]]) (bu := 1) (fan := 2) (v := .slice (some ⟨w1.heap.size, 0, none⟩) 3 3) h2 ((CellT.stable _ _ _).both Stable.nought) HF.out (GoodS.new 100) (by unfold inI64; omega) (by unfold inI64; omega) ⟨_, _, rfl, by decide⟩ (by intro x hx; simp at hx; rcases hx with rfl | rfl | rfl <;> simp) (fun w' h' => rd_cell h'.cell.1 rfl (by unfold maxLen; decide))
  rw [wk_one] at hso
  dsimp only at hso
  rw [errV_zero] at hso
  have hg := sort_good (GoodS.new 100) 1 2 [[98], [97], [98]]
  have ht := wk_text
  have hk := wk_keys
  generalize (sortP (newSt 100) 1 2 [[98], [97], [98]]).1 = S2 at *
  have HSO := Lib.hid hso
  have HG := Lib.hid hg
  have HT := Lib.hid ht
  have HK := Lib.hid hk
  clear h1 h2 hso hg ht hk HN
  (repeat' (first | (go_big_may; fail) | go_values | go_skip | go_guarded | go_step | go_upon | go_back | dsimp only))
  refine HSO.out.mono ?_
  rintro e w2 ⟨rfl, h3⟩
  have htx := text_at h3 ((CellT.stable _ _ _).both Stable.nought) (fails13_all HF.out) HG.out (z := 5) (by unfold inI64; omega)
  rw [HT.out] at htx
  have HTX := Lib.hid htx
  clear htx h3 HSO
  (repeat' (first | (go_big_may; fail) | go_values | go_skip | go_guarded | go_step | go_upon | go_back | dsimp only))
  refine HTX.out.mono ?_
  rintro e w3 ⟨rfl, h4⟩
  have hlv := Live_at h4 ((CellT.stable _ _ _).both Stable.nought)
  have HLV := Lib.hid hlv
  clear hlv h4 HTX
  (repeat' (first | (go_big_may; fail) | go_values | go_skip | go_guarded | go_step | go_upon | go_back | dsimp only))
  refine HLV.out.mono ?_
  rintro e w4 ⟨v4, rfl, h5⟩
  rw [HK.out] at h5
  obtain ⟨ao, cp, rfl, _, _⟩ := own_shape h5.row
  have HB := Lib.hid h5.below
  clear h5 HLV
  (repeat' (first | (go_big_may; fail) | go_values | go_skip | go_guarded | go_step | go_upon | go_back | dsimp only))
  go_ret
  exact ⟨rfl, HB.out⟩
end Go.Proofs.YtadokkffmekndaaGreatDoor
namespace Go.Proofs.YtadokkffmekndaaGreatDoor
open Go.RowKit

theorem cap_goneZ : ∀ (l : List Int) (S : St), (goneZ S l).cap = S.cap
  | [], _ => rfl
  | z :: l, S => (cap_goneZ l _).trans (cap_remove S z)
theorem cap_loop (fan : Nat) : ∀ (n : Nat) (S : St) (l : List Int), (loopM fan n S l).1.cap = S.cap
  | 0, _, _ => rfl
  | n + 1, S, l => by
    unfold loopM
    split
    · rfl
    · split
      · exact (cap_goneZ _ _).trans (cap_written _ _)
      · exact (cap_loop fan n _ _).trans ((cap_goneZ _ _).trans (cap_written _ _))
theorem cap_merge (S : St) (fan : Int) (l : List Int) : (mergeP S fan l).1.cap = S.cap := by
  unfold mergeP
  split
  · rfl
  · split
    · rfl
    · split
      · exact cap_written _ _
      · exact cap_loop _ _ _ _
theorem cap_sort (S : St) (b fan : Int) (ws : List (List UInt8)) : (sortP S b fan ws).1.cap = S.cap := by
  unfold sortP
  split
  · rfl
  · split
    · exact cap_addP _ _ _
    · dsimp only
      split
      · exact (cap_finish _ _).trans (cap_addP _ _ _)
      · exact (cap_merge _ _ _).trans ((cap_finish _ _).trans (cap_addP _ _ _))
/-- With room, a sort of these leaves one run more. -/
theorem sort_room {S : St} (hG : GoodS S) {b fan : Int} (hb : 1 ≤ b ∧ b ≤ 65536) (hf : 2 ≤ fan ∧ fan ≤ 64) {L : List (List UInt8)} (hw : fits L = true) (hl : S.left = 0) (hc : S.used + 2 * wsum L ≤ S.cap) (hm : S.made + 2 * L.length + 2 ≤ 16777216) :
    ∃ (S' : St) (m : Nat), sortP S b fan L = (S', (m : Int), 0) ∧ MgI S.runs S' [(m, ofL L)] ∧ S'.cap = S.cap := by
  have h0 := sort_free hG hb hf L hw hl hc hm
  have h3 := cap_sort S b fan L
  rcases sort_end hG hb hf L with ⟨_, m, h1, h2⟩ | ⟨h1, _⟩
  · exact ⟨_, m, by rw [← h1, ← h0], h2, h3⟩
  · exact absurd h0 h1
theorem bulk_eachM {ss : List (List UInt8)} (h : ss.length + sumLen ss ≤ 1048576) : ss.length ≤ 1048576 ∧ ∀ x ∈ ss, x.length ≤ 1048576 := by
  refine ⟨by omega, fun x hx => ?_⟩
  have key : ∀ l : List (List UInt8), x ∈ l → x.length ≤ sumLen l := by
    intro l
    induction l with
    | nil => intro h; cases h
    | cons a l ih =>
      intro h
      have e : sumLen (a :: l) = a.length + sumLen l := by simp [sumLen]
      rw [e]
      rcases List.mem_cons.1 h with rfl | h
      · omega
      · have := ih h; omega
  have := key ss hx
  omega
end Go.Proofs.YtadokkffmekndaaGreatDoor
namespace Go.Proofs.YtadokkffmekndaaGreatDoor
open Go.RowKit

theorem withRun_left {S : St} {z : Int} {f : Nat × RunD → St × Nat} (hf : ∀ p, (f p).1.left ≤ S.left) : (withRun S z f).1.left ≤ S.left := by
  unfold withRun
  split
  · exact Nat.sub_le _ _
  · split
    · exact Nat.sub_le _ _
    · split
      · exact Nat.sub_le _ _
      · exact hf _
theorem left_append (S : St) (z : Int) (t : List UInt8) : (appendP S z t).1.left ≤ S.left := withRun_left fun p => by split <;> exact Nat.sub_le _ _
theorem left_seal (S : St) (z : Int) : (sealP S z).1.left ≤ S.left := withRun_left fun _ => Nat.sub_le _ _
theorem left_remove (S : St) (z : Int) : (removeP S z).1.left ≤ S.left := by
  unfold removeP
  split <;> exact Nat.le_refl _
theorem left_create (S : St) : (createP S).1.left ≤ S.left := by
  unfold createP
  split
  · exact Nat.sub_le _ _
  · split <;> exact Nat.sub_le _ _
theorem left_flush (S : St) (x : WrD) (n : Nat) : (flushP S x n).1.left ≤ S.left := by
  unfold flushP
  split <;> exact left_append _ _ _
theorem left_putL : ∀ (n : Nat) (S : St) (x : WrD), (putL n S x).1.left ≤ S.left
  | 0, _, _ => Nat.le_refl _
  | n + 1, S, x => by
    unfold putL
    split
    · split
      · exact Nat.le_trans (left_putL n _ _) (left_flush _ _ _)
      · exact left_flush _ _ _
    · exact Nat.le_refl _
theorem left_put (S : St) (x : WrD) (ss : List (List UInt8)) : (putP S x ss).1.left ≤ S.left := by
  unfold putP
  split
  · exact Nat.le_refl _
  · split
    · exact Nat.le_refl _
    · exact left_putL _ _ _
theorem left_rest (S : St) (x : WrD) : (restP S x).1.left ≤ S.left := by
  unfold restP
  split
  · exact Nat.le_refl _
  · exact left_flush _ _ _
theorem left_close (S : St) (x : WrD) : (closeP S x).1.left ≤ S.left := by
  unfold closeP
  split
  · exact Nat.le_refl _
  · split
    · exact left_rest _ _
    · split <;> exact Nat.le_trans (left_seal _ _) (left_rest _ _)
theorem left_drop (S : St) (x : WrD) : (dropP S x).1.left ≤ S.left := by
  unfold dropP
  split
  · exact Nat.le_refl _
  · exact left_remove _ _
theorem left_written (S : St) (L : List (List UInt8)) : (writtenP S L).1.left ≤ S.left := by
  unfold writtenP
  split
  · exact left_create _
  · dsimp only
    split
    · exact Nat.le_trans (left_drop _ _) (Nat.le_trans (left_put _ _ _) (left_create _))
    · split
      · exact Nat.le_trans (left_drop _ _) (Nat.le_trans (left_close _ _) (Nat.le_trans (left_put _ _ _) (left_create _)))
      · show (closeP _ _).1.left ≤ _
        exact Nat.le_trans (left_close _ _) (Nat.le_trans (left_put _ _ _) (left_create _))
theorem left_gone : ∀ (l : List Nat) (S : St), (goneP S l).left ≤ S.left
  | [], _ => Nat.le_refl _
  | n :: l, S => Nat.le_trans (left_gone l (removeP S n).1) (left_remove _ _)
theorem left_fwrite (S : St) (f : FmD) : (fwriteP S f).1.left ≤ S.left := by
  unfold fwriteP
  split
  · exact left_written _ _
  · show (goneP _ _).left ≤ _
    exact Nat.le_trans (left_gone _ _) (left_written _ _)
theorem left_addL : ∀ (ws : List (List UInt8)) (S : St) (f : FmD), (addL S f ws).1.left ≤ S.left
  | [], _, _ => by rw [addL_nil]; exact Nat.le_refl _
  | x :: ws, S, f => by
    rw [addL_cons]
    split
    · split
      · exact Nat.le_trans (left_addL ws _ _) (left_fwrite _ _)
      · exact left_fwrite _ _
    · exact left_addL ws _ _
theorem left_addP (S : St) (f : FmD) (ws : List (List UInt8)) : (addP S f ws).1.left ≤ S.left := by
  unfold addP
  split
  · exact Nat.le_refl _
  · split
    · exact Nat.le_refl _
    · exact left_addL _ _ _
theorem left_finish (S : St) (f : FmD) : (finishP S f).1.left ≤ S.left := by
  unfold finishP
  split
  · exact Nat.le_refl _
  · split
    · exact Nat.le_refl _
    · split <;> exact left_fwrite _ _
theorem left_goneZ : ∀ (l : List Int) (S : St), (goneZ S l).left ≤ S.left
  | [], _ => Nat.le_refl _
  | z :: l, S => Nat.le_trans (left_goneZ l _) (left_remove S z)
theorem left_loop (fan : Nat) : ∀ (n : Nat) (S : St) (l : List Int), (loopM fan n S l).1.left ≤ S.left
  | 0, _, _ => Nat.le_refl _
  | n + 1, S, l => by
    unfold loopM
    split
    · exact Nat.le_refl _
    · split
      · exact Nat.le_trans (left_goneZ _ _) (left_written _ _)
      · exact Nat.le_trans (left_loop fan n _ _) (Nat.le_trans (left_goneZ _ _) (left_written _ _))
theorem left_merge (S : St) (fan : Int) (l : List Int) : (mergeP S fan l).1.left ≤ S.left := by
  unfold mergeP
  split
  · exact Nat.le_refl _
  · split
    · exact Nat.le_refl _
    · split
      · exact left_written _ _
      · exact left_loop _ _ _ _
theorem left_sort (S : St) (b fan : Int) (ws : List (List UInt8)) : (sortP S b fan ws).1.left ≤ S.left := by
  unfold sortP
  split
  · exact Nat.le_refl _
  · split
    · exact left_addP _ _ _
    · dsimp only
      split
      · exact Nat.le_trans (left_finish _ _) (left_addP _ _ _)
      · exact Nat.le_trans (left_merge _ _ _) (Nat.le_trans (left_finish _ _) (left_addP _ _ _))
theorem made_goneZ : ∀ (l : List Int) (S : St), (goneZ S l).made = S.made
  | [], _ => rfl
  | z :: l, S => (made_goneZ l _).trans (made_remove S z)
theorem made_loop (fan : Nat) : ∀ (n : Nat) (S : St) (l : List Int), (loopM fan n S l).1.made ≤ S.made + n
  | 0, _, _ => Nat.le_refl _
  | n + 1, S, l => by
    unfold loopM
    have h := written_made S (allP S (l.take fan))
    split
    · exact Nat.le_add_right _ _
    · split
      · show (goneZ _ _).made ≤ _
        rw [made_goneZ]; omega
      · have h2 := made_loop fan n (goneZ (writtenP S (allP S (l.take fan))).1 (l.take fan)) (l.drop fan ++ [((writtenP S (allP S (l.take fan))).2.1 : Int)])
        rw [made_goneZ] at h2
        omega
theorem made_merge (S : St) (fan : Int) (l : List Int) : (mergeP S fan l).1.made ≤ S.made + l.length + 1 := by
  unfold mergeP
  split
  · dsimp only; omega
  · split
    · dsimp only; omega
    · split
      · have := written_made S []; dsimp only; omega
      · have := made_loop fan.toNat l.length S l; omega
theorem made_goneP : ∀ (l : List Nat) (S : St), (goneP S l).made = S.made
  | [], _ => rfl
  | n :: l, S => (made_goneP l (removeP S n).1).trans (made_remove S n)
theorem made_fwrite (S : St) (f : FmD) : (fwriteP S f).1.made ≤ S.made + 1 := by
  have h := written_made S (ofL f.held)
  unfold fwriteP
  split
  · exact h
  · show (goneP _ _).made ≤ _
    rw [made_goneP]; exact h
theorem made_addL : ∀ (ws : List (List UInt8)) (S : St) (f : FmD), (addL S f ws).1.made ≤ S.made + ws.length
  | [], _, _ => by rw [addL_nil]; exact Nat.le_refl _
  | x :: ws, S, f => by
    rw [addL_cons, List.length_cons]
    have h := made_fwrite S { f with held := f.held ++ [x] }
    split
    · split
      · have := made_addL ws (fwriteP S { f with held := f.held ++ [x] }).1 (fwriteP S { f with held := f.held ++ [x] }).2.1
        omega
      · omega
    · have := made_addL ws S { f with held := f.held ++ [x] }
      omega
theorem made_addP (S : St) (f : FmD) (ws : List (List UInt8)) : (addP S f ws).1.made ≤ S.made + ws.length := by
  unfold addP
  split
  · exact Nat.le_add_right _ _
  · split
    · exact Nat.le_add_right _ _
    · exact made_addL _ _ _
theorem made_finish (S : St) (f : FmD) : (finishP S f).1.made ≤ S.made + 1 := by
  have h := made_fwrite S f
  unfold finishP
  split
  · exact Nat.le_add_right _ _
  · split
    · exact Nat.le_add_right _ _
    · split <;> exact h
theorem made_sort {S : St} (hG : GoodS S) (b fan : Int) (ws : List (List UInt8)) : (sortP S b fan ws).1.made ≤ 2 * S.made + 2 * ws.length + 3 := by
  unfold sortP
  split
  · dsimp only; omega
  · rename_i hl
    have hO : FOk S ⟨[], b.toNat, [], 0⟩ := new_fok (by omega)
    have h1 := made_addP S ⟨[], b.toNat, [], 0⟩ ws
    obtain ⟨k1, _⟩ := addP_keep hG trivial hO ws
    split
    · dsimp only; omega
    · obtain ⟨k2, _⟩ := finishP_keep k1.good trivial k1.ok
      have h2 := made_finish (addP S ⟨[], b.toNat, [], 0⟩ ws).1 (addP S ⟨[], b.toNat, [], 0⟩ ws).2.1
      have h3 := finish_len (addP S ⟨[], b.toNat, [], 0⟩ ws).1 (addP S ⟨[], b.toNat, [], 0⟩ ws).2.1
      have h4 := k2.ok.few
      dsimp only
      split
      · dsimp only; omega
      · have h5 := made_merge (finishP (addP S ⟨[], b.toNat, [], 0⟩ ws).1 (addP S ⟨[], b.toNat, [], 0⟩ ws).2.1).1 fan ((finishP (addP S ⟨[], b.toNat, [], 0⟩ ws).1 (addP S ⟨[], b.toNat, [], 0⟩ ws).2.1).2.2.1.map fun (n : Nat) => (n : Int))
        rw [List.length_map] at h5
        omega
theorem used_runM : ∀ (l : List (Nat × List (List UInt8))), (∀ q ∈ l, fits q.2 = true) → usedOf (l.map runM) ≤ (l.map fun q => wsum q.2).sum
  | [], _ => by simp [usedOf]
  | a :: l, ha => by
    rw [List.map_cons, usedOf_cons, List.map_cons, List.sum_cons]
    have := frame_wsum (ha a List.mem_cons_self)
    have := used_runM l fun q hq => ha q (List.mem_cons_of_mem _ hq)
    show (frameL a.2).length + _ ≤ _
    omega
/-- Sorted runs of these, in a store with room. -/
structure SrtK (S : St) (M : List (Nat × List (List UInt8))) (m : Nat) : Prop where
  runs : MgI [] S M
  left : S.left = 0
  cap : S.cap = 67108864
  made : S.made ≤ m
  sum : (M.map fun q => wsum q.2).sum ≤ 4000000
theorem SrtK.used {S : St} {M : List (Nat × List (List UInt8))} {m : Nat} (h : SrtK S M m) : S.used ≤ 4000000 := by
  rw [h.runs.good.used, h.runs.runs, List.nil_append]
  exact Nat.le_trans (used_runM M fun q hq => (h.runs.fit q hq).1) h.sum
theorem SrtK.new : SrtK (newSt 67108864) [] 0 := ⟨⟨GoodS.new _, rfl, by simp⟩, rfl, rfl, Nat.le_refl _, by simp⟩
theorem SrtK.sort {S : St} {M : List (Nat × List (List UInt8))} {m : Nat} (h : SrtK S M m) {L : List (List UInt8)} (hf : fits L = true) (hw : wsum L ≤ 1048833) (hs : (M.map fun q => wsum q.2).sum + wsum L ≤ 4000000) (hm : m ≤ 3400000) {b fan : Int} (hb : 1 ≤ b ∧ b ≤ 65536) (hfn : 2 ≤ fan ∧ fan ≤ 64) :
    ∃ (S' : St) (k : Nat), sortP S b fan L = (S', (k : Int), 0) ∧ SrtK S' (M ++ [(k, ofL L)]) (2 * m + 1050000) ∧ k ≤ 16777216 ∧ textP S' k = frameL (ofL L) := by
  have hl := wsum_len L
  have hu := h.used
  have hmd := h.made
  obtain ⟨S', k, h1, h2, h3⟩ := sort_room h.runs.good hb hfn hf h.left (by rw [h.cap]; omega) (by omega)
  have h4 := left_sort S b fan L
  have h5 := made_sort h.runs.good b fan L
  rw [h1] at h4 h5
  have hr : S'.runs = [] ++ (M ++ [(k, ofL L)]).map runM := by rw [h2.runs, h.runs.runs]; simp
  have hk := (h2.good.inside (k, ⟨frameL (ofL L), true⟩) (by rw [hr]; simp [runM])).2
  have hk2 := h2.good.sizes.2.2.2.1
  refine ⟨S', k, h1, ⟨⟨h2.good, hr, fun q hq => ?_⟩, by have := h.left; dsimp only at h4; omega, h3.trans h.cap, by dsimp only at h5; omega, ?_⟩, by dsimp only at hk; omega, textP_of h2.good (p := (k, ⟨frameL (ofL L), true⟩)) (by rw [hr]; simp [runM]) rfl⟩
  · rcases List.mem_append.1 hq with hq | hq
    · exact h.runs.fit q hq
    · rw [List.mem_singleton.1 hq]; exact ⟨fits_ofL hf, ofL_rises L⟩
  · rw [List.map_append, List.sum_append]
    have := wsum_of L
    simp only [List.map_cons, List.map_nil, List.sum_cons, List.sum_nil]
    omega
/-- One round takes all of the list. -/
theorem merge_once {S : St} (hG : GoodS S) {l : List Int} {fan : Int} (hf : 2 ≤ fan ∧ fan ≤ 64) (h2 : 2 ≤ l.length) (hk : (l.length : Int) ≤ fan) (hl : LokP S l) (hlf : S.left = 0) (hc : S.used + (frameL (allP S l)).length ≤ S.cap) (hm : S.made < 16777216) :
    ∃ S', mergeP S fan l = (S', ((S.made + 1 : Nat) : Int), 0) ∧ GoodS S' ∧ S'.runs = (S.runs ++ [(S.made + 1, (⟨frameL (allP S l), true⟩ : RunD))]).filter (fun q => decide ((q.1 : Int) ∉ l)) ∧ S'.left = 0 ∧ S'.cap = S.cap ∧ S'.made = S.made + 1 := by
  have hlk : lookP S [] l = 0 := look_zero l [] (fun z hz => by
    obtain ⟨n, T, rfl, hm⟩ := hl.2 z hz
    exact ((hasT_of hG hm).read (a := 0) (m := 0) (by omega)).1) (by simpa using hl.1)
  obtain ⟨w1, w2⟩ := written_free (L := allP S l) (n := 0) hG (allP_fits S l) ⟨hlf, by simpa using hc⟩ hm
  obtain ⟨g1, _, ⟨_, g2, g3, g4⟩ | ⟨g2, _⟩⟩ := written_top (L := allP S l) hG (allP_fits S l)
  · obtain ⟨k1, k2, k3, k4, _, k6⟩ := goneZ_good l g1
    obtain ⟨n, hn⟩ : ∃ n, l.length = n + 2 := ⟨l.length - 2, by omega⟩
    refine ⟨goneZ (writtenP S (allP S l)).1 l, ?_, k1, by rw [k3, g4], k6.trans w2.left, k4.trans (cap_written _ _), k2.trans g3⟩
    unfold mergeP
    rw [if_neg (by omega), if_neg (by rw [hlk]; simp), if_neg (by intro e; rw [e] at h2; simp at h2), hn]
    have ht : l.take fan.toNat = l := List.take_of_length_le (by omega)
    have hd : l.drop fan.toNat = [] := List.drop_eq_nil_of_le (by omega)
    rw [loopM, if_neg (by omega), ht, if_neg (by rw [w1]; simp), hd, g2, List.nil_append, loopM, if_pos (by simp)]
    rfl
  · exact absurd w1 g2
theorem merge_alone {S : St} (hG : GoodS S) {r : Nat} {t : List UInt8} (hm : (r, (⟨t, true⟩ : RunD)) ∈ S.runs) {fan : Int} (hf : 2 ≤ fan ∧ fan ≤ 64) : mergeP S fan [(r : Int)] = (S, (r : Int), 0) := by
  have hlk : lookP S [] [(r : Int)] = 0 := look_zero _ [] (fun z hz => by
    rw [List.mem_singleton.1 hz]
    exact ((hasT_of hG hm).read (a := 0) (m := 0) (by omega)).1) (by simp)
  unfold mergeP
  rw [if_neg (by omega), if_neg (by rw [hlk]; simp), if_neg (by simp)]
  show loopM fan.toNat 1 S [(r : Int)] = _
  rw [loopM, if_pos (by simp)]
  rfl
section
variable {S : St} {k0 k1 k2 m : Nat} {A0 A1 A2 : List (List UInt8)}
theorem SrtK.ne (h : SrtK S [(k0, ofL A0), (k1, ofL A1), (k2, ofL A2)] m) : k0 < k1 ∧ k1 < k2 ∧ k2 ≤ S.made ∧ 1 ≤ k0 := by
  have h1 := h.runs.rise
  simp only [List.nil_append, List.map_cons, List.map_nil, List.pairwise_cons, List.mem_cons, List.not_mem_nil, or_false, forall_eq_or_imp, forall_eq] at h1
  have h2 := h.runs.good.inside (runM (k2, ofL A2)) (by rw [h.runs.runs]; simp)
  have h3 := h.runs.good.inside (runM (k0, ofL A0)) (by rw [h.runs.runs]; simp)
  exact ⟨h1.1.1, h1.2.1, h2.2, h3.1⟩
theorem SrtK.mem (h : SrtK S [(k0, ofL A0), (k1, ofL A1), (k2, ofL A2)] m) : (k0, (⟨frameL (ofL A0), true⟩ : RunD)) ∈ S.runs ∧ (k1, (⟨frameL (ofL A1), true⟩ : RunD)) ∈ S.runs ∧ (k2, (⟨frameL (ofL A2), true⟩ : RunD)) ∈ S.runs := by
  rw [h.runs.runs]
  simp [runM]
theorem frame_all {S : St} {l : List Int} {U : List (List UInt8)} (h : allP S l = ofL U) {n : Nat} (hn : wsum U ≤ n) : (frameL (allP S l)).length ≤ n := by
  have h1 := frame_wsum (allP_fits S l)
  rw [h] at h1
  have h2 := wsum_of U
  rw [h]
  omega
theorem ofL_three (A0 A1 A2 : List (List UInt8)) : ofL ([ofL A0, ofL A1, ofL A2] : List (List (List UInt8))).flatten = ofL (A0 ++ A1 ++ A2) :=
  RisesL.ext (ofL_rises _) (ofL_rises _) fun x => by
    rw [ofL_mem, ofL_mem]
    simp only [List.flatten_cons, List.flatten_nil, List.append_nil, List.mem_append, ofL_mem, or_assoc]
theorem ofL_back (A0 A1 A2 : List (List UInt8)) : ofL ([ofL ([ofL A2, ofL A1] : List (List (List UInt8))).flatten, ofL A0] : List (List (List UInt8))).flatten = ofL (A0 ++ A1 ++ A2) :=
  RisesL.ext (ofL_rises _) (ofL_rises _) fun x => by
    rw [ofL_mem, ofL_mem]
    simp only [List.flatten_cons, List.flatten_nil, List.append_nil, List.mem_append, ofL_mem]
    constructor
    · rintro ((h | h) | h)
      · exact .inr h
      · exact .inl (.inr h)
      · exact .inl (.inl h)
    · rintro ((h | h) | h)
      · exact .inr h
      · exact .inl (.inr h)
      · exact .inl (.inl h)
theorem wsum_three (h : SrtK S [(k0, ofL A0), (k1, ofL A1), (k2, ofL A2)] m) : wsum (ofL A0) + wsum (ofL A1) + wsum (ofL A2) ≤ 4000000 := by
  have := h.sum
  simp only [List.map_cons, List.map_nil, List.sum_cons, List.sum_nil] at this
  omega
theorem again_s (h : SrtK S [(k0, ofL A0), (k1, ofL A1), (k2, ofL A2)] m) (hm : m ≤ 16000000) :
    ∃ (S' : St) (r : Nat), mergeP S 3 [(k0 : Int), (k1 : Int), (k2 : Int)] = (S', (r : Int), 0) ∧ GoodS S' ∧ S'.runs = [(r, ⟨frameL (ofL (A0 ++ A1 ++ A2)), true⟩)] ∧ r ≤ 16777216 := by
  obtain ⟨n1, n2, n3, n4⟩ := h.ne
  obtain ⟨m0, m1, m2⟩ := h.mem
  have hu := h.used
  have hw := wsum_three h
  have hmd := h.made
  have s0 := h.runs.stands (q := (k0, ofL A0)) (by simp)
  have s1 := h.runs.stands (q := (k1, ofL A1)) (by simp)
  have s2 := h.runs.stands (q := (k2, ofL A2)) (by simp)
  have hall : allP S [(k0 : Int), (k1 : Int), (k2 : Int)] = ofL (A0 ++ A1 ++ A2) := by
    unfold allP
    simp only [List.map_cons, List.map_nil]
    dsimp only at s0 s1 s2
    rw [s0, s1, s2, ofL_three]
  have hal2 : allP S [(k0 : Int), (k1 : Int), (k2 : Int)] = ofL ([ofL A0, ofL A1, ofL A2] : List (List (List UInt8))).flatten := by rw [hall, ofL_three]
  have hwf : wsum ([ofL A0, ofL A1, ofL A2] : List (List (List UInt8))).flatten ≤ 4000000 := by
    simp only [List.flatten_cons, List.flatten_nil, List.append_nil, wsum_append]
    omega
  have hfr := frame_all hal2 hwf
  obtain ⟨S', e1, e2, e3, _, _, e6⟩ := merge_once h.runs.good (fan := 3) (by omega) (l := [(k0 : Int), (k1 : Int), (k2 : Int)]) (by simp) (by simp) ⟨by simp; omega, by
    intro z hz
    simp only [List.mem_cons, List.not_mem_nil, or_false] at hz
    rcases hz with rfl | rfl | rfl
    · exact ⟨_, _, rfl, m0⟩
    · exact ⟨_, _, rfl, m1⟩
    · exact ⟨_, _, rfl, m2⟩⟩ h.left (by rw [h.cap]; omega) (by omega)
  refine ⟨S', S.made + 1, e1, e2, ?_, by omega⟩
  rw [e3, h.runs.runs, hall]
  have q0 : ¬ ((S.made + 1 : Nat) : Int) = k0 := by omega
  have q1 : ¬ ((S.made + 1 : Nat) : Int) = k1 := by omega
  have q2 : ¬ ((S.made + 1 : Nat) : Int) = k2 := by omega
  simp [runM, List.filter_cons]
  omega
theorem again_t (h : SrtK S [(k0, ofL A0), (k1, ofL A1), (k2, ofL A2)] m) (hm : m ≤ 16000000) :
    ∃ (S' : St) (r : Nat), mergeP S 2 [(k2 : Int), (k1 : Int)] = (S', (r : Int), 0) ∧ GoodS S' ∧ r ≤ 16777216 ∧ ∃ (S'' : St) (r' : Nat), mergeP S' 2 [(r : Int), (k0 : Int)] = (S'', (r' : Int), 0) ∧ GoodS S'' ∧ S''.runs = [(r', ⟨frameL (ofL (A0 ++ A1 ++ A2)), true⟩)] ∧ r' ≤ 16777216 := by
  obtain ⟨n1, n2, n3, n4⟩ := h.ne
  obtain ⟨m0, m1, m2⟩ := h.mem
  have hu := h.used
  have hw := wsum_three h
  have hmd := h.made
  have f0 := (h.runs.fit (k0, ofL A0) (by simp)).1
  have s0 := h.runs.stands (q := (k0, ofL A0)) (by simp)
  have s1 := h.runs.stands (q := (k1, ofL A1)) (by simp)
  have s2 := h.runs.stands (q := (k2, ofL A2)) (by simp)
  have hall : allP S [(k2 : Int), (k1 : Int)] = ofL ([ofL A2, ofL A1] : List (List (List UInt8))).flatten := by
    unfold allP
    simp only [List.map_cons, List.map_nil]
    dsimp only at s1 s2
    rw [s1, s2]
  have hwf : wsum ([ofL A2, ofL A1] : List (List (List UInt8))).flatten ≤ 4000000 := by
    simp only [List.flatten_cons, List.flatten_nil, List.append_nil, wsum_append]
    omega
  have hfr := frame_all hall hwf
  have hfa := allP_fits S [(k2 : Int), (k1 : Int)]
  obtain ⟨S', e1, e2, e3, e4, e5, e6⟩ := merge_once h.runs.good (fan := 2) (by omega) (l := [(k2 : Int), (k1 : Int)]) (by simp) (by simp) ⟨by simp; omega, by
    intro z hz
    simp only [List.mem_cons, List.not_mem_nil, or_false] at hz
    rcases hz with rfl | rfl
    · exact ⟨_, _, rfl, m2⟩
    · exact ⟨_, _, rfl, m1⟩⟩ h.left (by rw [h.cap]; omega) (by omega)
  have hr : S'.runs = [(k0, ⟨frameL (ofL A0), true⟩), (S.made + 1, ⟨frameL (allP S [(k2 : Int), (k1 : Int)]), true⟩)] := by
    rw [e3, h.runs.runs]
    show List.filter _ ((k0, (⟨frameL (ofL A0), true⟩ : RunD)) :: (k1, (⟨frameL (ofL A1), true⟩ : RunD)) :: (k2, (⟨frameL (ofL A2), true⟩ : RunD)) :: [(S.made + 1, (⟨frameL (allP S [(k2 : Int), (k1 : Int)]), true⟩ : RunD))]) = _
    rw [List.filter_cons_of_pos (by simp only [List.mem_cons, List.not_mem_nil, or_false, decide_eq_true_eq]; omega), List.filter_cons_of_neg (by simp), List.filter_cons_of_neg (by simp), List.filter_cons_of_pos (by simp only [List.mem_cons, List.not_mem_nil, or_false, decide_eq_true_eq]; omega)]
    rfl
  have t0 : standsP S' (k0 : Int) = ofL A0 := standsP_of e2 (by rw [hr]; simp) f0 (ofL_rises _)
  have t1 : standsP S' ((S.made + 1 : Nat) : Int) = allP S [(k2 : Int), (k1 : Int)] := standsP_of e2 (by rw [hr]; simp) hfa (by rw [hall]; exact ofL_rises _)
  have hall2 : allP S' [((S.made + 1 : Nat) : Int), (k0 : Int)] = ofL ([ofL ([ofL A2, ofL A1] : List (List (List UInt8))).flatten, ofL A0] : List (List (List UInt8))).flatten := by
    unfold allP
    simp only [List.map_cons, List.map_nil]
    rw [t0, t1, hall]
  have hwf2 : wsum ([ofL ([ofL A2, ofL A1] : List (List (List UInt8))).flatten, ofL A0] : List (List (List UInt8))).flatten ≤ 8000000 := by
    have := wsum_of ([ofL A2, ofL A1] : List (List (List UInt8))).flatten
    simp only [List.flatten_cons, List.flatten_nil, List.append_nil, wsum_append] at this hwf ⊢
    omega
  have hfr2 := frame_all hall2 hwf2
  have hu2 : S'.used ≤ 8000000 := by
    rw [e2.used, hr]
    have h1 : (frameL (ofL A0)).length ≤ wsum (ofL A0) := frame_wsum f0
    simp [usedOf]
    omega
  obtain ⟨S'', g1, g2, g3, _, _, g6⟩ := merge_once e2 (fan := 2) (by omega) (l := [((S.made + 1 : Nat) : Int), (k0 : Int)]) (by simp) (by simp) ⟨by simp; omega, by
    intro z hz
    simp only [List.mem_cons, List.not_mem_nil, or_false] at hz
    rcases hz with rfl | rfl
    · exact ⟨S.made + 1, frameL (allP S [(k2 : Int), (k1 : Int)]), rfl, by rw [hr]; simp⟩
    · exact ⟨k0, frameL (ofL A0), rfl, by rw [hr]; simp⟩⟩ e4 (by rw [e5, h.cap]; omega) (by omega)
  refine ⟨S', S.made + 1, e1, e2, by omega, S'', S'.made + 1, g1, g2, ?_, by omega⟩
  rw [g3, hr, hall2, ofL_back]
  simp [List.filter_cons]
  omega
end
end Go.Proofs.YtadokkffmekndaaGreatDoor
