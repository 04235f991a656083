/- walk.Shape walked: an automaton is gone through in the order of its numbers. · The document's Shape walked: an automaton is gone through in the order of its numbers. -/
import Derived.Test.YtcbdncjknpdnbaaWkRef
import Derived.Test.YtcbdncjknpdnbaaStill
import Derived.Deep.DeepCutAuto
namespace Go.Proofs.Ytcbdncjknpdnbaa
section
open Go.RowKit

abbrev tLk : TypeId := 120
abbrev tBy : TypeId := 5
/-- The states that are marked as done. -/
def doneL (sl : List UInt8) : List Bool := sl.map fun c => c == 2
theorem doneL_len (sl : List UInt8) : (doneL sl).length = sl.length := by simp [doneL]
theorem doneL_get {sl : List UInt8} {i : Nat} {c : UInt8} (h : sl[i]? = some c) : (doneL sl).getD i false = (c == 2) := by simp [doneL, h]
theorem doneL_two (sl : List UInt8) (i : Nat) : doneL (sl.set i 2) = (doneL sl).set i true := by simp [doneL, List.map_set]
theorem doneL_one {sl : List UInt8} {i : Nat} (h : (doneL sl).getD i false = false) : doneL (sl.set i 1) = doneL sl := by
  apply List.ext_getElem?
  intro j
  by_cases hj : i = j
  · subst hj
    by_cases hl : i < sl.length
    · simp only [doneL, List.getElem?_map, List.getElem?_set_self hl, Option.map_some]
      rw [doneL_get (List.getElem?_eq_getElem hl)] at h
      rw [List.getElem?_eq_getElem hl]
      simp [h]
    · rw [List.getElem?_eq_none (by simp [doneL]; omega), List.getElem?_eq_none (by simp [doneL]; omega)]
  · simp [doneL, List.getElem?_set_ne hj]
theorem u8_ne {c : UInt8} (h : ¬ c = 2) : ((c.toNat : Int) == 2) = false := by
  rw [beq_eq_false_iff_ne]
  intro e
  apply h
  have e2 : c.toNat = (2 : UInt8).toNat := by
    have : (2 : UInt8).toNat = 2 := rfl
    omega
  exact UInt8.toNat_inj.1 e2
/-- What visit answers. -/
def VisAns (o : Option (Nat × List Bool)) (e : Ending) (nx : Nat) (sl : List UInt8) : Prop :=
  match o with
  | none => e = .returned (.bool false)
  | some s => e = .returned (.bool true) ∧ nx = s.1 ∧ doneL sl = s.2
/-- The look in memory. -/
abbrev LookG (kl g N : Nat) (va : Value) (nx : Nat) (sl : List UInt8) (R : Thing) : Thing :=
  Both (CellT kl #[va, .int .i64 nx, .slice (some ⟨g, 0, none⟩) N N] tLk) (Both (RowG tBy 1 (.slice (some ⟨g, 0, none⟩) N N) N (bvs sl)) R)
theorem LookG.stable {kl g N : Nat} {va : Value} {nx : Nat} {sl : List UInt8} {R : Thing} (h : Stable R) : Stable (LookG kl g N va nx sl R) := (CellT.stable _ _ _).both ((RowG.stable _ _ _ _ _).both h)

set_option maxRecDepth 100000 in
set_option maxHeartbeats 6400000 in
theorem visit_at {W : World} {A : List Sta} {va : Value} (hA : RdAut W va A) (hl : A.length ≤ 1048576 ∧ edgesN A ≤ 1048576) (kl g : Nat) (k : Nat) : ∀ (w : World) (nx : Nat) (sl : List UInt8) (n : Int) (R : Thing),
    At W w (LookG kl g A.length va nx sl R) → Stable R → VInv A (nx, doneL sl) → VTr A (nx, doneL sl) → A.length - nx < k →
    Calls Try.prog 54 #[.pointer (some ⟨kl, 0, none⟩), .int .i64 n] w fun e w' => ∃ nx' sl', VisAns (visN A k (nx, doneL sl) n) e nx' sl' ∧ At W w' (LookG kl g A.length va nx' sl' R) := by
  induction k with
  | zero => intro w nx sl n R _ _ _ _ h; omega
  | succ k ih =>
    intro w nx sl n R h hR hi ht hk
    have hsl : sl.length = A.length := by have := hi.len; rwa [doneL_len] at this
    obtain ⟨c0, f0, hkl⟩ := h.cellF (o := 0) rfl
    obtain ⟨c1, f1, _⟩ := h.cellF (o := 1) rfl
    obtain ⟨c2, f2, _⟩ := h.cellF (o := 2) rfl
    obtain ⟨a0, ca, hva, _, hca⟩ := hA.shape
    unfold maxLen at hca
    have hle := hi.le
    dsimp only at hle
    by_cases hne : n = nx
    · subst hne
      by_cases hend : A.length ≤ nx
      · have hv := visN_end (A := A) (k := k) (s := (nx, doneL sl)) hend
        rw [show visN A (k + 1) (nx, doneL sl) (nx : Int) = none from hv]
        have hge : (A.length : Int) ≤ (nx : Int) := by omega
        have H := Lib.hid h
        clear h hv hi ht ih hA
        subst hva
        go_enter Try.func54, Try.ntmps54
        (repeat' (first | (go_big_may; fail) | go_values | go_skip | go_guarded | go_step | go_upon | go_back | dsimp only))
        go_ret
        exact ⟨nx, sl, rfl, H.out⟩
      · obtain ⟨x, hx⟩ : ∃ x, A[nx]? = some x := ⟨_, List.getElem?_eq_getElem (by omega)⟩
        have hv := visN_in (k := k) (s := (nx, doneL sl)) hx
        rw [show visN A (k + 1) (nx, doneL sl) (nx : Int) = _ from hv]
        obtain ⟨b, off, cap, u, hsv, d0, d1, hu⟩ := hA.at hx
        obtain ⟨ua, uc, hus, _, huc⟩ := hu.shape
        unfold maxLen at huc
        subst hva
        cases hsv
        subst hus
        obtain ⟨c, hc⟩ : ∃ c, sl[nx]? = some c := ⟨_, List.getElem?_eq_getElem (by omega)⟩
        obtain ⟨r0, r1, hgs⟩ := h.drop.rowCell (bvs_get hc)
        have hbw := World.block_lt_of_cell? _ _ d0
        have hbk : b ≠ kl := by have := h.cell.2; dsimp only at hbw; omega
        have hbg : b ≠ g := by have := h.drop.rowNew; dsimp only at hbw; omega
        have hkg : kl ≠ g := h.cellNeRow
        replace d0 := (h.below.cell (World.block_lt_of_cell? _ _ d0)).trans d0
        replace d1 := (h.below.cell (World.block_lt_of_cell? _ _ d1)).trans d1
        have hlt : (nx : Int) < (A.length : Int) := by omega
        have hel := edgesN_le hx
        have hdn : (doneL sl).getD nx false = false := by
          cases hq : (doneL sl).getD nx false with
          | false => rfl
          | true => have := hi.lt nx hq; dsimp only at this; omega
        have h1 := (h.setCell ((RowG.stable _ _ _ _ _).both hR) 1 (.int .i64 ((nx + 1 : Nat) : Int))).swap.storeG ((CellT.stable _ _ _).both hR) nx (.int .u8 1)
        have h2 := (h1.swap.newCell ((CellT.stable _ _ _).both ((RowG.stable _ _ _ _ _).both hR)) #[.bool x.final, .slice ua x.edges.length uc] tPS).push3
        have hpx : ((w.setCell ⟨kl, 1, none⟩ (.int .i64 ((nx + 1 : Nat) : Int))).setCell ⟨g, nx, none⟩ (.int .u8 1)).heap.size = w.heap.size := by simp [World.setCell]
        rw [hpx] at h2
        have hset : (bvs sl).set nx (.int .u8 1) = bvs (sl.set nx 1) := bvs_set sl nx 1
        rw [hset] at h2
        have hs1 : VInv A (nx + 1, doneL (sl.set nx 1)) := by
          rw [doneL_one hdn]
          exact ⟨hi.len, by dsimp only; omega, fun i hq => by have := hi.lt i hq; dsimp only at this ⊢; omega⟩
        have ht1 : VTr A (nx + 1, doneL (sl.set nx 1)) := by
          rw [doneL_one hdn]; exact ht
        have hstart : visE (visN A k) (-1) x.edges (nx + 1, doneL sl) = visE (visN A k) (prevB x.edges 0) (x.edges.drop 0) (nx + 1, doneL (sl.set nx 1)) := by
          rw [doneL_one hdn]; rfl
        have HS := Lib.hid (And.intro (And.intro hs1 ht1) (And.intro hstart h2))
        clear hs1 ht1 hstart hset hpx
        have H := Lib.hid h
        have HV := Lib.hid hv
        have HX := Lib.hid hx
        have HU := Lib.hid (show RdEds W (.slice ua x.edges.length uc) x.edges from hu)
        have HA := Lib.hid hA
        have HI := Lib.hid hi
        have IH := Lib.hid ih
        have HR := Lib.hid hR
        clear ih hR h hv hx hu hA hi ht hc h1 h2
        go_enter Try.func54, Try.ntmps54
        (repeat' (first | (go_big_may; fail) | go_values | go_skip | go_guarded | go_step | go_upon | go_back | dsimp only))
        go_loopw [64] (fun vj wr => ∃ (j nx' : Nat) (sl' : List UInt8), vj = .int .i64 j ∧ j ≤ x.edges.length ∧ nx + 1 ≤ nx' ∧ (VInv A (nx', doneL sl') ∧ VTr A (nx', doneL sl')) ∧ visE (visN A k) (-1) x.edges (nx + 1, doneL sl) = visE (visN A k) (prevB x.edges j) (x.edges.drop j) (nx', doneL sl') ∧ At W wr (LookG kl g A.length (.slice (some ⟨b, off, none⟩) A.length ca) nx' sl' (Both (CellT w.heap.size #[.bool x.final, .slice ua x.edges.length uc] tPS) R))) (fun vj _ => x.edges.length - (intOf vj).toNat)
        case atStart => exact ⟨0, nx + 1, sl.set nx 1, rfl, Nat.zero_le _, Nat.le_refl _, HS.out.1, HS.out.2.1, HS.out.2.2⟩
        case round =>
          obtain ⟨j, nx', sl', rfl, hj, hnx, hi, heq, h3⟩ := hrel
          clear c0 c1 c2 f0 f1 f2 r0 r1 d0 hsl hdn
          have HI := Lib.hid hi
          have HEQ := Lib.hid heq
          by_cases hlj : j < x.edges.length
          · obtain ⟨e, he⟩ : ∃ e, x.edges[j]? = some e := ⟨_, List.getElem?_eq_getElem hlj⟩
            obtain ⟨be, oe, ce, hse, e0, e1⟩ := RdEds.at (HU.out.below h3.below) he
            cases hse
            have hdr : x.edges.drop j = e :: x.edges.drop (j + 1) := by
              obtain ⟨h1, h2⟩ := List.getElem?_eq_some_iff.1 he
              rw [List.drop_eq_getElem_cons h1, h2]
            have hstR : Stable (Both (CellT w.heap.size #[.bool x.final, .slice (some ⟨be, oe, none⟩) x.edges.length uc] tPS) R) := (CellT.stable _ _ _).both HR.out
            have h4a := (h3.newCell (LookG.stable hstR) #[.int .u8 e.1.toNat, .int .i64 e.2] tPE).push3
            have h4 := h4a.drew (LookG.stable ((CellT.stable _ _ _).both hstR))
            have hc := IH.out _ _ _ e.2 _ h4 ((CellT.stable _ _ _).both hstR) hi.1 hi.2 (by omega)
            obtain ⟨p1, _, p3⟩ := h3.drop.drop.cellF (o := 1) rfl
            have hpe : w.heap.size ≠ wr.heap.size := by omega
            have hr5 : ∀ (w5 : World) (nx5 : Nat) (sl5 : List UInt8), At W w5 (LookG kl g A.length (.slice (some ⟨b, off, none⟩) A.length ca) nx5 sl5 (Both (CellT wr.heap.size #[.int .u8 e.1.toNat, .int .i64 e.2] tPE) (Both (CellT w.heap.size #[.bool x.final, .slice (some ⟨be, oe, none⟩) x.edges.length uc] tPS) R))) → w5.cell? ⟨w.heap.size, 1, none⟩ = some (.slice (some ⟨be, oe, none⟩) x.edges.length uc) ∧ w5.cell? ⟨wr.heap.size, 0, none⟩ = some (bv e.1) ∧ w5.cell? ⟨wr.heap.size, 1, none⟩ = some (.int .i64 e.2) := fun w5 nx5 sl5 h5 =>
              ⟨(h5.drop.drop.drop.cellF (o := 1) rfl).1, (h5.drop.drop.cellF (o := 0) rfl).1, (h5.drop.drop.cellF (o := 1) rfl).1⟩
            have HR5 := Lib.hid hr5
            have hlt3 : (j : Int) < (x.edges.length : Int) := by omega
            have HNX := Lib.hid hnx
            have HLJ := Lib.hid hlj
            have H4 := Lib.hid h4.pull3.drop.pull3.drop
            have HE := Lib.hid he
            have heq2 := heq
            rw [hdr] at heq2
            have hcase : (j = 0 ∧ prevB x.edges j = -1) ∨ ∃ q e', j = q + 1 ∧ x.edges[q]? = some e' ∧ prevB x.edges j = e'.1.toNat := by
              by_cases hj0 : j = 0
              · exact .inl ⟨hj0, by rw [hj0]; rfl⟩
              · obtain ⟨q, rfl⟩ : ∃ q, j = q + 1 := ⟨j - 1, by omega⟩
                obtain ⟨e', he'⟩ : ∃ e', x.edges[q]? = some e' := ⟨_, List.getElem?_eq_getElem (by omega)⟩
                exact .inr ⟨q, e', rfl, he', prevB_succ he'⟩
            by_cases hbad : (e.1.toNat : Int) ≤ prevB x.edges j
            · have hn := heq2.trans (visE_bad hbad)
              rcases hcase with ⟨rfl, hp⟩ | ⟨q, e', rfl, he', hp⟩
              · rw [hp] at hbad; omega
              · rw [hp] at hbad
                have hb2 : e.1.toNat ≤ e'.1.toNat := by omega
                obtain ⟨_, _, _, hse, y0, _⟩ := RdEds.at (HU.out.below h4a.below) he'
                cases hse
                have HN := Lib.hid hn
                have HP := Lib.hid hp
                have HB := Lib.hid hbad
                clear h3 hi heq heq2 he hc h4 h4a hstR hr5 hn he' hp hbad hlj hnx hdr
                have hw3 : IntKind.i64.wrap (q : Int) = (q : Int) := by rw [IntKind.wrap_i64] <;> omega
                have hq0 : (0 : Int) ≤ q := by omega
                have hq1 : (q : Int) < (x.edges.length : Int) := by omega
                (repeat' (first | (go_big_may; fail) | go_values | go_skip | go_guarded | go_step | go_upon | go_back | dsimp only))
                (refine region_still_tail 18 (by kernel_rfl) (by kernel_rfl) ?_; simp only [List.take_succ_cons, List.take_zero, List.drop_succ_cons, List.drop_zero]; (iterate 18 (first | ((with_reducible refine still_plain ?_ rfl ?_ ?_); rotate_left; (next => (go_simp; (try with_reducible rfl))); simp only [Act.put, List.setIfInBounds_toArray, List.set_cons_zero, List.set_cons_succ]) | ((with_reducible refine still_skip ?_ ?_); (next => (go_simp; done)); simp only [Act.put, List.setIfInBounds_toArray, List.set_cons_zero, List.set_cons_succ]) | ((with_reducible refine still_val ?_ ?_ ?_ ?_); rotate_left; (next => (go_simp; done)); (next => (go_simp; (try with_reducible rfl))); simp only [Act.put, List.setIfInBounds_toArray, List.set_cons_zero, List.set_cons_succ]))); (with_reducible refine wpStill_nil ?_))
                (repeat' (first | (go_big_may; fail) | go_values | go_skip | go_guarded | go_step | go_upon | go_back | dsimp only))
                go_ret
                exact ⟨nx', sl', by rw [HN.out]; rfl, H4.out⟩
            · cases hv : visN A k (nx', doneL sl') e.2 with
              | none =>
                have hn := heq2.trans (visE_none hbad hv)
                rw [hv] at hc
                have HC := Lib.hid hc
                have HN := Lib.hid hn
                rcases hcase with ⟨rfl, hp⟩ | ⟨q, e', rfl, he', hp⟩
                · clear h3 hi heq heq2 he hc h4 h4a hstR hr5 hn hp hbad hlj hnx hdr hv
                  simp only [Nat.zero_mul, Nat.add_zero] at e0 e1
                  have hz : ((0 : Nat) : Int) = 0 := rfl
                  rw [hz]
                  clear hz
                  ((repeat' (first | (go_big_may; fail) | go_values | go_skip | go_guarded | go_step | go_upon | go_back | dsimp only)); (refine region_still_tail 18 (by kernel_rfl) (by kernel_rfl) ?_; simp only [List.take_succ_cons, List.take_zero, List.drop_succ_cons, List.drop_zero]; (iterate 18 (first | ((with_reducible refine still_plain ?_ rfl ?_ ?_); rotate_left; (next => (go_simp; (try with_reducible rfl))); simp only [Act.put, List.setIfInBounds_toArray, List.set_cons_zero, List.set_cons_succ]) | ((with_reducible refine still_skip ?_ ?_); (next => (go_simp; done)); simp only [Act.put, List.setIfInBounds_toArray, List.set_cons_zero, List.set_cons_succ]) | ((with_reducible refine still_val ?_ ?_ ?_ ?_); rotate_left; (next => (go_simp; done)); (next => (go_simp; (try with_reducible rfl))); simp only [Act.put, List.setIfInBounds_toArray, List.set_cons_zero, List.set_cons_succ]))); (with_reducible refine wpStill_nil ?_)); (repeat' (first | (go_big_may; fail) | go_values | go_skip | go_guarded | go_step | go_upon | go_back | dsimp only)); refine HC.out.mono ?_; rintro e5 w5 ⟨nx5, sl5, rfl, h5⟩; have H5 := Lib.hid h5.pull3.drop.pull3.drop; clear h5 HC; (repeat' (first | (go_big_may; fail) | go_values | go_skip | go_guarded | go_step | go_upon | go_back | dsimp only)); go_ret; exact ⟨nx5, sl5, by rw [HN.out]; rfl, H5.out⟩)
                · rw [hp] at hbad
                  have hb2 : ¬ e.1.toNat ≤ e'.1.toNat := by omega
                  obtain ⟨_, _, _, hse, y0, _⟩ := RdEds.at (HU.out.below h4a.below) he'
                  cases hse
                  clear h3 hi heq heq2 he hc h4 h4a hstR hr5 hn he' hp hbad hlj hnx hdr hv
                  have hw3 : IntKind.i64.wrap (q : Int) = (q : Int) := by rw [IntKind.wrap_i64] <;> omega
                  have hq0 : (0 : Int) ≤ q := by omega
                  have hq1 : (q : Int) < (x.edges.length : Int) := by omega
                  ((repeat' (first | (go_big_may; fail) | go_values | go_skip | go_guarded | go_step | go_upon | go_back | dsimp only)); (refine region_still_tail 18 (by kernel_rfl) (by kernel_rfl) ?_; simp only [List.take_succ_cons, List.take_zero, List.drop_succ_cons, List.drop_zero]; (iterate 18 (first | ((with_reducible refine still_plain ?_ rfl ?_ ?_); rotate_left; (next => (go_simp; (try with_reducible rfl))); simp only [Act.put, List.setIfInBounds_toArray, List.set_cons_zero, List.set_cons_succ]) | ((with_reducible refine still_skip ?_ ?_); (next => (go_simp; done)); simp only [Act.put, List.setIfInBounds_toArray, List.set_cons_zero, List.set_cons_succ]) | ((with_reducible refine still_val ?_ ?_ ?_ ?_); rotate_left; (next => (go_simp; done)); (next => (go_simp; (try with_reducible rfl))); simp only [Act.put, List.setIfInBounds_toArray, List.set_cons_zero, List.set_cons_succ]))); (with_reducible refine wpStill_nil ?_)); (repeat' (first | (go_big_may; fail) | go_values | go_skip | go_guarded | go_step | go_upon | go_back | dsimp only)); refine HC.out.mono ?_; rintro e5 w5 ⟨nx5, sl5, rfl, h5⟩; have H5 := Lib.hid h5.pull3.drop.pull3.drop; clear h5 HC; (repeat' (first | (go_big_may; fail) | go_values | go_skip | go_guarded | go_step | go_upon | go_back | dsimp only)); go_ret; exact ⟨nx5, sl5, by rw [HN.out]; rfl, H5.out⟩)
              | some s2 =>
                have hn := heq2.trans (visE_some hbad hv)
                rw [← prevB_succ he] at hn
                rw [hv] at hc
                have hpo := (visN_post _ _ _ _ hi.1 hi.2 hv).1
                have HPO := Lib.hid (And.intro hpo.inv (And.intro hpo.tr (Nat.le_trans hnx hpo.le)))
                have HC := Lib.hid hc
                have HN := Lib.hid hn
                rcases hcase with ⟨rfl, hp⟩ | ⟨q, e', rfl, he', hp⟩
                · clear h3 hi heq heq2 he hc h4 h4a hstR hr5 hn hp hbad hlj hnx hdr hv hpo
                  simp only [Nat.zero_mul, Nat.add_zero] at e0 e1
                  have hz : ((0 : Nat) : Int) = 0 := rfl
                  rw [hz]
                  clear hz
                  ((repeat' (first | (go_big_may; fail) | go_values | go_skip | go_guarded | go_step | go_upon | go_back | dsimp only)); (refine region_still_tail 18 (by kernel_rfl) (by kernel_rfl) ?_; simp only [List.take_succ_cons, List.take_zero, List.drop_succ_cons, List.drop_zero]; (iterate 18 (first | ((with_reducible refine still_plain ?_ rfl ?_ ?_); rotate_left; (next => (go_simp; (try with_reducible rfl))); simp only [Act.put, List.setIfInBounds_toArray, List.set_cons_zero, List.set_cons_succ]) | ((with_reducible refine still_skip ?_ ?_); (next => (go_simp; done)); simp only [Act.put, List.setIfInBounds_toArray, List.set_cons_zero, List.set_cons_succ]) | ((with_reducible refine still_val ?_ ?_ ?_ ?_); rotate_left; (next => (go_simp; done)); (next => (go_simp; (try with_reducible rfl))); simp only [Act.put, List.setIfInBounds_toArray, List.set_cons_zero, List.set_cons_succ]))); (with_reducible refine wpStill_nil ?_)); (repeat' (first | (go_big_may; fail) | go_values | go_skip | go_guarded | go_step | go_upon | go_back | dsimp only)); refine HC.out.mono ?_; rintro e5 w5 ⟨nx5, sl5, ⟨rfl, hans⟩, h5⟩; have HANS := Lib.hid hans; have H5 := Lib.hid h5.pull3.drop; clear h5 hans HC; (repeat' (first | (go_big_may; fail) | go_values | go_skip | go_guarded | go_step | go_upon | go_back | dsimp only)))
                  go_roundw
                  case rel => exact ⟨1, nx5, sl5, rfl, by have := HLJ.out; omega, by rw [HANS.out.1]; exact HPO.out.2.2, by rw [HANS.out.1, HANS.out.2]; exact ⟨HPO.out.1, HPO.out.2.1⟩, by rw [HANS.out.1, HANS.out.2]; exact HN.out, H5.out⟩
                  case measure => simp [intOf] <;> (have := HLJ.out; omega)
                · rw [hp] at hbad
                  have hb2 : ¬ e.1.toNat ≤ e'.1.toNat := by omega
                  obtain ⟨_, _, _, hse, y0, _⟩ := RdEds.at (HU.out.below h4a.below) he'
                  cases hse
                  clear h3 hi heq heq2 he hc h4 h4a hstR hr5 hn he' hp hbad hlj hnx hdr hv hpo
                  have hw3 : IntKind.i64.wrap (q : Int) = (q : Int) := by rw [IntKind.wrap_i64] <;> omega
                  have hq0 : (0 : Int) ≤ q := by omega
                  have hq1 : (q : Int) < (x.edges.length : Int) := by omega
                  ((repeat' (first | (go_big_may; fail) | go_values | go_skip | go_guarded | go_step | go_upon | go_back | dsimp only)); (refine region_still_tail 18 (by kernel_rfl) (by kernel_rfl) ?_; simp only [List.take_succ_cons, List.take_zero, List.drop_succ_cons, List.drop_zero]; (iterate 18 (first | ((with_reducible refine still_plain ?_ rfl ?_ ?_); rotate_left; (next => (go_simp; (try with_reducible rfl))); simp only [Act.put, List.setIfInBounds_toArray, List.set_cons_zero, List.set_cons_succ]) | ((with_reducible refine still_skip ?_ ?_); (next => (go_simp; done)); simp only [Act.put, List.setIfInBounds_toArray, List.set_cons_zero, List.set_cons_succ]) | ((with_reducible refine still_val ?_ ?_ ?_ ?_); rotate_left; (next => (go_simp; done)); (next => (go_simp; (try with_reducible rfl))); simp only [Act.put, List.setIfInBounds_toArray, List.set_cons_zero, List.set_cons_succ]))); (with_reducible refine wpStill_nil ?_)); (repeat' (first | (go_big_may; fail) | go_values | go_skip | go_guarded | go_step | go_upon | go_back | dsimp only)); refine HC.out.mono ?_; rintro e5 w5 ⟨nx5, sl5, ⟨rfl, hans⟩, h5⟩; have HANS := Lib.hid hans; have H5 := Lib.hid h5.pull3.drop; clear h5 hans HC; (repeat' (first | (go_big_may; fail) | go_values | go_skip | go_guarded | go_step | go_upon | go_back | dsimp only)))
                  go_roundw
                  case rel => exact ⟨q + 1 + 1, nx5, sl5, by simp, by have := HLJ.out; omega, by rw [HANS.out.1]; exact HPO.out.2.2, by rw [HANS.out.1, HANS.out.2]; exact ⟨HPO.out.1, HPO.out.2.1⟩, by rw [HANS.out.1, HANS.out.2]; exact HN.out, H5.out⟩
                  case measure => simp [intOf] <;> (have := HLJ.out; omega)
          · have hend2 := heq
            rw [List.drop_eq_nil_of_le (by omega)] at hend2
            have hsl' : sl'.length = A.length := by have := hi.1.len; rwa [doneL_len] at this
            obtain ⟨c', hc'⟩ : ∃ c', sl'[nx]? = some c' := ⟨_, List.getElem?_eq_getElem (by omega)⟩
            have h5 := h3.pull3.drop
            obtain ⟨z0, z1, z2⟩ := h5.drop.rowCell (bvs_get hc')
            obtain ⟨y0, _, y1⟩ := h5.cellF (o := 0) rfl
            obtain ⟨y2, _, _⟩ := h5.cellF (o := 2) rfl
            obtain ⟨y3, _, _⟩ := h3.drop.drop.cellF (o := 0) rfl
            obtain ⟨y4, _, _⟩ := h3.drop.drop.cellF (o := 1) rfl
            have hwg : w.heap.size ≠ g := fun e => by have := h3.drop.swap.cellNeRow; exact this e
            have h6 := (h5.swap.storeG ((CellT.stable _ _ _).both HR.out) nx (.int .u8 2)).swap
            have hset : (bvs sl').set nx (.int .u8 2) = bvs (sl'.set nx 2) := bvs_set sl' nx 2
            rw [hset] at h6
            have H6 := Lib.hid h6
            have HN := Lib.hid (show visE (visN A k) (-1) x.edges (nx + 1, doneL sl) = some (nx', doneL sl') from hend2)
            have HL := Lib.hid hlj
            clear h3 h5 h6 hi heq hend2 hsl' hc' hset HEQ HI
            by_cases hq1 : x.edges.length = 0
            · have hq1' : ¬ (0 : Int) < (x.edges.length : Int) := by omega
              have hnil : x.edges = [] := List.eq_nil_of_length_eq_zero hq1
              have HQ := Lib.hid hnil
              clear hq1 hnil
              cases hf : x.final with
              | true =>
                rw [hf] at y3
                have HF := Lib.hid hf
                clear hf
                (repeat' (first | (go_big_may; fail) | go_values | go_skip | go_guarded | go_step | go_upon | go_back | dsimp only))
                go_ret
                exact ⟨nx', sl'.set nx 2, by rw [HN.out]; dsimp only; rw [if_neg (by rw [HF.out]; simp)]; exact ⟨rfl, rfl, doneL_two _ _⟩, H6.out⟩
              | false =>
                rw [hf] at y3
                have HF := Lib.hid hf
                clear hf
                by_cases hone : A.length = 1
                · have hone2 : (A.length : Int) = 1 := by omega
                  have HO := Lib.hid hone
                  clear hone
                  (repeat' (first | (go_big_may; fail) | go_values | go_skip | go_guarded | go_step | go_upon | go_back | dsimp only))
                  go_ret
                  exact ⟨nx', sl'.set nx 2, by rw [HN.out]; dsimp only; rw [if_neg (fun h => h.2.2 HO.out)]; exact ⟨rfl, rfl, doneL_two _ _⟩, H6.out⟩
                · have hone2 : ((A.length : Int) == 1) = false := by rw [beq_eq_false_iff_ne]; omega
                  have HO := Lib.hid hone
                  clear hone
                  (repeat' (first | (go_big_may; fail) | go_values | go_skip | go_guarded | go_step | go_upon | go_back | dsimp only))
                  go_ret
                  exact ⟨nx', sl'.set nx 2, by rw [HN.out]; dsimp only; rw [if_pos ⟨HQ.out, HF.out, HO.out⟩]; exact rfl, H6.out⟩
            · have hq1' : 0 < x.edges.length := by omega
              have HQ := Lib.hid hq1
              clear hq1
              (repeat' (first | (go_big_may; fail) | go_values | go_skip | go_guarded | go_step | go_upon | go_back | dsimp only))
              go_ret
              exact ⟨nx', sl'.set nx 2, by rw [HN.out]; dsimp only; rw [if_neg (fun h => HQ.out (by rw [h.1]; rfl))]; exact ⟨rfl, rfl, doneL_two _ _⟩, H6.out⟩
    · by_cases hin : 0 ≤ n ∧ n < nx
      · obtain ⟨m, rfl⟩ := Int.eq_ofNat_of_zero_le hin.1
        have hm : m < sl.length := by omega
        obtain ⟨c, hc⟩ : ∃ c, sl[m]? = some c := ⟨_, List.getElem?_eq_getElem hm⟩
        obtain ⟨d0, _, _⟩ := h.drop.rowCell (bvs_get hc)
        have hg := doneL_get hc
        have hml : (m : Int) < (A.length : Int) := by omega
        have hmn : (m : Int) < (nx : Int) := by omega
        have hne2 : ¬ ((m : Int) = (nx : Int)) := hne
        have H := Lib.hid h
        by_cases h2 : c = 2
        · subst h2
          have hv := visN_back (A := A) (k := k) (s := (nx, doneL sl)) (n := (m : Int)) hne ⟨by omega, hmn, by simpa using hg⟩
          rw [hv]
          clear h hc hg hv hi ht ih hA hin
          subst hva
          go_enter Try.func54, Try.ntmps54
          (repeat' (first | (go_big_may; fail) | go_values | go_skip | go_guarded | go_step | go_upon | go_back | dsimp only))
          go_ret
          exact ⟨nx, sl, ⟨rfl, rfl, rfl⟩, H.out⟩
        · have hc2 : (c == 2) = false := by simpa using h2
          have hv := visN_bad (A := A) (k := k) (s := (nx, doneL sl)) (n := (m : Int)) hne (fun h => by have h3 := h.2.2; rw [Int.toNat_natCast] at h3; rw [show (doneL sl).getD m false = false from hg.trans hc2] at h3; cases h3)
          have hne3 : ((c.toNat : Int) == 2) = false := u8_ne h2
          rw [hv]
          clear h hc hg hv hi ht ih hA hin
          subst hva
          go_enter Try.func54, Try.ntmps54
          (repeat' (first | (go_big_may; fail) | go_values | go_skip | go_guarded | go_step | go_upon | go_back | dsimp only))
          go_ret
          exact ⟨nx, sl, rfl, H.out⟩
      · have hv := visN_bad (A := A) (k := k) (s := (nx, doneL sl)) (n := n) hne (fun h => hin ⟨h.1, h.2.1⟩)
        rw [hv]
        have H := Lib.hid h
        have hne2 : ¬ (n = (nx : Int)) := hne
        clear h hv hi ht ih hA
        subst hva
        by_cases h0 : 0 ≤ n
        · have h1 : ¬ n < (nx : Int) := fun h => hin ⟨h0, h⟩
          clear hin
          go_enter Try.func54, Try.ntmps54
          (repeat' (first | (go_big_may; fail) | go_values | go_skip | go_guarded | go_step | go_upon | go_back | dsimp only))
          go_ret
          exact ⟨nx, sl, rfl, H.out⟩
        · clear hin
          go_enter Try.func54, Try.ntmps54
          (repeat' (first | (go_big_may; fail) | go_values | go_skip | go_guarded | go_step | go_upon | go_back | dsimp only))
          go_ret
          exact ⟨nx, sl, rfl, H.out⟩
end

section
open Go.RowKit

abbrev tRLk : TypeId := 107
abbrev tBo : TypeId := 4
abbrev bos (l : List Bool) : List Value := l.map Value.bool
theorem bos_set (l : List Bool) (j : Nat) (c : Bool) : (bos l).set j (.bool c) = bos (l.set j c) := by simp [bos, List.map_set]
theorem bos_get {l : List Bool} {j : Nat} {c : Bool} (h : l[j]? = some c) : (bos l)[j]? = some (.bool c) := by simp [bos, h]
theorem getD_of {l : List Bool} {j : Nat} {c : Bool} (h : l[j]? = some c) : l.getD j false = c := by rw [List.getD_eq_getElem?_getD, h]; rfl
/-- What the document's visit answers. -/
def RVisAns (o : Option (Nat × List Bool)) (e : Ending) (nx : Nat) (sl : List Bool) : Prop :=
  match o with
  | none => e = .returned (.bool false)
  | some s => e = .returned (.bool true) ∧ nx = s.1 ∧ sl = s.2
/-- The look in memory. -/
abbrev RLookG (kl g N : Nat) (va : Value) (nx : Nat) (sl : List Bool) (R : Thing) : Thing :=
  Both (CellT kl #[va, .int .i64 nx, .slice (some ⟨g, 0, none⟩) N N] tRLk) (Both (RowG tBo 1 (.slice (some ⟨g, 0, none⟩) N N) N (bos sl)) R)
theorem RLookG.stable {kl g N : Nat} {va : Value} {nx : Nat} {sl : List Bool} {R : Thing} (h : Stable R) : Stable (RLookG kl g N va nx sl R) := (CellT.stable _ _ _).both ((RowG.stable _ _ _ _ _).both h)

set_option maxRecDepth 100000 in
set_option maxHeartbeats 6400000 in
theorem rvisit_at {W : World} {A : List Sta} {va : Value} (hA : RdAut W va A) (hl : A.length ≤ 1048576 ∧ edgesN A ≤ 1048576) (kl g : Nat) (k : Nat) : ∀ (w : World) (nx : Nat) (sl : List Bool) (n : Int) (R : Thing),
    At W w (RLookG kl g A.length va nx sl R) → Stable R → VInv A (nx, sl) → VTr A (nx, sl) → A.length - nx < k →
    Calls Try.prog 45 #[.pointer (some ⟨kl, 0, none⟩), .int .i64 n] w fun e w' => ∃ nx' sl', RVisAns (visN A k (nx, sl) n) e nx' sl' ∧ At W w' (RLookG kl g A.length va nx' sl' R) := by
  induction k with
  | zero => intro w nx sl n R _ _ _ _ h; omega
  | succ k ih =>
    intro w nx sl n R h hR hi ht hk
    have hsl : sl.length = A.length := hi.len
    obtain ⟨c0, f0, hkl⟩ := h.cellF (o := 0) rfl
    obtain ⟨c1, f1, _⟩ := h.cellF (o := 1) rfl
    obtain ⟨c2, f2, _⟩ := h.cellF (o := 2) rfl
    obtain ⟨a0, ca, hva, _, hca⟩ := hA.shape
    unfold maxLen at hca
    have hle := hi.le
    dsimp only at hle
    by_cases hne : n = nx
    · subst hne
      by_cases hend : A.length ≤ nx
      · have hv := visN_end (A := A) (k := k) (s := (nx, sl)) hend
        rw [show visN A (k + 1) (nx, sl) (nx : Int) = none from hv]
        have hge : (A.length : Int) ≤ (nx : Int) := by omega
        have hn0 : ¬ (nx : Int) < 0 := by omega
        have H := Lib.hid h
        clear h hv hi ht ih hA
        subst hva
        go_enter Try.func45, Try.ntmps45
        (repeat' (first | (go_big_may; fail) | go_values | go_skip | go_guarded | go_step | go_upon | go_back | dsimp only))
        go_ret
        exact ⟨nx, sl, rfl, H.out⟩
      · obtain ⟨x, hx⟩ : ∃ x, A[nx]? = some x := ⟨_, List.getElem?_eq_getElem (by omega)⟩
        have hv := visN_in (k := k) (s := (nx, sl)) hx
        rw [show visN A (k + 1) (nx, sl) (nx : Int) = _ from hv]
        obtain ⟨b, off, cap, u, hsv, d0, d1, hu⟩ := hA.at hx
        obtain ⟨ua, uc, hus, _, huc⟩ := hu.shape
        unfold maxLen at huc
        subst hva
        cases hsv
        subst hus
        have hbw := World.block_lt_of_cell? _ _ d0
        have hbk : b ≠ kl := by have := h.cell.2; dsimp only at hbw; omega
        replace d0 := (h.below.cell (World.block_lt_of_cell? _ _ d0)).trans d0
        replace d1 := (h.below.cell (World.block_lt_of_cell? _ _ d1)).trans d1
        have hlt : (nx : Int) < (A.length : Int) := by omega
        have hn0 : ¬ (nx : Int) < 0 := by omega
        have hel := edgesN_le hx
        have h1 := h.setCell ((RowG.stable _ _ _ _ _).both hR) 1 (.int .i64 ((nx + 1 : Nat) : Int))
        have h2 := (h1.newCell ((CellT.stable _ _ _).both ((RowG.stable _ _ _ _ _).both hR)) #[.bool x.final, .slice ua x.edges.length uc] tRS).push3
        have hpx : (w.setCell ⟨kl, 1, none⟩ (.int .i64 ((nx + 1 : Nat) : Int))).heap.size = w.heap.size := by simp [World.setCell]
        rw [hpx] at h2
        have hs1 : VInv A (nx + 1, sl) := ⟨hi.len, by dsimp only; omega, fun i hq => by have := hi.lt i hq; dsimp only at this ⊢; omega⟩
        have ht1 : VTr A (nx + 1, sl) := ht
        have hstart : visE (visN A k) (-1) x.edges (nx + 1, sl) = visE (visN A k) (prevB x.edges 0) (x.edges.drop 0) (nx + 1, sl) := rfl
        have HS := Lib.hid (And.intro (And.intro hs1 ht1) (And.intro hstart h2))
        clear hs1 ht1 hstart hpx
        have H := Lib.hid h
        have HV := Lib.hid hv
        have HX := Lib.hid hx
        have HU := Lib.hid (show RdEds W (.slice ua x.edges.length uc) x.edges from hu)
        have HA := Lib.hid hA
        have HI := Lib.hid hi
        have IH := Lib.hid ih
        have HR := Lib.hid hR
        clear ih hR h hv hx hu hA hi ht h1 h2
        by_cases hleaf : x.edges = [] ∧ x.final = false ∧ A.length ≠ 1
        · obtain ⟨g1, g2, g3⟩ := hleaf
          have g4 : x.edges.length = 0 := by rw [g1]; rfl
          have g5 : (1 : Int) < (A.length : Int) := by omega
          have HN := Lib.hid (show visE (visN A k) (-1) x.edges (nx + 1, sl) = some (nx + 1, sl) by rw [g1]; rfl)
          have HG := Lib.hid (And.intro g1 (And.intro g2 g3))
          rw [g2] at d0
          rw [g4] at d1
          clear g1 g2 g3 g4
          go_enter Try.func45, Try.ntmps45
          (repeat' (first | (go_big_may; fail) | go_values | go_skip | go_guarded | go_step | go_upon | go_back | dsimp only))
          go_ret
          exact ⟨nx + 1, sl, by rw [HN.out]; dsimp only; rw [if_pos HG.out]; exact rfl, by have h9 := HS.out.2.2.pull3.drop; rw [HG.out.2.1, HG.out.1] at h9; exact h9⟩
        · have HLF := Lib.hid hleaf
          have hsplit : 0 < x.edges.length ∨ (x.edges.length = 0 ∧ (x.final = true ∨ (x.final = false ∧ ¬ (1 : Int) < A.length))) := by
            by_cases g1 : x.edges = []
            · refine .inr ⟨by rw [g1]; rfl, ?_⟩
              cases g2 : x.final with
              | true => exact .inl rfl
              | false =>
                refine .inr ⟨rfl, fun g3 => hleaf ⟨g1, g2, by omega⟩⟩
            · exact .inl (List.length_pos_iff.2 g1)
          clear hleaf
          have HSP := Lib.hid hsplit
          clear hsplit
          go_enter Try.func45, Try.ntmps45
          go_upto_region 7 with (fail)
          go_cut [71] (fun v wx => v = .bool false ∧ At W wx (RLookG kl g A.length (.slice (some ⟨b, off, none⟩) A.length ca) (nx + 1) sl (Both (CellT w.heap.size #[.bool x.final, .slice ua x.edges.length uc] tRS) R)))
          case first =>
            refine wp_norm ?_
            rename_i J K' hJ hK
            have HJ := Lib.hid hJ
            have HK := Lib.hid hK
            clear hJ hK
            have HS2 := Lib.hid HS.out.2.2
            rcases HSP.out with g1 | ⟨g1, g2 | ⟨g2, g3⟩⟩
            · have g4 : ((x.edges.length : Int) == 0) = false := by rw [beq_eq_false_iff_ne]; omega
              clear HS HSP g1
              (repeat' (first | (go_big_may; fail) | go_values | go_skip | go_guarded | go_step | go_upon | go_back | dsimp only))
              refine HK.out _ _ ?_
              have hJ := HJ.out
              go_meet
              case rel => exact ⟨rfl, HS2.out⟩
            · have e1 : (Value.slice ua x.edges.length uc) = .slice ua 0 uc := by rw [g1]
              have e2 : Value.bool x.final = .bool true := by rw [g2]
              rw [e1, e2] at HS2
              have E := Lib.hid (And.intro e1 e2)
              clear HS HSP e1 e2
              (repeat' (first | (go_big_may; fail) | go_values | go_skip | go_guarded | go_step | go_upon | go_back | dsimp only))
              refine HK.out _ _ ?_
              have hJ := HJ.out
              go_meet
              case rel => exact ⟨rfl, by rw [E.out.1, E.out.2]; exact HS2.out⟩
            · have e1 : (Value.slice ua x.edges.length uc) = .slice ua 0 uc := by rw [g1]
              have e2 : Value.bool x.final = .bool false := by rw [g2]
              rw [e1, e2] at HS2
              have E := Lib.hid (And.intro e1 e2)
              clear HS HSP e1 e2
              (repeat' (first | (go_big_may; fail) | go_values | go_skip | go_guarded | go_step | go_upon | go_back | dsimp only))
              refine HK.out _ _ ?_
              have hJ := HJ.out
              go_meet
              case rel => exact ⟨rfl, by rw [E.out.1, E.out.2]; exact HS2.out⟩
          case rest =>
            obtain ⟨rfl, h3⟩ := hcut
            have HSS := Lib.hid (And.intro HS.out.1 HS.out.2.1)
            have H3 := Lib.hid h3
            clear h3 HS c0 c1 c2 f0 f1 f2 d0 d1
            (repeat' (first | (go_big_may; fail) | go_values | go_skip | go_guarded | go_step | go_upon | go_back | dsimp only))
            go_loopw [6] (fun vj wr => ∃ (j nx' : Nat) (sl' : List Bool), vj = .int .i64 j ∧ j ≤ x.edges.length ∧ nx + 1 ≤ nx' ∧ (VInv A (nx', sl') ∧ VTr A (nx', sl')) ∧ visE (visN A k) (-1) x.edges (nx + 1, sl) = visE (visN A k) (prevB x.edges j) (x.edges.drop j) (nx', sl') ∧ At W wr (RLookG kl g A.length (.slice (some ⟨b, off, none⟩) A.length ca) nx' sl' (Both (CellT w.heap.size #[.bool x.final, .slice ua x.edges.length uc] tRS) R))) (fun vj _ => x.edges.length - (intOf vj).toNat)
            case atStart => exact ⟨0, nx + 1, sl, rfl, Nat.zero_le _, Nat.le_refl _, HSS.out.1, HSS.out.2, H3.out⟩
            case round =>
              obtain ⟨j, nx', sl', rfl, hj, hnx, hi, heq, h3⟩ := hrel
              have HI := Lib.hid hi
              have HEQ := Lib.hid heq
              obtain ⟨y0, _, y1⟩ := h3.drop.drop.cellF (o := 1) rfl
              by_cases hlj : j < x.edges.length
              · obtain ⟨e, he⟩ : ∃ e, x.edges[j]? = some e := ⟨_, List.getElem?_eq_getElem hlj⟩
                obtain ⟨be, oe, ce, hse, e0, e1⟩ := RdEds.at (HU.out.below h3.below) he
                cases hse
                have hdr : x.edges.drop j = e :: x.edges.drop (j + 1) := by
                  obtain ⟨h1, h2⟩ := List.getElem?_eq_some_iff.1 he
                  rw [List.drop_eq_getElem_cons h1, h2]
                have hstR : Stable (Both (CellT w.heap.size #[.bool x.final, .slice (some ⟨be, oe, none⟩) x.edges.length uc] tRS) R) := (CellT.stable _ _ _).both HR.out
                have h4 := h3.drew (RLookG.stable hstR)
                have hc := IH.out _ _ _ e.2 _ h4 hstR hi.1 hi.2 (by omega)
                have hlt3 : (j : Int) < (x.edges.length : Int) := by omega
                have HNX := Lib.hid hnx
                have HLJ := Lib.hid hlj
                have HE := Lib.hid he
                have H4 := Lib.hid h4.pull3.drop
                have heq2 := heq
                rw [hdr] at heq2
                have hcase : (j = 0 ∧ prevB x.edges j = -1) ∨ ∃ q e', j = q + 1 ∧ x.edges[q]? = some e' ∧ prevB x.edges j = e'.1.toNat := by
                  by_cases hj0 : j = 0
                  · exact .inl ⟨hj0, by rw [hj0]; rfl⟩
                  · obtain ⟨q, rfl⟩ : ∃ q, j = q + 1 := ⟨j - 1, by omega⟩
                    obtain ⟨e', he'⟩ : ∃ e', x.edges[q]? = some e' := ⟨_, List.getElem?_eq_getElem (by omega)⟩
                    exact .inr ⟨q, e', rfl, he', prevB_succ he'⟩
                by_cases hbad : (e.1.toNat : Int) ≤ prevB x.edges j
                · have hn := heq2.trans (visE_bad hbad)
                  rcases hcase with ⟨rfl, hp⟩ | ⟨q, e', rfl, he', hp⟩
                  · rw [hp] at hbad; omega
                  · rw [hp] at hbad
                    have hb2 : e.1.toNat ≤ e'.1.toNat := by omega
                    obtain ⟨_, _, _, hse, z0, _⟩ := RdEds.at (HU.out.below h3.below) he'
                    cases hse
                    have HN := Lib.hid hn
                    have HP := Lib.hid hp
                    have HB := Lib.hid hbad
                    clear h3 hi heq heq2 he hc h4 hstR hn he' hp hbad hlj hnx hdr
                    have hw3 : IntKind.i64.wrap (q : Int) = (q : Int) := by rw [IntKind.wrap_i64] <;> omega
                    have hq0 : (0 : Int) ≤ q := by omega
                    have hq2 : (0 : Int) ≤ (q : Int) + 1 := by omega
                    have hq1 : (q : Int) < (x.edges.length : Int) := by omega
                    (repeat' (first | (go_big_may; fail) | go_values | go_skip | go_guarded | go_step | go_upon | go_back | dsimp only))
                    (refine region_still_tail 17 (by kernel_rfl) (by kernel_rfl) ?_; simp only [List.take_succ_cons, List.take_zero, List.drop_succ_cons, List.drop_zero]; (iterate 17 (first | ((with_reducible refine still_plain ?_ rfl ?_ ?_); rotate_left; (next => (go_simp; (try with_reducible rfl))); simp only [Act.put, List.setIfInBounds_toArray, List.set_cons_zero, List.set_cons_succ]) | ((with_reducible refine still_skip ?_ ?_); (next => (go_simp; done)); simp only [Act.put, List.setIfInBounds_toArray, List.set_cons_zero, List.set_cons_succ]) | ((with_reducible refine still_val ?_ ?_ ?_ ?_); rotate_left; (next => (go_simp; done)); (next => (go_simp; (try with_reducible rfl))); simp only [Act.put, List.setIfInBounds_toArray, List.set_cons_zero, List.set_cons_succ]))); (with_reducible refine wpStill_nil ?_))
                    (repeat' (first | (go_big_may; fail) | go_values | go_skip | go_guarded | go_step | go_upon | go_back | dsimp only))
                    go_ret
                    exact ⟨nx', sl', by rw [HN.out]; rfl, H4.out⟩
                · cases hv : visN A k (nx', sl') e.2 with
                  | none =>
                    have hn := heq2.trans (visE_none hbad hv)
                    rw [hv] at hc
                    have HC := Lib.hid hc
                    have HN := Lib.hid hn
                    rcases hcase with ⟨rfl, hp⟩ | ⟨q, e', rfl, he', hp⟩
                    · clear h3 hi heq heq2 he hc h4 hstR hn hp hbad hlj hnx hdr hv
                      simp only [Nat.zero_mul, Nat.add_zero] at e0 e1
                      have hz : ((0 : Nat) : Int) = 0 := rfl
                      rw [hz]
                      clear hz
                      ((repeat' (first | (go_big_may; fail) | go_values | go_skip | go_guarded | go_step | go_upon | go_back | dsimp only)); (refine region_still_tail 17 (by kernel_rfl) (by kernel_rfl) ?_; simp only [List.take_succ_cons, List.take_zero, List.drop_succ_cons, List.drop_zero]; (iterate 17 (first | ((with_reducible refine still_plain ?_ rfl ?_ ?_); rotate_left; (next => (go_simp; (try with_reducible rfl))); simp only [Act.put, List.setIfInBounds_toArray, List.set_cons_zero, List.set_cons_succ]) | ((with_reducible refine still_skip ?_ ?_); (next => (go_simp; done)); simp only [Act.put, List.setIfInBounds_toArray, List.set_cons_zero, List.set_cons_succ]) | ((with_reducible refine still_val ?_ ?_ ?_ ?_); rotate_left; (next => (go_simp; done)); (next => (go_simp; (try with_reducible rfl))); simp only [Act.put, List.setIfInBounds_toArray, List.set_cons_zero, List.set_cons_succ]))); (with_reducible refine wpStill_nil ?_)); (repeat' (first | (go_big_may; fail) | go_values | go_skip | go_guarded | go_step | go_upon | go_back | dsimp only)); refine HC.out.mono ?_; rintro e5 w5 ⟨nx5, sl5, rfl, h5⟩; have H5 := Lib.hid h5.pull3.drop; clear h5 HC; (repeat' (first | (go_big_may; fail) | go_values | go_skip | go_guarded | go_step | go_upon | go_back | dsimp only)); go_ret; exact ⟨nx5, sl5, by rw [HN.out]; rfl, H5.out⟩)
                    · rw [hp] at hbad
                      have hb2 : ¬ e.1.toNat ≤ e'.1.toNat := by omega
                      obtain ⟨_, _, _, hse, z0, _⟩ := RdEds.at (HU.out.below h3.below) he'
                      cases hse
                      clear h3 hi heq heq2 he hc h4 hstR hn he' hp hbad hlj hnx hdr hv
                      have hw3 : IntKind.i64.wrap (q : Int) = (q : Int) := by rw [IntKind.wrap_i64] <;> omega
                      have hq0 : (0 : Int) ≤ q := by omega
                      have hq2 : (0 : Int) ≤ (q : Int) + 1 := by omega
                      have hq1 : (q : Int) < (x.edges.length : Int) := by omega
                      ((repeat' (first | (go_big_may; fail) | go_values | go_skip | go_guarded | go_step | go_upon | go_back | dsimp only)); (refine region_still_tail 17 (by kernel_rfl) (by kernel_rfl) ?_; simp only [List.take_succ_cons, List.take_zero, List.drop_succ_cons, List.drop_zero]; (iterate 17 (first | ((with_reducible refine still_plain ?_ rfl ?_ ?_); rotate_left; (next => (go_simp; (try with_reducible rfl))); simp only [Act.put, List.setIfInBounds_toArray, List.set_cons_zero, List.set_cons_succ]) | ((with_reducible refine still_skip ?_ ?_); (next => (go_simp; done)); simp only [Act.put, List.setIfInBounds_toArray, List.set_cons_zero, List.set_cons_succ]) | ((with_reducible refine still_val ?_ ?_ ?_ ?_); rotate_left; (next => (go_simp; done)); (next => (go_simp; (try with_reducible rfl))); simp only [Act.put, List.setIfInBounds_toArray, List.set_cons_zero, List.set_cons_succ]))); (with_reducible refine wpStill_nil ?_)); (repeat' (first | (go_big_may; fail) | go_values | go_skip | go_guarded | go_step | go_upon | go_back | dsimp only)); refine HC.out.mono ?_; rintro e5 w5 ⟨nx5, sl5, rfl, h5⟩; have H5 := Lib.hid h5.pull3.drop; clear h5 HC; (repeat' (first | (go_big_may; fail) | go_values | go_skip | go_guarded | go_step | go_upon | go_back | dsimp only)); go_ret; exact ⟨nx5, sl5, by rw [HN.out]; rfl, H5.out⟩)
                  | some s2 =>
                    have hn := heq2.trans (visE_some hbad hv)
                    rw [← prevB_succ he] at hn
                    rw [hv] at hc
                    have hpo := (visN_post _ _ _ _ hi.1 hi.2 hv).1
                    have HPO := Lib.hid (And.intro hpo.inv (And.intro hpo.tr (Nat.le_trans hnx hpo.le)))
                    have HC := Lib.hid hc
                    have HN := Lib.hid hn
                    rcases hcase with ⟨rfl, hp⟩ | ⟨q, e', rfl, he', hp⟩
                    · clear h3 hi heq heq2 he hc h4 hstR hn hp hbad hlj hnx hdr hv hpo
                      simp only [Nat.zero_mul, Nat.add_zero] at e0 e1
                      have hz : ((0 : Nat) : Int) = 0 := rfl
                      rw [hz]
                      clear hz
                      ((repeat' (first | (go_big_may; fail) | go_values | go_skip | go_guarded | go_step | go_upon | go_back | dsimp only)); (refine region_still_tail 17 (by kernel_rfl) (by kernel_rfl) ?_; simp only [List.take_succ_cons, List.take_zero, List.drop_succ_cons, List.drop_zero]; (iterate 17 (first | ((with_reducible refine still_plain ?_ rfl ?_ ?_); rotate_left; (next => (go_simp; (try with_reducible rfl))); simp only [Act.put, List.setIfInBounds_toArray, List.set_cons_zero, List.set_cons_succ]) | ((with_reducible refine still_skip ?_ ?_); (next => (go_simp; done)); simp only [Act.put, List.setIfInBounds_toArray, List.set_cons_zero, List.set_cons_succ]) | ((with_reducible refine still_val ?_ ?_ ?_ ?_); rotate_left; (next => (go_simp; done)); (next => (go_simp; (try with_reducible rfl))); simp only [Act.put, List.setIfInBounds_toArray, List.set_cons_zero, List.set_cons_succ]))); (with_reducible refine wpStill_nil ?_)); (repeat' (first | (go_big_may; fail) | go_values | go_skip | go_guarded | go_step | go_upon | go_back | dsimp only)); refine HC.out.mono ?_; rintro e5 w5 ⟨nx5, sl5, ⟨rfl, hans⟩, h5⟩; have HANS := Lib.hid hans; have H5 := Lib.hid h5; clear h5 hans HC; (repeat' (first | (go_big_may; fail) | go_values | go_skip | go_guarded | go_step | go_upon | go_back | dsimp only)))
                      go_roundw
                      case rel => exact ⟨1, nx5, sl5, rfl, by have := HLJ.out; omega, by rw [HANS.out.1]; exact HPO.out.2.2, by rw [HANS.out.1, HANS.out.2]; exact ⟨HPO.out.1, HPO.out.2.1⟩, by rw [HANS.out.1, HANS.out.2]; exact HN.out, H5.out⟩
                      case measure => simp [intOf] <;> (have := HLJ.out; omega)
                    · rw [hp] at hbad
                      have hb2 : ¬ e.1.toNat ≤ e'.1.toNat := by omega
                      obtain ⟨_, _, _, hse, z0, _⟩ := RdEds.at (HU.out.below h3.below) he'
                      cases hse
                      clear h3 hi heq heq2 he hc h4 hstR hn he' hp hbad hlj hnx hdr hv hpo
                      have hw3 : IntKind.i64.wrap (q : Int) = (q : Int) := by rw [IntKind.wrap_i64] <;> omega
                      have hq0 : (0 : Int) ≤ q := by omega
                      have hq2 : (0 : Int) ≤ (q : Int) + 1 := by omega
                      have hq1 : (q : Int) < (x.edges.length : Int) := by omega
                      ((repeat' (first | (go_big_may; fail) | go_values | go_skip | go_guarded | go_step | go_upon | go_back | dsimp only)); (refine region_still_tail 17 (by kernel_rfl) (by kernel_rfl) ?_; simp only [List.take_succ_cons, List.take_zero, List.drop_succ_cons, List.drop_zero]; (iterate 17 (first | ((with_reducible refine still_plain ?_ rfl ?_ ?_); rotate_left; (next => (go_simp; (try with_reducible rfl))); simp only [Act.put, List.setIfInBounds_toArray, List.set_cons_zero, List.set_cons_succ]) | ((with_reducible refine still_skip ?_ ?_); (next => (go_simp; done)); simp only [Act.put, List.setIfInBounds_toArray, List.set_cons_zero, List.set_cons_succ]) | ((with_reducible refine still_val ?_ ?_ ?_ ?_); rotate_left; (next => (go_simp; done)); (next => (go_simp; (try with_reducible rfl))); simp only [Act.put, List.setIfInBounds_toArray, List.set_cons_zero, List.set_cons_succ]))); (with_reducible refine wpStill_nil ?_)); (repeat' (first | (go_big_may; fail) | go_values | go_skip | go_guarded | go_step | go_upon | go_back | dsimp only)); refine HC.out.mono ?_; rintro e5 w5 ⟨nx5, sl5, ⟨rfl, hans⟩, h5⟩; have HANS := Lib.hid hans; have H5 := Lib.hid h5; clear h5 hans HC; (repeat' (first | (go_big_may; fail) | go_values | go_skip | go_guarded | go_step | go_upon | go_back | dsimp only)))
                      go_roundw
                      case rel => exact ⟨q + 1 + 1, nx5, sl5, by simp, by have := HLJ.out; omega, by rw [HANS.out.1]; exact HPO.out.2.2, by rw [HANS.out.1, HANS.out.2]; exact ⟨HPO.out.1, HPO.out.2.1⟩, by rw [HANS.out.1, HANS.out.2]; exact HN.out, H5.out⟩
                      case measure => simp [intOf] <;> (have := HLJ.out; omega)
              · have hend2 := heq
                rw [List.drop_eq_nil_of_le (by omega)] at hend2
                have hsl' : sl'.length = A.length := hi.1.len
                obtain ⟨c', hc'⟩ : ∃ c', sl'[nx]? = some c' := ⟨_, List.getElem?_eq_getElem (by omega)⟩
                have h5 := h3.pull3.drop
                obtain ⟨z0, z1, z2⟩ := h5.drop.rowCell (bos_get hc')
                obtain ⟨z3, _, _⟩ := h5.cellF (o := 2) rfl
                have h6 := (h5.swap.storeG ((CellT.stable _ _ _).both HR.out) nx (.bool true)).swap
                have hset : (bos sl').set nx (.bool true) = bos (sl'.set nx true) := bos_set sl' nx true
                rw [hset] at h6
                have H6 := Lib.hid h6
                have HN := Lib.hid (show visE (visN A k) (-1) x.edges (nx + 1, sl) = some (nx', sl') from hend2)
                have HL := Lib.hid hlj
                have hj3 : j = x.edges.length := by omega
                subst hj3
                clear h3 h5 h6 hi heq hend2 hsl' hc' hset HEQ HI
                (repeat' (first | (go_big_may; fail) | go_values | go_skip | go_guarded | go_step | go_upon | go_back | dsimp only))
                go_ret
                exact ⟨nx', sl'.set nx true, by rw [HN.out]; dsimp only; rw [if_neg HLF.out]; exact ⟨rfl, rfl, rfl⟩, H6.out⟩
    · by_cases hin : 0 ≤ n ∧ n < nx
      · obtain ⟨m, rfl⟩ := Int.eq_ofNat_of_zero_le hin.1
        have hm : m < sl.length := by omega
        obtain ⟨c, hc⟩ : ∃ c, sl[m]? = some c := ⟨_, List.getElem?_eq_getElem hm⟩
        obtain ⟨d0, _, _⟩ := h.drop.rowCell (bos_get hc)
        have hg := getD_of hc
        have hml : (m : Int) < (A.length : Int) := by omega
        have hmn : (m : Int) < (nx : Int) := by omega
        have hm0 : ¬ (m : Int) < 0 := by omega
        have H := Lib.hid h
        cases c with
        | true =>
          have hv := visN_back (A := A) (k := k) (s := (nx, sl)) (n := (m : Int)) hne ⟨by omega, hmn, by simpa using hg⟩
          rw [hv]
          clear h hc hg hv hi ht ih hA hin hne
          subst hva
          go_enter Try.func45, Try.ntmps45
          (repeat' (first | (go_big_may; fail) | go_values | go_skip | go_guarded | go_step | go_upon | go_back | dsimp only))
          go_ret
          exact ⟨nx, sl, ⟨rfl, rfl, rfl⟩, H.out⟩
        | false =>
          have hv := visN_bad (A := A) (k := k) (s := (nx, sl)) (n := (m : Int)) hne (fun h => by have h3 := h.2.2; rw [Int.toNat_natCast] at h3; rw [show sl.getD m false = false from hg] at h3; cases h3)
          rw [hv]
          clear h hc hg hv hi ht ih hA hin hne
          subst hva
          go_enter Try.func45, Try.ntmps45
          (repeat' (first | (go_big_may; fail) | go_values | go_skip | go_guarded | go_step | go_upon | go_back | dsimp only))
          go_ret
          exact ⟨nx, sl, rfl, H.out⟩
      · have hv := visN_bad (A := A) (k := k) (s := (nx, sl)) (n := n) hne (fun h => hin ⟨h.1, h.2.1⟩)
        rw [hv]
        have H := Lib.hid h
        clear h hv hi ht ih hA
        subst hva
        by_cases h0 : n < 0
        · clear hin hne
          go_enter Try.func45, Try.ntmps45
          (repeat' (first | (go_big_may; fail) | go_values | go_skip | go_guarded | go_step | go_upon | go_back | dsimp only))
          go_ret
          exact ⟨nx, sl, rfl, H.out⟩
        · have h1 : (nx : Int) < n := by omega
          clear hin hne
          by_cases h2 : (A.length : Int) ≤ n
          · go_enter Try.func45, Try.ntmps45
            (repeat' (first | (go_big_may; fail) | go_values | go_skip | go_guarded | go_step | go_upon | go_back | dsimp only))
            go_ret
            exact ⟨nx, sl, rfl, H.out⟩
          · go_enter Try.func45, Try.ntmps45
            (repeat' (first | (go_big_may; fail) | go_values | go_skip | go_guarded | go_step | go_upon | go_back | dsimp only))
            go_ret
            exact ⟨nx, sl, rfl, H.out⟩
end
end Go.Proofs.Ytcbdncjknpdnbaa
