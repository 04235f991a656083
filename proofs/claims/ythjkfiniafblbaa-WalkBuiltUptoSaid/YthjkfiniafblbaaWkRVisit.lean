/- The document's Shape walked: an automaton is gone through in the order of its numbers. -/
import Derived.Test.YthjkfiniafblbaaWkVisit
import Derived.Deep.DeepCutAuto
namespace Go.Proofs.Ythjkfiniafblbaa
open Go.RowKit

abbrev tRLk : TypeId := 78
abbrev tBo : TypeId := 4
abbrev bos (l : List Bool) : List Value := l.map Value.bool
theorem bos_set (l : List Bool) (j : Nat) (c : Bool) : (bos l).set j (.bool c) = bos (l.set j c) := by simp [bos, List.map_set]
theorem bos_get {l : List Bool} {j : Nat} {c : Bool} (h : l[j]? = some c) : (bos l)[j]? = some (.bool c) := by simp [bos, h]
theorem getD_of {l : List Bool} {j : Nat} {c : Bool} (h : l[j]? = some c) : l.getD j false = c := by rw [List.getD_eq_getElem?_getD, h]; rfl
/-- What the document's visit answers. -/
def RVisAns (o : Option (Nat × List Bool)) (e : Ending) (nx : Nat) (sl : List Bool) : Prop :=
  match o with
  | none => e = .returned (.bool false)
  | some s => e = .returned (.bool true) ∧ nx = s.1 ∧ sl = s.2
/-- The look in memory. -/
abbrev RLookG (kl g N : Nat) (va : Value) (nx : Nat) (sl : List Bool) (R : Thing) : Thing :=
  Both (CellT kl #[va, .int .i64 nx, .slice (some ⟨g, 0, none⟩) N N] tRLk) (Both (RowG tBo 1 (.slice (some ⟨g, 0, none⟩) N N) N (bos sl)) R)
theorem RLookG.stable {kl g N : Nat} {va : Value} {nx : Nat} {sl : List Bool} {R : Thing} (h : Stable R) : Stable (RLookG kl g N va nx sl R) := (CellT.stable _ _ _).both ((RowG.stable _ _ _ _ _).both h)

set_option maxRecDepth 100000 in
set_option maxHeartbeats 6400000 in
theorem rvisit_at {W : World} {A : List Sta} {va : Value} (hA : RdAut W va A) (hl : A.length ≤ 1048576 ∧ edgesN A ≤ 1048576) (kl g : Nat) (k : Nat) : ∀ (w : World) (nx : Nat) (sl : List Bool) (n : Int) (R : Thing),
    At W w (RLookG kl g A.length va nx sl R) → Stable R → VInv A (nx, sl) → VTr A (nx, sl) → A.length - nx < k →
    Calls Try.prog 37 #[.pointer (some ⟨kl, 0, none⟩), .int .i64 n] w fun e w' => ∃ nx' sl', RVisAns (visN A k (nx, sl) n) e nx' sl' ∧ At W w' (RLookG kl g A.length va nx' sl' R) := by
  induction k with
  | zero => intro w nx sl n R _ _ _ _ h; omega
  | succ k ih =>
    intro w nx sl n R h hR hi ht hk
    have hsl : sl.length = A.length := hi.len
    obtain ⟨c0, f0, hkl⟩ := h.cellF (o := 0) rfl
    obtain ⟨c1, f1, _⟩ := h.cellF (o := 1) rfl
    obtain ⟨c2, f2, _⟩ := h.cellF (o := 2) rfl
    obtain ⟨a0, ca, hva, _, hca⟩ := hA.shape
    unfold maxLen at hca
    have hle := hi.le
    dsimp only at hle
    by_cases hne : n = nx
    · subst hne
      by_cases hend : A.length ≤ nx
      · have hv := visN_end (A := A) (k := k) (s := (nx, sl)) hend
        rw [show visN A (k + 1) (nx, sl) (nx : Int) = none from hv]
        have hge : (A.length : Int) ≤ (nx : Int) := by omega
        have hn0 : ¬ (nx : Int) < 0 := by omega
        have H := Lib.hid h
        clear h hv hi ht ih hA
        subst hva
        go_enter Try.func37, Try.ntmps37
        (repeat' (first | (go_big_may; fail) | go_values | go_skip | go_guarded | go_step | go_upon | go_back | dsimp only))
        go_ret
        exact ⟨nx, sl, rfl, H.out⟩
      · obtain ⟨x, hx⟩ : ∃ x, A[nx]? = some x := ⟨_, List.getElem?_eq_getElem (by omega)⟩
        have hv := visN_in (k := k) (s := (nx, sl)) hx
        rw [show visN A (k + 1) (nx, sl) (nx : Int) = _ from hv]
        obtain ⟨b, off, cap, u, hsv, d0, d1, hu⟩ := hA.at hx
        obtain ⟨ua, uc, hus, _, huc⟩ := hu.shape
        unfold maxLen at huc
        subst hva
        cases hsv
        subst hus
        have hbw := World.block_lt_of_cell? _ _ d0
        have hbk : b ≠ kl := by have := h.cell.2; dsimp only at hbw; omega
        replace d0 := (h.below.cell (World.block_lt_of_cell? _ _ d0)).trans d0
        replace d1 := (h.below.cell (World.block_lt_of_cell? _ _ d1)).trans d1
        have hlt : (nx : Int) < (A.length : Int) := by omega
        have hn0 : ¬ (nx : Int) < 0 := by omega
        have hel := edgesN_le hx
        have h1 := h.setCell ((RowG.stable _ _ _ _ _).both hR) 1 (.int .i64 ((nx + 1 : Nat) : Int))
        have h2 := (h1.newCell ((CellT.stable _ _ _).both ((RowG.stable _ _ _ _ _).both hR)) #[.bool x.final, .slice ua x.edges.length uc] tRS).push3
        have hpx : (w.setCell ⟨kl, 1, none⟩ (.int .i64 ((nx + 1 : Nat) : Int))).heap.size = w.heap.size := by simp [World.setCell]
        rw [hpx] at h2
        have hs1 : VInv A (nx + 1, sl) := ⟨hi.len, by dsimp only; omega, fun i hq => by have := hi.lt i hq; dsimp only at this ⊢; omega⟩
        have ht1 : VTr A (nx + 1, sl) := ht
        have hstart : visE (visN A k) (-1) x.edges (nx + 1, sl) = visE (visN A k) (prevB x.edges 0) (x.edges.drop 0) (nx + 1, sl) := rfl
        have HS := Lib.hid (And.intro (And.intro hs1 ht1) (And.intro hstart h2))
        clear hs1 ht1 hstart hpx
        have H := Lib.hid h
        have HV := Lib.hid hv
        have HX := Lib.hid hx
        have HU := Lib.hid (show RdEds W (.slice ua x.edges.length uc) x.edges from hu)
        have HA := Lib.hid hA
        have HI := Lib.hid hi
        have IH := Lib.hid ih
        have HR := Lib.hid hR
        clear ih hR h hv hx hu hA hi ht h1 h2
        by_cases hleaf : x.edges = [] ∧ x.final = false ∧ A.length ≠ 1
        · obtain ⟨g1, g2, g3⟩ := hleaf
          have g4 : x.edges.length = 0 := by rw [g1]; rfl
          have g5 : (1 : Int) < (A.length : Int) := by omega
          have HN := Lib.hid (show visE (visN A k) (-1) x.edges (nx + 1, sl) = some (nx + 1, sl) by rw [g1]; rfl)
          have HG := Lib.hid (And.intro g1 (And.intro g2 g3))
          rw [g2] at d0
          rw [g4] at d1
          clear g1 g2 g3 g4
          go_enter Try.func37, Try.ntmps37
          (repeat' (first | (go_big_may; fail) | go_values | go_skip | go_guarded | go_step | go_upon | go_back | dsimp only))
          go_ret
          exact ⟨nx + 1, sl, by rw [HN.out]; dsimp only; rw [if_pos HG.out]; exact rfl, by have h9 := HS.out.2.2.pull3.drop; rw [HG.out.2.1, HG.out.1] at h9; exact h9⟩
        · have HLF := Lib.hid hleaf
          have hsplit : 0 < x.edges.length ∨ (x.edges.length = 0 ∧ (x.final = true ∨ (x.final = false ∧ ¬ (1 : Int) < A.length))) := by
            by_cases g1 : x.edges = []
            · refine .inr ⟨by rw [g1]; rfl, ?_⟩
              cases g2 : x.final with
              | true => exact .inl rfl
              | false =>
                refine .inr ⟨rfl, fun g3 => hleaf ⟨g1, g2, by omega⟩⟩
            · exact .inl (List.length_pos_iff.2 g1)
          clear hleaf
          have HSP := Lib.hid hsplit
          clear hsplit
          go_enter Try.func37, Try.ntmps37
          go_upto_region 7 with (fail)
          go_cut [71] (fun v wx => v = .bool false ∧ At W wx (RLookG kl g A.length (.slice (some ⟨b, off, none⟩) A.length ca) (nx + 1) sl (Both (CellT w.heap.size #[.bool x.final, .slice ua x.edges.length uc] tRS) R)))
          case first =>
            refine wp_norm ?_
            rename_i J K' hJ hK
            have HJ := Lib.hid hJ
            have HK := Lib.hid hK
            clear hJ hK
            have HS2 := Lib.hid HS.out.2.2
            rcases HSP.out with g1 | ⟨g1, g2 | ⟨g2, g3⟩⟩
            · have g4 : ((x.edges.length : Int) == 0) = false := by rw [beq_eq_false_iff_ne]; omega
              clear HS HSP g1
              (repeat' (first | (go_big_may; fail) | go_values | go_skip | go_guarded | go_step | go_upon | go_back | dsimp only))
              refine HK.out _ _ ?_
              have hJ := HJ.out
              go_meet
              case rel => exact ⟨rfl, HS2.out⟩
            · have e1 : (Value.slice ua x.edges.length uc) = .slice ua 0 uc := by rw [g1]
              have e2 : Value.bool x.final = .bool true := by rw [g2]
              rw [e1, e2] at HS2
              have E := Lib.hid (And.intro e1 e2)
              clear HS HSP e1 e2
              (repeat' (first | (go_big_may; fail) | go_values | go_skip | go_guarded | go_step | go_upon | go_back | dsimp only))
              refine HK.out _ _ ?_
              have hJ := HJ.out
              go_meet
              case rel => exact ⟨rfl, by rw [E.out.1, E.out.2]; exact HS2.out⟩
            · have e1 : (Value.slice ua x.edges.length uc) = .slice ua 0 uc := by rw [g1]
              have e2 : Value.bool x.final = .bool false := by rw [g2]
              rw [e1, e2] at HS2
              have E := Lib.hid (And.intro e1 e2)
              clear HS HSP e1 e2
              (repeat' (first | (go_big_may; fail) | go_values | go_skip | go_guarded | go_step | go_upon | go_back | dsimp only))
              refine HK.out _ _ ?_
              have hJ := HJ.out
              go_meet
              case rel => exact ⟨rfl, by rw [E.out.1, E.out.2]; exact HS2.out⟩
          case rest =>
            obtain ⟨rfl, h3⟩ := hcut
            have HSS := Lib.hid (And.intro HS.out.1 HS.out.2.1)
            have H3 := Lib.hid h3
            clear h3 HS c0 c1 c2 f0 f1 f2 d0 d1
            (repeat' (first | (go_big_may; fail) | go_values | go_skip | go_guarded | go_step | go_upon | go_back | dsimp only))
            go_loopw [6] (fun vj wr => ∃ (j nx' : Nat) (sl' : List Bool), vj = .int .i64 j ∧ j ≤ x.edges.length ∧ nx + 1 ≤ nx' ∧ (VInv A (nx', sl') ∧ VTr A (nx', sl')) ∧ visE (visN A k) (-1) x.edges (nx + 1, sl) = visE (visN A k) (prevB x.edges j) (x.edges.drop j) (nx', sl') ∧ At W wr (RLookG kl g A.length (.slice (some ⟨b, off, none⟩) A.length ca) nx' sl' (Both (CellT w.heap.size #[.bool x.final, .slice ua x.edges.length uc] tRS) R))) (fun vj _ => x.edges.length - (intOf vj).toNat)
            case atStart => exact ⟨0, nx + 1, sl, rfl, Nat.zero_le _, Nat.le_refl _, HSS.out.1, HSS.out.2, H3.out⟩
            case round =>
              obtain ⟨j, nx', sl', rfl, hj, hnx, hi, heq, h3⟩ := hrel
              have HI := Lib.hid hi
              have HEQ := Lib.hid heq
              obtain ⟨y0, _, y1⟩ := h3.drop.drop.cellF (o := 1) rfl
              by_cases hlj : j < x.edges.length
              · obtain ⟨e, he⟩ : ∃ e, x.edges[j]? = some e := ⟨_, List.getElem?_eq_getElem hlj⟩
                obtain ⟨be, oe, ce, hse, e0, e1⟩ := RdEds.at (HU.out.below h3.below) he
                cases hse
                have hdr : x.edges.drop j = e :: x.edges.drop (j + 1) := by
                  obtain ⟨h1, h2⟩ := List.getElem?_eq_some_iff.1 he
                  rw [List.drop_eq_getElem_cons h1, h2]
                have hstR : Stable (Both (CellT w.heap.size #[.bool x.final, .slice (some ⟨be, oe, none⟩) x.edges.length uc] tRS) R) := (CellT.stable _ _ _).both HR.out
                have h4 := h3.drew (RLookG.stable hstR)
                have hc := IH.out _ _ _ e.2 _ h4 hstR hi.1 hi.2 (by omega)
                have hlt3 : (j : Int) < (x.edges.length : Int) := by omega
                have HNX := Lib.hid hnx
                have HLJ := Lib.hid hlj
                have HE := Lib.hid he
                have H4 := Lib.hid h4.pull3.drop
                have heq2 := heq
                rw [hdr] at heq2
                have hcase : (j = 0 ∧ prevB x.edges j = -1) ∨ ∃ q e', j = q + 1 ∧ x.edges[q]? = some e' ∧ prevB x.edges j = e'.1.toNat := by
                  by_cases hj0 : j = 0
                  · exact .inl ⟨hj0, by rw [hj0]; rfl⟩
                  · obtain ⟨q, rfl⟩ : ∃ q, j = q + 1 := ⟨j - 1, by omega⟩
                    obtain ⟨e', he'⟩ : ∃ e', x.edges[q]? = some e' := ⟨_, List.getElem?_eq_getElem (by omega)⟩
                    exact .inr ⟨q, e', rfl, he', prevB_succ he'⟩
                by_cases hbad : (e.1.toNat : Int) ≤ prevB x.edges j
                · have hn := heq2.trans (visE_bad hbad)
                  rcases hcase with ⟨rfl, hp⟩ | ⟨q, e', rfl, he', hp⟩
                  · rw [hp] at hbad; omega
                  · rw [hp] at hbad
                    have hb2 : e.1.toNat ≤ e'.1.toNat := by omega
                    obtain ⟨_, _, _, hse, z0, _⟩ := RdEds.at (HU.out.below h3.below) he'
                    cases hse
                    have HN := Lib.hid hn
                    have HP := Lib.hid hp
                    have HB := Lib.hid hbad
                    clear h3 hi heq heq2 he hc h4 hstR hn he' hp hbad hlj hnx hdr
                    have hw3 : IntKind.i64.wrap (q : Int) = (q : Int) := by rw [IntKind.wrap_i64] <;> omega
                    have hq0 : (0 : Int) ≤ q := by omega
                    have hq2 : (0 : Int) ≤ (q : Int) + 1 := by omega
                    have hq1 : (q : Int) < (x.edges.length : Int) := by omega
                    (repeat' (first | (go_big_may; fail) | go_values | go_skip | go_guarded | go_step | go_upon | go_back | dsimp only))
                    (refine region_still_tail 17 (by kernel_rfl) (by kernel_rfl) ?_; simp only [List.take_succ_cons, List.take_zero, List.drop_succ_cons, List.drop_zero]; (iterate 17 (first | ((with_reducible refine still_plain ?_ rfl ?_ ?_); rotate_left; (next => (go_simp; (try with_reducible rfl))); simp only [Act.put, List.setIfInBounds_toArray, List.set_cons_zero, List.set_cons_succ]) | ((with_reducible refine still_skip ?_ ?_); (next => (go_simp; done)); simp only [Act.put, List.setIfInBounds_toArray, List.set_cons_zero, List.set_cons_succ]) | ((with_reducible refine still_val ?_ ?_ ?_ ?_); rotate_left; (next => (go_simp; done)); (next => (go_simp; (try with_reducible rfl))); simp only [Act.put, List.setIfInBounds_toArray, List.set_cons_zero, List.set_cons_succ]))); (with_reducible refine wpStill_nil ?_))
                    (repeat' (first | (go_big_may; fail) | go_values | go_skip | go_guarded | go_step | go_upon | go_back | dsimp only))
                    go_ret
                    exact ⟨nx', sl', by rw [HN.out]; rfl, H4.out⟩
                · cases hv : visN A k (nx', sl') e.2 with
                  | none =>
                    have hn := heq2.trans (visE_none hbad hv)
                    rw [hv] at hc
                    have HC := Lib.hid hc
                    have HN := Lib.hid hn
                    rcases hcase with ⟨rfl, hp⟩ | ⟨q, e', rfl, he', hp⟩
                    · clear h3 hi heq heq2 he hc h4 hstR hn hp hbad hlj hnx hdr hv
                      simp only [Nat.zero_mul, Nat.add_zero] at e0 e1
                      have hz : ((0 : Nat) : Int) = 0 := rfl
                      rw [hz]
                      clear hz
                      ((repeat' (first | (go_big_may; fail) | go_values | go_skip | go_guarded | go_step | go_upon | go_back | dsimp only)); (refine region_still_tail 17 (by kernel_rfl) (by kernel_rfl) ?_; simp only [List.take_succ_cons, List.take_zero, List.drop_succ_cons, List.drop_zero]; (iterate 17 (first | ((with_reducible refine still_plain ?_ rfl ?_ ?_); rotate_left; (next => (go_simp; (try with_reducible rfl))); simp only [Act.put, List.setIfInBounds_toArray, List.set_cons_zero, List.set_cons_succ]) | ((with_reducible refine still_skip ?_ ?_); (next => (go_simp; done)); simp only [Act.put, List.setIfInBounds_toArray, List.set_cons_zero, List.set_cons_succ]) | ((with_reducible refine still_val ?_ ?_ ?_ ?_); rotate_left; (next => (go_simp; done)); (next => (go_simp; (try with_reducible rfl))); simp only [Act.put, List.setIfInBounds_toArray, List.set_cons_zero, List.set_cons_succ]))); (with_reducible refine wpStill_nil ?_)); (repeat' (first | (go_big_may; fail) | go_values | go_skip | go_guarded | go_step | go_upon | go_back | dsimp only)); refine HC.out.mono ?_; rintro e5 w5 ⟨nx5, sl5, rfl, h5⟩; have H5 := Lib.hid h5.pull3.drop; clear h5 HC; (repeat' (first | (go_big_may; fail) | go_values | go_skip | go_guarded | go_step | go_upon | go_back | dsimp only)); go_ret; exact ⟨nx5, sl5, by rw [HN.out]; rfl, H5.out⟩)
                    · rw [hp] at hbad
                      have hb2 : ¬ e.1.toNat ≤ e'.1.toNat := by omega
                      obtain ⟨_, _, _, hse, z0, _⟩ := RdEds.at (HU.out.below h3.below) he'
                      cases hse
                      clear h3 hi heq heq2 he hc h4 hstR hn he' hp hbad hlj hnx hdr hv
                      have hw3 : IntKind.i64.wrap (q : Int) = (q : Int) := by rw [IntKind.wrap_i64] <;> omega
                      have hq0 : (0 : Int) ≤ q := by omega
                      have hq2 : (0 : Int) ≤ (q : Int) + 1 := by omega
                      have hq1 : (q : Int) < (x.edges.length : Int) := by omega
                      ((repeat' (first | (go_big_may; fail) | go_values | go_skip | go_guarded | go_step | go_upon | go_back | dsimp only)); (refine region_still_tail 17 (by kernel_rfl) (by kernel_rfl) ?_; simp only [List.take_succ_cons, List.take_zero, List.drop_succ_cons, List.drop_zero]; (iterate 17 (first | ((with_reducible refine still_plain ?_ rfl ?_ ?_); rotate_left; (next => (go_simp; (try with_reducible rfl))); simp only [Act.put, List.setIfInBounds_toArray, List.set_cons_zero, List.set_cons_succ]) | ((with_reducible refine still_skip ?_ ?_); (next => (go_simp; done)); simp only [Act.put, List.setIfInBounds_toArray, List.set_cons_zero, List.set_cons_succ]) | ((with_reducible refine still_val ?_ ?_ ?_ ?_); rotate_left; (next => (go_simp; done)); (next => (go_simp; (try with_reducible rfl))); simp only [Act.put, List.setIfInBounds_toArray, List.set_cons_zero, List.set_cons_succ]))); (with_reducible refine wpStill_nil ?_)); (repeat' (first | (go_big_may; fail) | go_values | go_skip | go_guarded | go_step | go_upon | go_back | dsimp only)); refine HC.out.mono ?_; rintro e5 w5 ⟨nx5, sl5, rfl, h5⟩; have H5 := Lib.hid h5.pull3.drop; clear h5 HC; (repeat' (first | (go_big_may; fail) | go_values | go_skip | go_guarded | go_step | go_upon | go_back | dsimp only)); go_ret; exact ⟨nx5, sl5, by rw [HN.out]; rfl, H5.out⟩)
                  | some s2 =>
                    have hn := heq2.trans (visE_some hbad hv)
                    rw [← prevB_succ he] at hn
                    rw [hv] at hc
                    have hpo := (visN_post _ _ _ _ hi.1 hi.2 hv).1
                    have HPO := Lib.hid (And.intro hpo.inv (And.intro hpo.tr (Nat.le_trans hnx hpo.le)))
                    have HC := Lib.hid hc
                    have HN := Lib.hid hn
                    rcases hcase with ⟨rfl, hp⟩ | ⟨q, e', rfl, he', hp⟩
                    · clear h3 hi heq heq2 he hc h4 hstR hn hp hbad hlj hnx hdr hv hpo
                      simp only [Nat.zero_mul, Nat.add_zero] at e0 e1
                      have hz : ((0 : Nat) : Int) = 0 := rfl
                      rw [hz]
                      clear hz
                      ((repeat' (first | (go_big_may; fail) | go_values | go_skip | go_guarded | go_step | go_upon | go_back | dsimp only)); (refine region_still_tail 17 (by kernel_rfl) (by kernel_rfl) ?_; simp only [List.take_succ_cons, List.take_zero, List.drop_succ_cons, List.drop_zero]; (iterate 17 (first | ((with_reducible refine still_plain ?_ rfl ?_ ?_); rotate_left; (next => (go_simp; (try with_reducible rfl))); simp only [Act.put, List.setIfInBounds_toArray, List.set_cons_zero, List.set_cons_succ]) | ((with_reducible refine still_skip ?_ ?_); (next => (go_simp; done)); simp only [Act.put, List.setIfInBounds_toArray, List.set_cons_zero, List.set_cons_succ]) | ((with_reducible refine still_val ?_ ?_ ?_ ?_); rotate_left; (next => (go_simp; done)); (next => (go_simp; (try with_reducible rfl))); simp only [Act.put, List.setIfInBounds_toArray, List.set_cons_zero, List.set_cons_succ]))); (with_reducible refine wpStill_nil ?_)); (repeat' (first | (go_big_may; fail) | go_values | go_skip | go_guarded | go_step | go_upon | go_back | dsimp only)); refine HC.out.mono ?_; rintro e5 w5 ⟨nx5, sl5, ⟨rfl, hans⟩, h5⟩; have HANS := Lib.hid hans; have H5 := Lib.hid h5; clear h5 hans HC; (repeat' (first | (go_big_may; fail) | go_values | go_skip | go_guarded | go_step | go_upon | go_back | dsimp only)))
                      go_roundw
                      case rel => exact ⟨1, nx5, sl5, rfl, by have := HLJ.out; omega, by rw [HANS.out.1]; exact HPO.out.2.2, by rw [HANS.out.1, HANS.out.2]; exact ⟨HPO.out.1, HPO.out.2.1⟩, by rw [HANS.out.1, HANS.out.2]; exact HN.out, H5.out⟩
                      case measure => simp [intOf] <;> (have := HLJ.out; omega)
                    · rw [hp] at hbad
                      have hb2 : ¬ e.1.toNat ≤ e'.1.toNat := by omega
                      obtain ⟨_, _, _, hse, z0, _⟩ := RdEds.at (HU.out.below h3.below) he'
                      cases hse
                      clear h3 hi heq heq2 he hc h4 hstR hn he' hp hbad hlj hnx hdr hv hpo
                      have hw3 : IntKind.i64.wrap (q : Int) = (q : Int) := by rw [IntKind.wrap_i64] <;> omega
                      have hq0 : (0 : Int) ≤ q := by omega
                      have hq2 : (0 : Int) ≤ (q : Int) + 1 := by omega
                      have hq1 : (q : Int) < (x.edges.length : Int) := by omega
                      ((repeat' (first | (go_big_may; fail) | go_values | go_skip | go_guarded | go_step | go_upon | go_back | dsimp only)); (refine region_still_tail 17 (by kernel_rfl) (by kernel_rfl) ?_; simp only [List.take_succ_cons, List.take_zero, List.drop_succ_cons, List.drop_zero]; (iterate 17 (first | ((with_reducible refine still_plain ?_ rfl ?_ ?_); rotate_left; (next => (go_simp; (try with_reducible rfl))); simp only [Act.put, List.setIfInBounds_toArray, List.set_cons_zero, List.set_cons_succ]) | ((with_reducible refine still_skip ?_ ?_); (next => (go_simp; done)); simp only [Act.put, List.setIfInBounds_toArray, List.set_cons_zero, List.set_cons_succ]) | ((with_reducible refine still_val ?_ ?_ ?_ ?_); rotate_left; (next => (go_simp; done)); (next => (go_simp; (try with_reducible rfl))); simp only [Act.put, List.setIfInBounds_toArray, List.set_cons_zero, List.set_cons_succ]))); (with_reducible refine wpStill_nil ?_)); (repeat' (first | (go_big_may; fail) | go_values | go_skip | go_guarded | go_step | go_upon | go_back | dsimp only)); refine HC.out.mono ?_; rintro e5 w5 ⟨nx5, sl5, ⟨rfl, hans⟩, h5⟩; have HANS := Lib.hid hans; have H5 := Lib.hid h5; clear h5 hans HC; (repeat' (first | (go_big_may; fail) | go_values | go_skip | go_guarded | go_step | go_upon | go_back | dsimp only)))
                      go_roundw
                      case rel => exact ⟨q + 1 + 1, nx5, sl5, by simp, by have := HLJ.out; omega, by rw [HANS.out.1]; exact HPO.out.2.2, by rw [HANS.out.1, HANS.out.2]; exact ⟨HPO.out.1, HPO.out.2.1⟩, by rw [HANS.out.1, HANS.out.2]; exact HN.out, H5.out⟩
                      case measure => simp [intOf] <;> (have := HLJ.out; omega)
              · have hend2 := heq
                rw [List.drop_eq_nil_of_le (by omega)] at hend2
                have hsl' : sl'.length = A.length := hi.1.len
                obtain ⟨c', hc'⟩ : ∃ c', sl'[nx]? = some c' := ⟨_, List.getElem?_eq_getElem (by omega)⟩
                have h5 := h3.pull3.drop
                obtain ⟨z0, z1, z2⟩ := h5.drop.rowCell (bos_get hc')
                obtain ⟨z3, _, _⟩ := h5.cellF (o := 2) rfl
                have h6 := (h5.swap.storeG ((CellT.stable _ _ _).both HR.out) nx (.bool true)).swap
                have hset : (bos sl').set nx (.bool true) = bos (sl'.set nx true) := bos_set sl' nx true
                rw [hset] at h6
                have H6 := Lib.hid h6
                have HN := Lib.hid (show visE (visN A k) (-1) x.edges (nx + 1, sl) = some (nx', sl') from hend2)
                have HL := Lib.hid hlj
                have hj3 : j = x.edges.length := by omega
                subst hj3
                clear h3 h5 h6 hi heq hend2 hsl' hc' hset HEQ HI
                (repeat' (first | (go_big_may; fail) | go_values | go_skip | go_guarded | go_step | go_upon | go_back | dsimp only))
                go_ret
                exact ⟨nx', sl'.set nx true, by rw [HN.out]; dsimp only; rw [if_neg HLF.out]; exact ⟨rfl, rfl, rfl⟩, H6.out⟩
    · by_cases hin : 0 ≤ n ∧ n < nx
      · obtain ⟨m, rfl⟩ := Int.eq_ofNat_of_zero_le hin.1
        have hm : m < sl.length := by omega
        obtain ⟨c, hc⟩ : ∃ c, sl[m]? = some c := ⟨_, List.getElem?_eq_getElem hm⟩
        obtain ⟨d0, _, _⟩ := h.drop.rowCell (bos_get hc)
        have hg := getD_of hc
        have hml : (m : Int) < (A.length : Int) := by omega
        have hmn : (m : Int) < (nx : Int) := by omega
        have hm0 : ¬ (m : Int) < 0 := by omega
        have H := Lib.hid h
        cases c with
        | true =>
          have hv := visN_back (A := A) (k := k) (s := (nx, sl)) (n := (m : Int)) hne ⟨by omega, hmn, by simpa using hg⟩
          rw [hv]
          clear h hc hg hv hi ht ih hA hin hne
          subst hva
          go_enter Try.func37, Try.ntmps37
          (repeat' (first | (go_big_may; fail) | go_values | go_skip | go_guarded | go_step | go_upon | go_back | dsimp only))
          go_ret
          exact ⟨nx, sl, ⟨rfl, rfl, rfl⟩, H.out⟩
        | false =>
          have hv := visN_bad (A := A) (k := k) (s := (nx, sl)) (n := (m : Int)) hne (fun h => by have h3 := h.2.2; rw [Int.toNat_natCast] at h3; rw [show sl.getD m false = false from hg] at h3; cases h3)
          rw [hv]
          clear h hc hg hv hi ht ih hA hin hne
          subst hva
          go_enter Try.func37, Try.ntmps37
          (repeat' (first | (go_big_may; fail) | go_values | go_skip | go_guarded | go_step | go_upon | go_back | dsimp only))
          go_ret
          exact ⟨nx, sl, rfl, H.out⟩
      · have hv := visN_bad (A := A) (k := k) (s := (nx, sl)) (n := n) hne (fun h => hin ⟨h.1, h.2.1⟩)
        rw [hv]
        have H := Lib.hid h
        clear h hv hi ht ih hA
        subst hva
        by_cases h0 : n < 0
        · clear hin hne
          go_enter Try.func37, Try.ntmps37
          (repeat' (first | (go_big_may; fail) | go_values | go_skip | go_guarded | go_step | go_upon | go_back | dsimp only))
          go_ret
          exact ⟨nx, sl, rfl, H.out⟩
        · have h1 : (nx : Int) < n := by omega
          clear hin hne
          by_cases h2 : (A.length : Int) ≤ n
          · go_enter Try.func37, Try.ntmps37
            (repeat' (first | (go_big_may; fail) | go_values | go_skip | go_guarded | go_step | go_upon | go_back | dsimp only))
            go_ret
            exact ⟨nx, sl, rfl, H.out⟩
          · go_enter Try.func37, Try.ntmps37
            (repeat' (first | (go_big_may; fail) | go_values | go_skip | go_guarded | go_step | go_upon | go_back | dsimp only))
            go_ret
            exact ⟨nx, sl, rfl, H.out⟩
end Go.Proofs.Ythjkfiniafblbaa
