/- walk.counts walked. -/
import Derived.Test.YthjkfiniafblbaaTrie
import Derived.Test.YthjkfiniafblbaaDawgBuild
namespace Go.Proofs.Ythjkfiniafblbaa
open Go.RowKit

abbrev intsI (l : List Int) : List Value := l.map fun c => .int .i64 c
theorem intsI_get {l : List Int} {j : Nat} {c : Int} (h : l[j]? = some c) : (intsI l)[j]? = some (.int .i64 c) := by simp [intsI, h]
theorem intsI_set (l : List Int) (j : Nat) (c : Int) : (intsI l).set j (.int .i64 c) = intsI (l.set j c) := by simp [intsI, List.map_set]
abbrev tIs : TypeId := 23
abbrev tFc : TypeId := 105
abbrev CntT (ko ka kv g N : Nat) (va : Value) (cs : List Int) (R : Thing) : Thing :=
  Both (CellT ko #[.slice (some ⟨g, 0, none⟩) N N] tIs) (Both (CellT ka #[va] tSl) (Both (CellT kv #[.func (.func 67) #[] #[ptrN ko, ptrN ka, ptrN kv]] tFc) (Both (RowG tInt 1 (.slice (some ⟨g, 0, none⟩) N N) N (intsI cs)) R)))
theorem CntT.stable {ko ka kv g N : Nat} {va : Value} {cs : List Int} {R : Thing} (h : Stable R) : Stable (CntT ko ka kv g N va cs R) := (CellT.stable _ _ _).both ((CellT.stable _ _ _).both ((CellT.stable _ _ _).both ((RowG.stable _ _ _ _ _).both h)))
theorem CntT.inT {ko ka kv g N : Nat} {va : Value} {cs : List Int} {A R : Thing} {w : World} {fp : List Nat} (h : Both A (CntT ko ka kv g N va cs R) w fp) : CntT ko ka kv g N va cs (Both A R) w fp :=
  Both.mono (fun _ _ q => Both.mono (fun _ _ q => Both.mono (fun _ _ q => q.assoc) q.assoc) q.assoc) h.assoc
theorem CntT.outT {ko ka kv g N : Nat} {va : Value} {cs : List Int} {A R : Thing} {w : World} {fp : List Nat} (h : CntT ko ka kv g N va cs (Both A R) w fp) : Both A (CntT ko ka kv g N va cs R) w fp :=
  Both.assoc (Both.mono (fun _ _ q => Both.assoc (Both.mono (fun _ _ q => Both.assoc (Both.mono (fun _ _ q => q.assoc) q)) q)) h)

set_option maxRecDepth 100000 in
set_option maxHeartbeats 1600000 in
theorem cvis_at {W : World} {A : List Sta} {va : Value} (hA : RdAut W va A) (hl : A.length ≤ 1048576 ∧ edgesN A ≤ 1048576) (ko ka kv g : Nat) (k : Nat) : ∀ (w : World) (cs : List Int) (n : Nat) (t : Trie) (R : Thing),
    At W w (CntT ko ka kv g A.length va cs R) → Stable R → CInv A cntI 0 cs → Unf A n t → htT t < k →
    Calls Try.prog 67 #[.int .i64 n, ptrN ko, ptrN ka, ptrN kv] w fun e w' => e = .returned (.int .i64 (cntI t)) ∧ ∃ cs', CInv A cntI 0 cs' ∧ (∀ j, GoodC A cntI cs j → GoodC A cntI cs' j) ∧ (∀ j, Gets A n j → GoodC A cntI cs' j) ∧ At W w' (CntT ko ka kv g A.length va cs' R) := by
  induction k with
  | zero => intro w cs n t R _ _ _ _ h; omega
  | succ k ih =>
    intro w cs n t R h hR hi hu hk
    have hn := hu.lt
    obtain ⟨v, hv⟩ : ∃ v, cs[n]? = some v := ⟨_, List.getElem?_eq_getElem (by rw [hi.len]; exact hn)⟩
    have hst : ∀ cs, Stable (CntT ko ka kv g A.length va cs R) := fun cs => CntT.stable hR
    obtain ⟨c1, _, _⟩ := h.cellF (o := 0) (u := .slice (some ⟨g, 0, none⟩) A.length A.length) rfl
    obtain ⟨c2, _, _⟩ := h.drop.cellF (o := 0) (u := va) rfl
    obtain ⟨c3, _, _⟩ := h.drop.drop.drop.rowCell (intsI_get hv)
    have hnI : (n : Int) < (A.length : Int) := by omega
    have hn0 : (0 : Int) ≤ (n : Int) := by omega
    by_cases hv0 : v = 0
    · subst hv0
      obtain ⟨x, hx, hux⟩ := hu
      obtain ⟨b, off, cap, u, hsv, d0, d1, hue⟩ := hA.at hx
      obtain ⟨ua, uc, rfl, _, huc⟩ := hue.shape
      unfold maxLen at huc
      subst hsv
      replace d0 := (h.below.cell (World.block_lt_of_cell? _ _ d0)).trans d0
      replace d1 := (h.below.cell (World.block_lt_of_cell? _ _ d1)).trans d1
      have hel := edgesN_le hx
      have hfin := hux.final
      have H := Lib.hid h
      have HR := Lib.hid hR
      have HI := Lib.hid hi
      have HU := Lib.hid hux
      have HX := Lib.hid hx
      have IH := Lib.hid ih
      have HE := Lib.hid (show RdEds W (.slice ua x.edges.length uc) x.edges from hue)
      have HST := Lib.hid hst
      have HUL := Lib.hid (uE_le hux)
      have HFIN := Lib.hid hfin
      clear h hR hi hux hx ih hue hst hfin hv
      go_enter Try.func67, Try.ntmps67
      go_upto_if 22 with (fail)
      go_cut [6] (fun vc wx => vc = .int .i64 (finN x.final : Nat) ∧ wx = w)
      case first =>
        refine wp_norm ?_
        rename_i J K' hJ hK
        have HJ := Lib.hid hJ
        have HK := Lib.hid hK
        clear hJ hK
        cases hf : x.final with
        | true =>
          (repeat' (first | (go_big_may; fail) | go_values | go_skip | go_guarded | go_step | go_upon | go_back | dsimp only))
          refine HK.out _ _ ?_
          have hJ := HJ.out
          go_meet
          case rel => exact ⟨by rw [hf]; rfl, rfl⟩
        | false =>
          (repeat' (first | (go_big_may; fail) | go_values | go_skip | go_guarded | go_step | go_upon | go_back | dsimp only))
          refine HK.out _ _ ?_
          have hJ := HJ.out
          go_meet
          case rel => exact ⟨by rw [hf]; rfl, rfl⟩
      case rest =>
        obtain ⟨rfl, rfl⟩ := hcut
        (repeat' (first | (go_big_may; fail) | go_values | go_skip | go_guarded | go_step | go_upon | go_back | dsimp only))
        go_loopw [6, 29] (fun vc vj wr => ∃ (j c : Nat) (tj : Trie) (cs' : List Int), vj = .int .i64 j ∧ vc = .int .i64 c ∧ j ≤ x.edges.length ∧ UnfE A tj x.final (x.edges.drop j) ∧ c + uE tj = finN x.final + uE t ∧ CInv A cntI 0 cs' ∧ (∀ i, GoodC A cntI cs i → GoodC A cntI cs' i) ∧
          (∀ q e, q < j → x.edges[q]? = some e → ∀ i, Gets A e.2.toNat i → GoodC A cntI cs' i) ∧ At W wr (CntT ko ka kv g A.length (.slice (some ⟨b, off, none⟩) A.length cap) cs' R)) (fun _ vj _ => x.edges.length - (intOf vj).toNat)
        case atStart => exact ⟨0, finN x.final, t, cs, rfl, rfl, Nat.zero_le _, HU.out, rfl, HI.out, fun _ h => h, fun q e h => absurd h (Nat.not_lt_zero _), H.out⟩
        case round =>
          obtain ⟨j, c, tj, cs', rfl, rfl, hj, hutj, hsum, hi', hmono, hdone, h3⟩ := hrel
          have hcb : c ≤ 1153057894337478656 := by
            have := HUL.out
            have h0 : finN x.final ≤ 1 := by unfold finN; split <;> omega
            have h1 : x.edges.length * 1099511627777 ≤ 1048576 * 1099511627777 := Nat.mul_le_mul_right _ (by omega)
            omega
          clear c1 c2 c3
          obtain ⟨c1, _, _⟩ := h3.cellF (o := 0) (u := .slice (some ⟨g, 0, none⟩) A.length A.length) rfl
          by_cases hlj : j < x.edges.length
          · obtain ⟨e, he⟩ : ∃ e, x.edges[j]? = some e := ⟨_, List.getElem?_eq_getElem hlj⟩
            have hdr : x.edges.drop j = e :: x.edges.drop (j + 1) := by
              obtain ⟨h1, h2⟩ := List.getElem?_eq_some_iff.1 he
              rw [List.drop_eq_getElem_cons h1, h2]
            rw [hdr] at hutj
            obtain ⟨ct, r, rfl, he0, hct, hr⟩ := hutj.cons
            obtain ⟨ct', _, hct', hht⟩ := HU.out.mem e (List.mem_of_getElem? he)
            obtain rfl := hct.uniq hct'
            obtain ⟨m, hm⟩ := Int.eq_ofNat_of_zero_le he0
            rw [hm, Int.toNat_natCast] at hct
            have h4 := h3.newCell (HST.out _) #[bv e.1, .int .i64 m] tAE
            have h5 : At W (wr.alloc (.cells #[bv e.1, .int .i64 m] tAE)) (CntT ko ka kv g A.length (.slice (some ⟨b, off, none⟩) A.length cap) cs' (Both (CellT wr.heap.size #[bv e.1, .int .i64 m] tAE) R)) := h4.impl fun _ q => CntT.inT q
            have hcall := IH.out _ cs' m ct _ h5 ((CellT.stable _ _ _).both HR.out) hi' hct (by omega)
            obtain ⟨y3, _, _⟩ := h5.drop.drop.cellF (o := 0) (u := .func (.func 67) #[] #[ptrN ko, ptrN ka, ptrN kv]) rfl
            obtain ⟨be, oe, ce, hse, e0, e1⟩ := RdEds.at (HE.out.below h3.below) he
            cases hse
            rw [hm] at e1
            have hcp := capN_le (cntT ct)
            simp only [uE] at hsum
            have hcI : cntI ct = ((capN (cntT ct) : Nat) : Int) := rfl
            have hwr : IntKind.i64.wrap ((c : Int) + (capN (cntT ct) : Nat)) = ((c + capN (cntT ct) : Nat) : Int) := by rw [IntKind.wrap_i64] <;> omega
            rw [hcI] at hcall
            have HC := Lib.hid hcall
            have HS := Lib.hid (And.intro hsum (And.intro hr (And.intro hmono hdone)))
            have HED := Lib.hid (And.intro he hm)
            have hjI : (j : Int) < (x.edges.length : Int) := by omega
            clear h3 h4 h5 hcall hsum hr hmono hdone hutj hct hct' hht hm hdr he hi' hcI he0
            (repeat' (first | (go_big_may; fail) | go_values | go_skip | go_guarded | go_step | go_upon | go_back | dsimp only))
            refine HC.out.mono ?_
            rintro e5 w5 ⟨rfl, cs5, hi5, hm5, hg5, h6⟩
            have H6 := Lib.hid (h6.impl fun _ q => CntT.outT q).drop
            have HI5 := Lib.hid (And.intro hi5 (And.intro hm5 hg5))
            clear h6 hi5 hm5 hg5 y3 c1
            (repeat' (first | (go_big_may; fail) | go_values | go_skip | go_guarded | go_step | go_upon | go_back | dsimp only))
            go_roundw
            case rel =>
              refine ⟨j + 1, c + capN (cntT ct), r, cs5, by simp, by simp, by omega, HS.out.2.1, by have := HS.out.1; omega, HI5.out.1, fun i hi => HI5.out.2.1 i (HS.out.2.2.1 i hi), fun q e' hq he' i hgi => ?_, H6.out⟩
              by_cases hqj : q = j
              · subst hqj
                rw [HED.out.1] at he'
                cases he'
                rw [HED.out.2, Int.toNat_natCast] at hgi
                exact HI5.out.2.2 i hgi
              · exact HI5.out.2.1 i (HS.out.2.2.2 q e' (by omega) he' i hgi)
            case measure => simp [intOf] <;> omega
          · obtain rfl : j = x.edges.length := by omega
            rw [List.drop_eq_nil_of_le (Nat.le_refl _)] at hutj
            obtain rfl := hutj.nil
            have hc2 : capN c = capN (cntT t) := by
              rw [← capN_uE t, HFIN.out]
              congr 1
            have hci : cntI t = ((capN c : Nat) : Int) := by unfold cntI; rw [hc2]
            obtain ⟨s1, s2, s3⟩ := hi'.set ⟨x, HX.out, HU.out⟩ HX.out (fun e he i hgi => by
              obtain ⟨q, hq, rfl⟩ := List.getElem_of_mem he
              exact hdone q _ hq (List.getElem?_eq_getElem hq) i hgi)
            obtain ⟨v', hv'⟩ : ∃ v', cs'[n]? = some v' := ⟨_, List.getElem?_eq_getElem (by rw [hi'.len]; exact hn)⟩
            obtain ⟨g1, g2, g3⟩ := h3.drop.drop.drop.rowCell (intsI_get hv')
            have h4 := (h3.pull4.storeG ((CellT.stable _ _ _).both ((CellT.stable _ _ _).both ((CellT.stable _ _ _).both HR.out))) n (.int .i64 (cntI t))).push4
            rw [intsI_set] at h4
            have hrow : ∀ z : Int, (intsI (cs'.set n z))[n]? = some (.int .i64 z) := fun z => by
              rw [List.getElem?_map, List.getElem?_set_self (by rw [hi'.len]; exact hn)]; rfl
            have HSS := Lib.hid (And.intro s1 (And.intro (fun j hj => s2 j (hmono j hj)) s3))
            have HCI := Lib.hid hci
            clear s1 s2 s3 hci hc2 hsum hmono hdone hutj hi' hv' h3
            have HE2 : cntI t = min (c : Int) 1099511627777 := by rw [HCI.out]; unfold capN; omega
            rw [HE2] at h4
            obtain ⟨f1, _, _⟩ := h4.cellF (o := 0) (u := .slice (some ⟨g, 0, none⟩) A.length A.length) rfl
            obtain ⟨f2, _, _⟩ := h4.drop.drop.drop.rowCell (j := n) (u := .int .i64 (min (c : Int) 1099511627777)) (hrow _)
            have H4 := Lib.hid h4
            have HE3 := Lib.hid HE2
            clear h4 hrow HE2
            (repeat' (first | (go_big_may; fail) | go_values | go_skip | go_guarded | go_step | go_upon | go_back | dsimp only))
            go_ret
            refine ⟨by rw [HE3.out]; rfl, _, HSS.out.1, HSS.out.2.1, HSS.out.2.2, ?_⟩
            rw [HE3.out]
            exact H4.out
    · have hgood := hi.ok n v hv hv0
      have hvv := (hgood n (.refl n)).val hu
      rw [hv] at hvv
      have hve : v = cntI t := by simpa using hvv
      have hpos : (0 : Int) < v := by
        have : (0 : Int) ≤ cntI t := by unfold cntI; omega
        omega
      have H := Lib.hid h
      have HI := Lib.hid (And.intro hi hgood)
      have HVE := Lib.hid hve
      clear h hi hgood hvv hve hu ih hst hv hA
      go_enter Try.func67, Try.ntmps67
      (repeat' (first | (go_big_may; fail) | go_values | go_skip | go_guarded | go_step | go_upon | go_back | dsimp only))
      go_ret
      exact ⟨by rw [HVE.out]; rfl, cs, HI.out.1, fun _ h => h, HI.out.2, H.out⟩
end Go.Proofs.Ythjkfiniafblbaa
