/- walk.counts walked. · walk.counts, counted and Count walked. · walk.counted and Count walked. · walk.Nth walked. -/
import Derived.Test.YtcbdncjknpdnbaaTrie
import Derived.Test.YtcbdncjknpdnbaaDawgBuild
import Derived.Test.YtcbdncjknpdnbaaWkShape
import Derived.Test.YtcbdncjknpdnbaaBuilder
namespace Go.Proofs.Ytcbdncjknpdnbaa
section
section
open Go.RowKit

abbrev intsI (l : List Int) : List Value := l.map fun c => .int .i64 c
theorem intsI_get {l : List Int} {j : Nat} {c : Int} (h : l[j]? = some c) : (intsI l)[j]? = some (.int .i64 c) := by simp [intsI, h]
theorem intsI_set (l : List Int) (j : Nat) (c : Int) : (intsI l).set j (.int .i64 c) = intsI (l.set j c) := by simp [intsI, List.map_set]
abbrev tIs : TypeId := 85
abbrev tFc : TypeId := 97
abbrev CntT (ko ka kv g N : Nat) (va : Value) (cs : List Int) (R : Thing) : Thing :=
  Both (CellT ko #[.slice (some ⟨g, 0, none⟩) N N] tIs) (Both (CellT ka #[va] tSl) (Both (CellT kv #[.func (.func 72) #[] #[ptrN ko, ptrN ka, ptrN kv]] tFc) (Both (RowG tInt 1 (.slice (some ⟨g, 0, none⟩) N N) N (intsI cs)) R)))
theorem CntT.stable {ko ka kv g N : Nat} {va : Value} {cs : List Int} {R : Thing} (h : Stable R) : Stable (CntT ko ka kv g N va cs R) := (CellT.stable _ _ _).both ((CellT.stable _ _ _).both ((CellT.stable _ _ _).both ((RowG.stable _ _ _ _ _).both h)))
theorem CntT.inT {ko ka kv g N : Nat} {va : Value} {cs : List Int} {A R : Thing} {w : World} {fp : List Nat} (h : Both A (CntT ko ka kv g N va cs R) w fp) : CntT ko ka kv g N va cs (Both A R) w fp :=
  Both.mono (fun _ _ q => Both.mono (fun _ _ q => Both.mono (fun _ _ q => q.assoc) q.assoc) q.assoc) h.assoc
theorem CntT.outT {ko ka kv g N : Nat} {va : Value} {cs : List Int} {A R : Thing} {w : World} {fp : List Nat} (h : CntT ko ka kv g N va cs (Both A R) w fp) : Both A (CntT ko ka kv g N va cs R) w fp :=
  Both.assoc (Both.mono (fun _ _ q => Both.assoc (Both.mono (fun _ _ q => Both.assoc (Both.mono (fun _ _ q => q.assoc) q)) q)) h)

set_option maxRecDepth 100000 in
set_option maxHeartbeats 1600000 in
theorem cvis_at {W : World} {A : List Sta} {va : Value} (hA : RdAut W va A) (hl : A.length ≤ 1048576 ∧ edgesN A ≤ 1048576) (ko ka kv g : Nat) (k : Nat) : ∀ (w : World) (cs : List Int) (n : Nat) (t : Trie) (R : Thing),
    At W w (CntT ko ka kv g A.length va cs R) → Stable R → CInv A cntI 0 cs → Unf A n t → htT t < k →
    Calls Try.prog 72 #[.int .i64 n, ptrN ko, ptrN ka, ptrN kv] w fun e w' => e = .returned (.int .i64 (cntI t)) ∧ ∃ cs', CInv A cntI 0 cs' ∧ (∀ j, GoodC A cntI cs j → GoodC A cntI cs' j) ∧ (∀ j, Gets A n j → GoodC A cntI cs' j) ∧ At W w' (CntT ko ka kv g A.length va cs' R) := by
  induction k with
  | zero => intro w cs n t R _ _ _ _ h; omega
  | succ k ih =>
    intro w cs n t R h hR hi hu hk
    have hn := hu.lt
    obtain ⟨v, hv⟩ : ∃ v, cs[n]? = some v := ⟨_, List.getElem?_eq_getElem (by rw [hi.len]; exact hn)⟩
    have hst : ∀ cs, Stable (CntT ko ka kv g A.length va cs R) := fun cs => CntT.stable hR
    obtain ⟨c1, _, _⟩ := h.cellF (o := 0) (u := .slice (some ⟨g, 0, none⟩) A.length A.length) rfl
    obtain ⟨c2, _, _⟩ := h.drop.cellF (o := 0) (u := va) rfl
    obtain ⟨c3, _, _⟩ := h.drop.drop.drop.rowCell (intsI_get hv)
    have hnI : (n : Int) < (A.length : Int) := by omega
    have hn0 : (0 : Int) ≤ (n : Int) := by omega
    by_cases hv0 : v = 0
    · subst hv0
      obtain ⟨x, hx, hux⟩ := hu
      obtain ⟨b, off, cap, u, hsv, d0, d1, hue⟩ := hA.at hx
      obtain ⟨ua, uc, rfl, _, huc⟩ := hue.shape
      unfold maxLen at huc
      subst hsv
      replace d0 := (h.below.cell (World.block_lt_of_cell? _ _ d0)).trans d0
      replace d1 := (h.below.cell (World.block_lt_of_cell? _ _ d1)).trans d1
      have hel := edgesN_le hx
      have hfin := hux.final
      have H := Lib.hid h
      have HR := Lib.hid hR
      have HI := Lib.hid hi
      have HU := Lib.hid hux
      have HX := Lib.hid hx
      have IH := Lib.hid ih
      have HE := Lib.hid (show RdEds W (.slice ua x.edges.length uc) x.edges from hue)
      have HST := Lib.hid hst
      have HUL := Lib.hid (uE_le hux)
      have HFIN := Lib.hid hfin
      clear h hR hi hux hx ih hue hst hfin hv
      go_enter Try.func72, Try.ntmps72
      go_upto_if 22 with (fail)
      go_cut [6] (fun vc wx => vc = .int .i64 (finN x.final : Nat) ∧ wx = w)
      case first =>
        refine wp_norm ?_
        rename_i J K' hJ hK
        have HJ := Lib.hid hJ
        have HK := Lib.hid hK
        clear hJ hK
        cases hf : x.final with
        | true =>
          (repeat' (first | (go_big_may; fail) | go_values | go_skip | go_guarded | go_step | go_upon | go_back | dsimp only))
          refine HK.out _ _ ?_
          have hJ := HJ.out
          go_meet
          case rel => exact ⟨by rw [hf]; rfl, rfl⟩
        | false =>
          (repeat' (first | (go_big_may; fail) | go_values | go_skip | go_guarded | go_step | go_upon | go_back | dsimp only))
          refine HK.out _ _ ?_
          have hJ := HJ.out
          go_meet
          case rel => exact ⟨by rw [hf]; rfl, rfl⟩
      case rest =>
        obtain ⟨rfl, rfl⟩ := hcut
        (repeat' (first | (go_big_may; fail) | go_values | go_skip | go_guarded | go_step | go_upon | go_back | dsimp only))
        go_loopw [6, 29] (fun vc vj wr => ∃ (j c : Nat) (tj : Trie) (cs' : List Int), vj = .int .i64 j ∧ vc = .int .i64 c ∧ j ≤ x.edges.length ∧ UnfE A tj x.final (x.edges.drop j) ∧ c + uE tj = finN x.final + uE t ∧ CInv A cntI 0 cs' ∧ (∀ i, GoodC A cntI cs i → GoodC A cntI cs' i) ∧
          (∀ q e, q < j → x.edges[q]? = some e → ∀ i, Gets A e.2.toNat i → GoodC A cntI cs' i) ∧ At W wr (CntT ko ka kv g A.length (.slice (some ⟨b, off, none⟩) A.length cap) cs' R)) (fun _ vj _ => x.edges.length - (intOf vj).toNat)
        case atStart => exact ⟨0, finN x.final, t, cs, rfl, rfl, Nat.zero_le _, HU.out, rfl, HI.out, fun _ h => h, fun q e h => absurd h (Nat.not_lt_zero _), H.out⟩
        case round =>
          obtain ⟨j, c, tj, cs', rfl, rfl, hj, hutj, hsum, hi', hmono, hdone, h3⟩ := hrel
          have hcb : c ≤ 1153057894337478656 := by
            have := HUL.out
            have h0 : finN x.final ≤ 1 := by unfold finN; split <;> omega
            have h1 : x.edges.length * 1099511627777 ≤ 1048576 * 1099511627777 := Nat.mul_le_mul_right _ (by omega)
            omega
          clear c1 c2 c3
          obtain ⟨c1, _, _⟩ := h3.cellF (o := 0) (u := .slice (some ⟨g, 0, none⟩) A.length A.length) rfl
          by_cases hlj : j < x.edges.length
          · obtain ⟨e, he⟩ : ∃ e, x.edges[j]? = some e := ⟨_, List.getElem?_eq_getElem hlj⟩
            have hdr : x.edges.drop j = e :: x.edges.drop (j + 1) := by
              obtain ⟨h1, h2⟩ := List.getElem?_eq_some_iff.1 he
              rw [List.drop_eq_getElem_cons h1, h2]
            rw [hdr] at hutj
            obtain ⟨ct, r, rfl, he0, hct, hr⟩ := hutj.cons
            obtain ⟨ct', _, hct', hht⟩ := HU.out.mem e (List.mem_of_getElem? he)
            obtain rfl := hct.uniq hct'
            obtain ⟨m, hm⟩ := Int.eq_ofNat_of_zero_le he0
            rw [hm, Int.toNat_natCast] at hct
            have h4 := h3.newCell (HST.out _) #[bv e.1, .int .i64 m] tAE
            have h5 : At W (wr.alloc (.cells #[bv e.1, .int .i64 m] tAE)) (CntT ko ka kv g A.length (.slice (some ⟨b, off, none⟩) A.length cap) cs' (Both (CellT wr.heap.size #[bv e.1, .int .i64 m] tAE) R)) := h4.impl fun _ q => CntT.inT q
            have hcall := IH.out _ cs' m ct _ h5 ((CellT.stable _ _ _).both HR.out) hi' hct (by omega)
            obtain ⟨y3, _, _⟩ := h5.drop.drop.cellF (o := 0) (u := .func (.func 72) #[] #[ptrN ko, ptrN ka, ptrN kv]) rfl
            obtain ⟨be, oe, ce, hse, e0, e1⟩ := RdEds.at (HE.out.below h3.below) he
            cases hse
            rw [hm] at e1
            have hcp := capN_le (cntT ct)
            simp only [uE] at hsum
            have hcI : cntI ct = ((capN (cntT ct) : Nat) : Int) := rfl
            have hwr : IntKind.i64.wrap ((c : Int) + (capN (cntT ct) : Nat)) = ((c + capN (cntT ct) : Nat) : Int) := by rw [IntKind.wrap_i64] <;> omega
            rw [hcI] at hcall
            have HC := Lib.hid hcall
            have HS := Lib.hid (And.intro hsum (And.intro hr (And.intro hmono hdone)))
            have HED := Lib.hid (And.intro he hm)
            have hjI : (j : Int) < (x.edges.length : Int) := by omega
            clear h3 h4 h5 hcall hsum hr hmono hdone hutj hct hct' hht hm hdr he hi' hcI he0
            (repeat' (first | (go_big_may; fail) | go_values | go_skip | go_guarded | go_step | go_upon | go_back | dsimp only))
            refine HC.out.mono ?_
            rintro e5 w5 ⟨rfl, cs5, hi5, hm5, hg5, h6⟩
            have H6 := Lib.hid (h6.impl fun _ q => CntT.outT q).drop
            have HI5 := Lib.hid (And.intro hi5 (And.intro hm5 hg5))
            clear h6 hi5 hm5 hg5 y3 c1
            (repeat' (first | (go_big_may; fail) | go_values | go_skip | go_guarded | go_step | go_upon | go_back | dsimp only))
            go_roundw
            case rel =>
              refine ⟨j + 1, c + capN (cntT ct), r, cs5, by simp, by simp, by omega, HS.out.2.1, by have := HS.out.1; omega, HI5.out.1, fun i hi => HI5.out.2.1 i (HS.out.2.2.1 i hi), fun q e' hq he' i hgi => ?_, H6.out⟩
              by_cases hqj : q = j
              · subst hqj
                rw [HED.out.1] at he'
                cases he'
                rw [HED.out.2, Int.toNat_natCast] at hgi
                exact HI5.out.2.2 i hgi
              · exact HI5.out.2.1 i (HS.out.2.2.2 q e' (by omega) he' i hgi)
            case measure => simp [intOf] <;> omega
          · obtain rfl : j = x.edges.length := by omega
            rw [List.drop_eq_nil_of_le (Nat.le_refl _)] at hutj
            obtain rfl := hutj.nil
            have hc2 : capN c = capN (cntT t) := by
              rw [← capN_uE t, HFIN.out]
              congr 1
            have hci : cntI t = ((capN c : Nat) : Int) := by unfold cntI; rw [hc2]
            obtain ⟨s1, s2, s3⟩ := hi'.set ⟨x, HX.out, HU.out⟩ HX.out (fun e he i hgi => by
              obtain ⟨q, hq, rfl⟩ := List.getElem_of_mem he
              exact hdone q _ hq (List.getElem?_eq_getElem hq) i hgi)
            obtain ⟨v', hv'⟩ : ∃ v', cs'[n]? = some v' := ⟨_, List.getElem?_eq_getElem (by rw [hi'.len]; exact hn)⟩
            obtain ⟨g1, g2, g3⟩ := h3.drop.drop.drop.rowCell (intsI_get hv')
            have h4 := (h3.pull4.storeG ((CellT.stable _ _ _).both ((CellT.stable _ _ _).both ((CellT.stable _ _ _).both HR.out))) n (.int .i64 (cntI t))).push4
            rw [intsI_set] at h4
            have hrow : ∀ z : Int, (intsI (cs'.set n z))[n]? = some (.int .i64 z) := fun z => by
              rw [List.getElem?_map, List.getElem?_set_self (by rw [hi'.len]; exact hn)]; rfl
            have HSS := Lib.hid (And.intro s1 (And.intro (fun j hj => s2 j (hmono j hj)) s3))
            have HCI := Lib.hid hci
            clear s1 s2 s3 hci hc2 hsum hmono hdone hutj hi' hv' h3
            have HE2 : cntI t = min (c : Int) 1099511627777 := by rw [HCI.out]; unfold capN; omega
            rw [HE2] at h4
            obtain ⟨f1, _, _⟩ := h4.cellF (o := 0) (u := .slice (some ⟨g, 0, none⟩) A.length A.length) rfl
            obtain ⟨f2, _, _⟩ := h4.drop.drop.drop.rowCell (j := n) (u := .int .i64 (min (c : Int) 1099511627777)) (hrow _)
            have H4 := Lib.hid h4
            have HE3 := Lib.hid HE2
            clear h4 hrow HE2
            (repeat' (first | (go_big_may; fail) | go_values | go_skip | go_guarded | go_step | go_upon | go_back | dsimp only))
            go_ret
            refine ⟨by rw [HE3.out]; rfl, _, HSS.out.1, HSS.out.2.1, HSS.out.2.2, ?_⟩
            rw [HE3.out]
            exact H4.out
    · have hgood := hi.ok n v hv hv0
      have hvv := (hgood n (.refl n)).val hu
      rw [hv] at hvv
      have hve : v = cntI t := by simpa using hvv
      have hpos : (0 : Int) < v := by
        have : (0 : Int) ≤ cntI t := by unfold cntI; omega
        omega
      have H := Lib.hid h
      have HI := Lib.hid (And.intro hi hgood)
      have HVE := Lib.hid hve
      clear h hi hgood hvv hve hu ih hst hv hA
      go_enter Try.func72, Try.ntmps72
      (repeat' (first | (go_big_may; fail) | go_values | go_skip | go_guarded | go_step | go_upon | go_back | dsimp only))
      go_ret
      exact ⟨by rw [HVE.out]; rfl, cs, HI.out.1, fun _ h => h, HI.out.2, H.out⟩
end

section
section
open Go.RowKit

theorem info_Int : (Try.prog.info? tInt).map (fun i => (i.zero, i.size, i.bytes)) = some (some (.int .i64 0), 1, 8) := by kernel_rfl
theorem cinv_start (A : List Sta) (F : Trie → Int) (z : Int) : CInv A F z (List.replicate A.length z) := ⟨by simp, fun i v hv hz => by
  rw [List.getElem?_replicate] at hv
  split at hv
  · simp only [Option.some.injEq] at hv
    exact absurd hv.symm hz
  · cases hv⟩
theorem cntL_of {A : List Sta} (hs : Shaped A) {cs : List Int} (h : CInv A cntI 0 cs) (hg : ∀ j, Gets A 0 j → GoodC A cntI cs j) : CntL A cs :=
  ⟨h.len, fun i _ hu => (hg i (hs.reach i hu.lt)).val hu⟩

set_option maxRecDepth 100000 in
set_option maxHeartbeats 1600000 in
theorem counts_calls {w : World} {A : List Sta} {va : Value} (hA : RdAut w va A) (hl : A.length ≤ 1048576 ∧ edgesN A ≤ 1048576) (hs : Shaped A) :
    Calls Try.prog 55 #[va] w fun e w' => ∃ cs g, e = .returned (.slice (some ⟨g, 0, none⟩) A.length A.length) ∧ CntL A cs ∧ At w w' (Both (RowG tInt 1 (.slice (some ⟨g, 0, none⟩) A.length A.length) A.length (intsI cs)) Nought) := by
  obtain ⟨a0, c0, hv, _, hc0⟩ := hA.shape
  obtain ⟨t, ht, _, _⟩ := hs.tr 0 hs.pos
  have hn : A.length ≤ 1048576 := by omega
  have hvis := fun ko ka kv g w2 (h2 : At w w2 (CntT ko ka kv g A.length va (List.replicate A.length 0) Nought)) => cvis_at hA hl ko ka kv g (htT t + 1) w2 (List.replicate A.length 0) 0 t Nought h2 Stable.nought (cinv_start A cntI 0) ht (by omega)
  have hnw := (At.nought (Below.refl w.heap.size w)).newCell Stable.nought #[va] tSl
  have HVIS := Lib.hid hvis
  have HNW := Lib.hid hnw
  have HSH := Lib.hid hs
  have hsf := st_fn
  clear hvis hnw hs ht hA
  subst hv
  go_enter Try.func55, Try.ntmps55
  (repeat' (first | (go_big_may; ((at_make; go_must (refine wpList_make_at rfl _ _ 85 rfl tInt Try.underlying85 info_Int rfl rfl rfl rfl rfl (by omega) (by unfold maxLen; omega) HNW.out ((CellT.stable _ _ _).both Stable.nought) ?_)); intro w2 h2 _)) | go_values | go_skip | go_guarded | go_step | go_upon | go_back | dsimp only))

  have z1 : (w.alloc (.cells #[.slice a0 A.length c0] tSl)).heap.size = w.heap.size + 1 := by simp
  rw [z1] at h2
  have hs2 := (RowG.stable tInt 1 (.slice (some ⟨w.heap.size + 1, 0, none⟩) A.length A.length) A.length (List.replicate A.length (.int .i64 0))).both ((CellT.stable w.heap.size #[.slice a0 A.length c0] tSl).both Stable.nought)
  have h3 := h2.newCell hs2 #[.slice (some ⟨w.heap.size + 1, 0, none⟩) A.length A.length] tIs
  have hs3 := (CellT.stable w2.heap.size #[.slice (some ⟨w.heap.size + 1, 0, none⟩) A.length A.length] tIs).both hs2
  have h4 := h3.newCell hs3 #[.func (.func 72) #[] #[ptrN w2.heap.size, ptrN w.heap.size, ptrN (w2.heap.size + 1)]] tFc
  have z2 : (w2.alloc (.cells #[.slice (some ⟨w.heap.size + 1, 0, none⟩) A.length A.length] tIs)).heap.size = w2.heap.size + 1 := by simp
  rw [z2] at h4
  have h5 := h4.pull4.pull3
  rw [show List.replicate A.length (Value.int .i64 0) = intsI (List.replicate A.length 0) from by simp [intsI]] at h5
  have HC := Lib.hid (HVIS.out _ _ _ _ _ h5)
  clear h2 h3 h4 h5 hs2 hs3 z1 z2
  refine HC.out.mono ?_
  rintro e5 w5 ⟨rfl, cs5, hi5, _, hg5, h7⟩
  have HCL := Lib.hid (cntL_of HSH.out hi5 hg5)
  obtain ⟨c0, _, _⟩ := h7.cellF (o := 0) (u := .slice (some ⟨w.heap.size + 1, 0, none⟩) A.length A.length) rfl
  have H8 := Lib.hid h7.drop.drop.drop
  clear h7 hi5 hg5
  (repeat' (first | (go_big_may; fail) | go_values | go_skip | go_guarded | go_step | go_upon | go_back | dsimp only))
  go_ret
  exact ⟨cs5, _, rfl, HCL.out, H8.out⟩
end

section
open Go.RowKit

theorem shapeV_ok {A : List Sta} (h : shapeB A = true) : shapeV A = 0 := by unfold shapeV; rw [if_pos h]
theorem shapeV_bad {A : List Sta} (h : shapeB A = false) : shapeV A = 190 := by unfold shapeV; rw [if_neg (by rw [h]; simp)]

set_option maxRecDepth 100000 in
set_option maxHeartbeats 1600000 in
theorem counted_bad {w : World} {A : List Sta} {va : Value} (hA : RdAut w va A) (hl : A.length ≤ 1048576 ∧ edgesN A ≤ 1048576) (hs : shapeB A = false) :
    Calls Try.prog 34 #[va] w fun e w' => e = .returned (.tuple #[.slice none 0 0, .int .i64 190]) ∧ Below w.heap.size w w' := by
  have HS := Lib.hid (Shape_calls hA hl)
  rw [shapeV_bad hs] at HS
  clear hs hA
  go_enter Try.func34, Try.ntmps34
  (repeat' (first | (go_big_may; fail) | go_values | go_skip | go_guarded | go_step | go_upon | go_back | dsimp only))
  refine HS.out.mono ?_
  rintro e1 w1 ⟨rfl, hb1⟩
  have HB1 := Lib.hid hb1
  clear hb1
  (repeat' (first | (go_big_may; fail) | go_values | go_skip | go_guarded | go_step | go_upon | go_back | dsimp only))
  go_ret2
  exact ⟨rfl, HB1.out⟩

theorem RdRow.at0 {w : World} {g n : Nat} {cs : List Int} (h : RdRow w (.slice (some ⟨g, 0, none⟩) n n) n 1 (intsI cs)) {c : Int} (hc : cs[0]? = some c) : w.cell? ⟨g, 0, none⟩ = some (.int .i64 c) := by
  obtain ⟨_, ad, cap, hv, _, _, h2⟩ := h
  obtain ⟨b, off, hb, h3⟩ := h2 0 _ (intsI_get hc)
  cases hv
  cases hb
  exact h3
set_option maxRecDepth 100000 in
set_option maxHeartbeats 1600000 in
theorem counted_many {w : World} {A : List Sta} {va : Value} (hA : RdAut w va A) (hl : A.length ≤ 1048576 ∧ edgesN A ≤ 1048576) (hs : shapeB A = true) {t : Trie} (ht : Unf A 0 t) (hc : 1099511627776 < cntT t) :
    Calls Try.prog 34 #[va] w fun e w' => e = .returned (.tuple #[.slice none 0 0, .int .i64 191]) ∧ Below w.heap.size w w' := by
  have HS := Lib.hid (Shape_calls hA hl)
  have hsh := shaped_of hs
  rw [shapeV_ok hs] at HS
  have HC := Lib.hid (fun w' (hb : Below w.heap.size w w') => counts_calls (hA.below hb) hl hsh)
  have HT := Lib.hid ht
  have hpos := hsh.pos
  clear hs hA hsh ht
  go_enter Try.func34, Try.ntmps34
  (repeat' (first | (go_big_may; fail) | go_values | go_skip | go_guarded | go_step | go_upon | go_back | dsimp only))
  refine HS.out.mono ?_
  rintro e1 w1 ⟨rfl, hb1⟩
  have HB1 := Lib.hid hb1
  have HC1 := Lib.hid (HC.out w1 hb1)
  clear hb1
  (repeat' (first | (go_big_may; fail) | go_values | go_skip | go_guarded | go_step | go_upon | go_back | dsimp only))
  refine HC1.out.mono ?_
  rintro e2 w2 ⟨cs, g, rfl, hcs, h2⟩
  have hct : cntI t = 1099511627777 := by unfold cntI capN; omega
  have c0 := (RdRow.of_own h2.rowG).at0 (hcs.2 0 t HT.out)
  rw [hct] at c0
  have HB2 := Lib.hid (HB1.out.trans (h2.below.mono HB1.out.size))
  clear h2 hcs hct
  (repeat' (first | (go_big_may; fail) | go_values | go_skip | go_guarded | go_step | go_upon | go_back | dsimp only))
  go_ret2
  exact ⟨rfl, HB2.out⟩
set_option maxRecDepth 100000 in
set_option maxHeartbeats 1600000 in
theorem counted_ok {w : World} {A : List Sta} {va : Value} (hA : RdAut w va A) (hl : A.length ≤ 1048576 ∧ edgesN A ≤ 1048576) (hs : shapeB A = true) {t : Trie} (ht : Unf A 0 t) (hc : cntT t ≤ 1099511627776) :
    Calls Try.prog 34 #[va] w fun e w' => ∃ cs g, e = .returned (.tuple #[.slice (some ⟨g, 0, none⟩) A.length A.length, .int .i64 0]) ∧ CntL A cs ∧ RdRow w' (.slice (some ⟨g, 0, none⟩) A.length A.length) A.length 1 (intsI cs) ∧ Below w.heap.size w w' := by
  have HS := Lib.hid (Shape_calls hA hl)
  have hsh := shaped_of hs
  rw [shapeV_ok hs] at HS
  have HC := Lib.hid (fun w' (hb : Below w.heap.size w w') => counts_calls (hA.below hb) hl hsh)
  have HT := Lib.hid ht
  have hpos := hsh.pos
  clear hs hA hsh ht
  go_enter Try.func34, Try.ntmps34
  (repeat' (first | (go_big_may; fail) | go_values | go_skip | go_guarded | go_step | go_upon | go_back | dsimp only))
  refine HS.out.mono ?_
  rintro e1 w1 ⟨rfl, hb1⟩
  have HB1 := Lib.hid hb1
  have HC1 := Lib.hid (HC.out w1 hb1)
  clear hb1
  (repeat' (first | (go_big_may; fail) | go_values | go_skip | go_guarded | go_step | go_upon | go_back | dsimp only))
  refine HC1.out.mono ?_
  rintro e2 w2 ⟨cs, g, rfl, hcs, h2⟩
  have hct : cntI t = (cntT t : Int) := by unfold cntI; rw [capN_small hc]
  have c0 := (RdRow.of_own h2.rowG).at0 (hcs.2 0 t HT.out)
  rw [hct] at c0
  have hlt : ¬ (1099511627776 : Int) < (cntT t : Int) := by omega
  have HCS := Lib.hid hcs
  have HR2 := Lib.hid (RdRow.of_own h2.rowG)
  have HB2 := Lib.hid (HB1.out.trans (h2.below.mono HB1.out.size))
  clear h2 hcs hct
  (repeat' (first | (go_big_may; fail) | go_values | go_skip | go_guarded | go_step | go_upon | go_back | dsimp only))
  go_ret2
  exact ⟨cs, g, rfl, HCS.out, HR2.out, HB2.out⟩

/-- Count's answer, for an automaton in its shape with the tree t. -/
def countV (t : Trie) : Int := if cntT t ≤ 1099511627776 then cntT t else 0
def countE (t : Trie) : Int := if cntT t ≤ 1099511627776 then 0 else 191
set_option maxRecDepth 100000 in
set_option maxHeartbeats 1600000 in
theorem Count_bad {w : World} {A : List Sta} {va : Value} (hA : RdAut w va A) (hl : A.length ≤ 1048576 ∧ edgesN A ≤ 1048576) (hs : shapeB A = false) :
    Calls Try.prog 19 #[va] w fun e w' => e = .returned (.tuple #[.int .i64 0, .int .i64 190]) ∧ Below w.heap.size w w' := by
  have HC := Lib.hid (counted_bad hA hl hs)
  clear hA hl hs
  go_enter Try.func19, Try.ntmps19
  (repeat' (first | (go_big_may; fail) | go_values | go_skip | go_guarded | go_step | go_upon | go_back | dsimp only))
  refine HC.out.mono ?_
  rintro e1 w1 ⟨rfl, hb1⟩
  have HB1 := Lib.hid hb1
  clear hb1
  (repeat' (first | (go_big_may; fail) | go_values | go_skip | go_guarded | go_step | go_upon | go_back | dsimp only))
  go_ret2
  exact ⟨rfl, HB1.out⟩
set_option maxRecDepth 100000 in
set_option maxHeartbeats 1600000 in
theorem Count_calls {w : World} {A : List Sta} {va : Value} (hA : RdAut w va A) (hl : A.length ≤ 1048576 ∧ edgesN A ≤ 1048576) (hs : shapeB A = true) {t : Trie} (ht : Unf A 0 t) :
    Calls Try.prog 19 #[va] w fun e w' => e = .returned (.tuple #[.int .i64 (countV t), .int .i64 (countE t)]) ∧ Below w.heap.size w w' := by
  by_cases hc : cntT t ≤ 1099511627776
  · have HC := Lib.hid (counted_ok hA hl hs ht hc)
    have hpos := (shaped_of hs).pos
    have e1 : countV t = cntT t := if_pos hc
    have e2 : countE t = 0 := if_pos hc
    rw [e1, e2]
    have HT := Lib.hid ht
    clear hA hs ht e1 e2
    go_enter Try.func19, Try.ntmps19
    (repeat' (first | (go_big_may; fail) | go_values | go_skip | go_guarded | go_step | go_upon | go_back | dsimp only))
    refine HC.out.mono ?_
    rintro e1 w1 ⟨cs, g, rfl, hcs, h1, hb1⟩
    have hct : cntI t = (cntT t : Int) := by unfold cntI; rw [capN_small hc]
    have c0 := h1.at0 (hcs.2 0 t HT.out)
    rw [hct] at c0
    have HB1 := Lib.hid hb1
    clear hb1 h1 hcs hct
    (repeat' (first | (go_big_may; fail) | go_values | go_skip | go_guarded | go_step | go_upon | go_back | dsimp only))
    go_ret2
    exact ⟨rfl, HB1.out⟩
  · have HC := Lib.hid (counted_many hA hl hs ht (by omega))
    have e1 : countV t = 0 := if_neg hc
    have e2 : countE t = 191 := if_neg hc
    rw [e1, e2]
    clear hA hs ht e1 e2
    go_enter Try.func19, Try.ntmps19
    (repeat' (first | (go_big_may; fail) | go_values | go_skip | go_guarded | go_step | go_upon | go_back | dsimp only))
    refine HC.out.mono ?_
    rintro e1 w1 ⟨rfl, hb1⟩
    have HB1 := Lib.hid hb1
    clear hb1
    (repeat' (first | (go_big_may; fail) | go_values | go_skip | go_guarded | go_step | go_upon | go_back | dsimp only))
    go_ret2
    exact ⟨rfl, HB1.out⟩
end
end
end

section
open Go.RowKit

/-- Is n the number of a word? -/
abbrev nthIn (t : Trie) (n : Int) : Prop := 0 ≤ n ∧ n < (cntT t : Int)
def nthS (t : Trie) (n : Int) : ByteArray := if nthIn t n then ⟨(nthT t n.toNat).toArray⟩ else ⟨#[]⟩
def nthB (t : Trie) (n : Int) : Bool := decide (nthIn t n)
theorem nthS_in {t : Trie} {m : Nat} (h : m < cntT t) : nthS t (m : Int) = ⟨(nthT t m).toArray⟩ ∧ nthB t (m : Int) = true := by
  have h1 : nthIn t (m : Int) := ⟨by omega, by omega⟩
  unfold nthS nthB
  rw [if_pos h1, Int.toNat_natCast]
  exact ⟨rfl, decide_eq_true h1⟩
theorem nthS_out {t : Trie} {n : Int} (h : ¬ nthIn t n) : nthS t n = ⟨#[]⟩ ∧ nthB t n = false := by
  unfold nthS nthB
  rw [if_neg h]
  exact ⟨rfl, decide_eq_false h⟩
theorem cell_row {w : World} {g i N : Nat} {cs : List Int} (h : RdRow w (.slice (some ⟨g, 0, none⟩) N N) N 1 (intsI cs)) {c : Int} (hc : cs[i]? = some c) : w.cell? ⟨g, i, none⟩ = some (.int .i64 c) := by
  obtain ⟨_, ad, cap', hv, _, _, h2⟩ := h
  obtain ⟨b', off', hb, h3⟩ := h2 i _ (intsI_get hc)
  cases hv
  cases hb
  rw [Nat.zero_add] at h3
  exact h3
def sLen : Value → Nat
  | .slice _ n _ => n
  | _ => 0
theorem drop_at {α : Type} {l : List α} {j : Nat} {e : α} (he : l[j]? = some e) : l.drop j = e :: l.drop (j + 1) := by
  obtain ⟨h1, h2⟩ := List.getElem?_eq_some_iff.1 he
  rw [List.drop_eq_getElem_cons h1, h2]

end
end Go.Proofs.Ytcbdncjknpdnbaa
