/- hornbookref19.number walked: the classes numbered in the order of being met. -/
import Derived.Test.YthjkfiniafblbaaMinPl
import Derived.Test.YthjkfiniafblbaaMinLay
import Derived.Test.YthjkfiniafblbaaMinRf
namespace Go.Proofs.Ythjkfiniafblbaa
open Go.RowKit

abbrev tQo : TypeId := 99
abbrev intsQ (l : List Int) : List Value := l.map fun c => .int .i64 c
theorem intsQ_get {Q : List Int} {i : Nat} {z : Int} (h : Q[i]? = some z) : (intsQ Q)[i]? = some (.int .i64 z) := by simp [intsQ, h]
theorem intsQ_set (Q : List Int) (i : Nat) (z : Int) : (intsQ Q).set i (.int .i64 z) = intsQ (Q.set i z) := by simp [intsQ, List.map_set]
/-- What number keeps. -/
abbrev QuoT (qb N c : Nat) (va : Value) (kg kc fg fc qg qc : Nat) (K F : List Nat) (ov : Value) (xs : List (Sta × Value)) (Q : List Int) (R : Thing) : Thing :=
  Both (CellT qb #[va, .slice (some ⟨kg, 0, none⟩) N kc, .slice (some ⟨fg, 0, none⟩) c fc, .slice (some ⟨qg, 0, none⟩) c qc, ov] tQo) (Both (RowG tRS 2 ov xs.length (xs.flatMap stc)) (Both (EdsG tRE xs)
    (Both (RowG tInt 1 (.slice (some ⟨qg, 0, none⟩) c qc) c (intsQ Q)) (Both (RowG tInt 1 (.slice (some ⟨kg, 0, none⟩) N kc) N (nats K)) (Both (RowG tInt 1 (.slice (some ⟨fg, 0, none⟩) c fc) c (nats F)) R)))))
theorem QuoT.stable {qb N c : Nat} {va : Value} {kg kc fg fc qg qc : Nat} {K F : List Nat} {ov : Value} {xs : List (Sta × Value)} {Q : List Int} {R : Thing} (h : Stable R) : Stable (QuoT qb N c va kg kc fg fc qg qc K F ov xs Q R) :=
  (CellT.stable _ _ _).both ((RowG.stable _ _ _ _ _).both ((AllRows.stable _ _ _ _ _ _).both ((RowG.stable _ _ _ _ _).both ((RowG.stable _ _ _ _ _).both ((RowG.stable _ _ _ _ _).both h)))))
theorem Both.in6 {A a b c d e f T : Thing} {w : World} {fp : List Nat} (h : Both A (Both a (Both b (Both c (Both d (Both e (Both f T)))))) w fp) : Both a (Both b (Both c (Both d (Both e (Both f (Both A T)))))) w fp :=
  Both.mono (fun _ _ q => Both.mono (fun _ _ q => Both.in4 q) q.assoc) h.assoc
theorem Both.out6 {A a b c d e f T : Thing} {w : World} {fp : List Nat} (h : Both a (Both b (Both c (Both d (Both e (Both f (Both A T)))))) w fp) : Both A (Both a (Both b (Both c (Both d (Both e (Both f T)))))) w fp :=
  Both.assoc (Both.mono (fun _ _ q => Both.assoc (Both.mono (fun _ _ q => Both.out4 q) q)) h)

theorem stc_set2 {xs : List (Sta × Value)} {i : Nat} {x : Sta × Value} (hx : xs[i]? = some x) (f : Bool) (v : Value) : ∀ es, ((xs.flatMap stc).set (i * 2) (.bool f)).set (i * 2 + 1) v = (xs.set i (⟨f, es⟩, v)).flatMap stc := by
  intro es
  induction xs generalizing i with
  | nil => simp at hx
  | cons y xs ih =>
    cases i with
    | zero =>
      simp at hx
      subst hx
      rfl
    | succ i =>
      have ih := ih (i := i) (by simpa using hx)
      have e0 : (i + 1) * 2 = i * 2 + 1 + 1 := by omega
      simp only [List.flatMap_cons, List.set_cons_succ]
      rw [e0, ← ih]
      rfl
set_option maxRecDepth 100000 in
set_option maxHeartbeats 6400000 in
theorem num_at {W : World} {A : List Sta} {va : Value} (hA : RdAut W va A) (hl : A.length + edgesN A ≤ 1048576) {K F : List Nat} {c : Nat} {cl : Trie → Nat} (hc : ClK A K c F cl) (hcA : c ≤ A.length) (qb kg kc fg fc qg qc : Nat) (k : Nat) : ∀ (w : World) (t : Trie) (T : List Trie) (xs : List (Sta × Value)) (ov : Value) (Q : List Int) (R : Thing),
    At W w (QuoT qb A.length c va kg kc fg fc qg qc K F ov xs Q R) → Stable R → (∀ s ∈ T, InA A s) → T.Nodup → InA A t → NQ A cl c T Q → htT t < k → xs.length = T.length →
    Calls Try.prog 45 #[ptrN qb, .int .i64 (cl t : Nat)] w fun e w' => ∃ ov' Q' ys, e = .returned (.int .i64 ((numS t T).2.2 : Nat)) ∧ ys.map Prod.fst = (numS t T).2.1 ∧ NQ A cl c (numS t T).1 Q' ∧ At W w' (QuoT qb A.length c va kg kc fg fc qg qc K F ov' (xs ++ ys) Q' R) := by
  induction k with
  | zero => intro w t T xs ov Q R _ _ _ _ _ _ h; omega
  | succ k ih =>
    intro w t T xs ov Q R h hR hT hTn ht hQ hk hxl
    have hclt := hc.lt t ht
    have hclI : ((cl t : Nat) : Int) < ((c : Nat) : Int) := by omega
    obtain ⟨c3, _, hqlt⟩ := h.cellF (o := 3) rfl
    by_cases hm : t ∈ T
    · obtain ⟨q1, q2, q3⟩ := h.pull4.rowCell (intsQ_get (hQ.hit t ht hm))
      rw [numS_hit hm]
      have H := Lib.hid h
      have HQ := Lib.hid hQ
      have hge : (0 : Int) ≤ ((ixT T t : Nat) : Int) := by omega
      clear h hR hT ht hQ hm ih hA hc
      go_enter Try.func45, Try.ntmps45
      (repeat' (first | (go_big_may; fail) | go_values | go_skip | go_guarded | go_step | go_upon | go_back | dsimp only))
      go_ret
      exact ⟨ov, Q, [], rfl, rfl, HQ.out, by rw [List.append_nil]; exact H.out⟩
    · obtain ⟨q1, q2, q3⟩ := h.pull4.rowCell (intsQ_get (hQ.miss t ht hm))
      rw [numS_new hm]
      obtain ⟨n, hF, hu⟩ := hc.fst t ht
      have hn := hu.lt
      obtain ⟨x, hx, hux⟩ := hu
      obtain ⟨b, off, cap, u, hsv, d0, d1, hue⟩ := hA.at hx
      obtain ⟨ua, uc, rfl, _, huc⟩ := hue.shape
      unfold maxLen at huc
      subst hsv
      have hel := edgesN_le hx
      have hTl : T.length ≤ 1048576 := by
        have h1 := trees_le (A := A) hTn hT
        omega
      obtain ⟨oa, oc, hov, _, _⟩ := own_shape h.drop.rowG
      subst hov
      obtain ⟨c4, c4f, _⟩ := h.cellF (o := 4) rfl
      have hxT : (xs.length : Int) = (T.length : Int) := by omega
      have hQ2 := hQ.set hc ht hm
      rw [← hxT] at hQ2
      -- the number is set
      have h1 := h.pull4.storeG ((CellT.stable _ _ _).both ((RowG.stable _ _ _ _ _).both ((AllRows.stable _ _ _ _ _ _).both ((RowG.stable _ _ _ _ _).both ((RowG.stable _ _ _ _ _).both hR))))) (cl t) (.int .i64 (xs.length : Int))
      rw [intsQ_set] at h1
      have h2 := h1.pull4.pull4.pull4
      obtain ⟨c4', c4f', _⟩ := h2.cellF (o := 4) rfl
      have h3 := h2.swap
      have D0 := Lib.hid d0
      have D1 := Lib.hid d1
      have HR := Lib.hid hR
      have HC := Lib.hid hc
      have HU := Lib.hid hux
      have HX := Lib.hid hx
      have HF := Lib.hid hF
      have IH := Lib.hid ih
      have HE := Lib.hid (show RdEds W (.slice ua x.edges.length uc) x.edges from hue)
      have HTN := Lib.hid hm
      have HT0 := Lib.hid hT
      have HTI := Lib.hid ht
      have HXL := Lib.hid hxl
      have HQ2 := Lib.hid hQ2
      have H3 := Lib.hid h3
      have HST3 := Lib.hid ((CellT.stable qb #[.slice (some ⟨b, off, none⟩) A.length cap, .slice (some ⟨kg, 0, none⟩) A.length kc, .slice (some ⟨fg, 0, none⟩) c fc, .slice (some ⟨qg, 0, none⟩) c qc, .slice oa xs.length oc] tQo).both ((AllRows.stable tRE 2 (fun x : Sta × Value => x.2) (fun x => x.1.edges.flatMap edc) (fun x => x.1.edges.length) xs).both ((RowG.stable tInt 1 (.slice (some ⟨qg, 0, none⟩) c qc) c (intsQ (Q.set (cl t) (xs.length : Int)))).both ((RowG.stable tInt 1 (.slice (some ⟨kg, 0, none⟩) A.length kc) A.length (nats K)).both ((RowG.stable tInt 1 (.slice (some ⟨fg, 0, none⟩) c fc) c (nats F)).both hR)))))
      have HSTT := Lib.hid ((AllRows.stable tRE 2 (fun x : Sta × Value => x.2) (fun x => x.1.edges.flatMap edc) (fun x => x.1.edges.length) xs).both ((RowG.stable tInt 1 (.slice (some ⟨qg, 0, none⟩) c qc) c (intsQ (Q.set (cl t) (xs.length : Int)))).both ((RowG.stable tInt 1 (.slice (some ⟨kg, 0, none⟩) A.length kc) A.length (nats K)).both ((RowG.stable tInt 1 (.slice (some ⟨fg, 0, none⟩) c fc) c (nats F)).both hR))))
      have hxl2 : xs.length ≤ 1048576 := by omega
      clear h h1 h2 h3 hR hux hx ih hue d0 d1 hA hF hm ht hQ hQ2 hc hT hxT hxl
      have hneg : ¬ (0 : Int) ≤ -1 := by omega
      go_enter Try.func45, Try.ntmps45
      (repeat' (first | (go_big_may; ((at_builtin; go_must (refine wpList_append_to rfl _ _ 25 tRS rfl Try.underlying25 info_RS rfl (by decide) rfl (H3.out) (HST3.out) rfl (by first | rfl | simp) rfl (two_one' _ _ rfl rfl) (by unfold maxLen; omega) (by omega) ?_); intro a2 c2 w4 h4 _); obtain ⟨e4, e4f, _⟩ := h4.drop.cellF (o := 4) rfl; have H4 := Lib.hid h4; clear h4)) | go_values | go_skip | go_guarded | go_step | go_upon | go_back | dsimp only))
      have h5 : At W (w4.setCell ⟨qb, 4, none⟩ (.slice a2 (xs.length + 1) c2)) (QuoT qb A.length c (.slice (some ⟨b, off, none⟩) A.length cap) kg kc fg fc qg qc K F (.slice a2 (xs.length + 1) c2) (X1 xs false) (Q.set (cl t) (xs.length : Int)) R) := by
        have g1 := H4.out.swap.setCell ((RowG.stable _ _ _ _ _).both HSTT.out) 4 (.slice a2 (xs.length + 1) c2)
        have g2 := g1.noRowG ((CellT.stable _ _ _).both ((RowG.stable _ _ _ _ _).both HSTT.out)) tRE 2
        have e1 : (X1 xs false).flatMap stc = xs.flatMap stc ++ [.bool false, .slice none 0 0] := by simp
        have e2 : (X1 xs false).length = xs.length + 1 := by simp
        unfold QuoT
        rw [e1, e2]
        refine g2.impl fun _ q => ?_
        exact Both.mono (fun _ _ q => Both.mono (fun _ _ q => AllRows.push (val := fun x : Sta × Value => x.2) (cells := fun x => x.1.edges.flatMap edc) (n := fun x => x.1.edges.length) (⟨false, []⟩, .slice none 0 0) q) q.assoc) q.assoc
      (try simp only [Act.put])
      generalize w4.setCell ⟨qb, 4, none⟩ (.slice a2 (xs.length + 1) c2) = w5 at h5 ⊢
      obtain ⟨k0, _, kl0⟩ := h5.cellF (o := 0) rfl
      obtain ⟨k2, _, _⟩ := h5.cellF (o := 2) rfl
      obtain ⟨f1, _, fl1⟩ := h5.drop.drop.drop.drop.drop.rowCell (nats_get HF.out)
      have z0 := (h5.below.cell (World.block_lt_of_cell? _ _ D0.out)).trans D0.out
      have z1 := (h5.below.cell (World.block_lt_of_cell? _ _ D1.out)).trans D1.out
      have hbl := World.block_lt_of_cell? _ _ z0
      have hnI : (n : Int) < (A.length : Int) := by omega
      have H5 := Lib.hid h5
      clear h5 H4 e4 e4f
      go_cut [6] (fun v6 wx => v6 = ptrN w5.heap.size ∧ At W wx (Both (CellT w5.heap.size #[.bool x.final, .slice ua x.edges.length uc] tRS) (QuoT qb A.length c (.slice (some ⟨b, off, none⟩) A.length cap) kg kc fg fc qg qc K F (.slice a2 (xs.length + 1) c2) (X1 xs false) (Q.set (cl t) (xs.length : Int)) R)))
      case first =>
        refine wp_norm ?_
        rename_i J K' hJ hK
        have HJ := Lib.hid hJ
        have HK := Lib.hid hK
        clear hJ hK
        go_region_law (fail)
        all_goals
          refine HK.out _ _ ?_
          have hJ := HJ.out
          go_meet
          case rel => exact ⟨rfl, (H5.out.newCell (QuoT.stable HR.out) _ _).drew ((CellT.stable _ _ _).both (QuoT.stable HR.out))⟩
      case rest =>
        obtain ⟨rfl, hcut⟩ := hcut
        have h8 := hcut.noRowG ((CellT.stable _ _ _).both (QuoT.stable HR.out)) tRE 2
        have H8 := Lib.hid h8
        clear hcut h8 k0 k2 f1 z0 z1 hbl kl0 fl1
        (repeat' (first | (go_big_may; fail) | go_values | go_skip | go_guarded | go_step | go_upon | go_back | dsimp only))
        go_loopw [7, 8] (fun ve vi wr => ∃ (j : Nat) (t' : Trie) (T' : List Trie) (ys : List (Sta × Value)) (es : List Ed) (ov' : Value) (Q' : List Int), vi = .int .i64 j ∧ j ≤ x.edges.length ∧ es.length = j ∧ UnfE A t' x.final (x.edges.drop j) ∧ htT t' ≤ htT t ∧ (∀ s ∈ T', InA A s) ∧ T'.Nodup ∧ T'.length = xs.length + 1 + ys.length ∧ NQ A cl c T' Q' ∧
          layE t (T ++ [t]) = ((layE t' T').1, ys.map Prod.fst ++ (layE t' T').2.1, es ++ (layE t' T').2.2) ∧
          At W wr (Both (RowG tRE 2 ve j (es.flatMap edc)) (Both (CellT w5.heap.size #[.bool x.final, .slice ua x.edges.length uc] tRS) (QuoT qb A.length c (.slice (some ⟨b, off, none⟩) A.length cap) kg kc fg fc qg qc K F ov' (X1 xs false ++ ys) Q' R)))) (fun _ vi _ => x.edges.length - (intOf vi).toNat)
        case atStart =>
          refine ⟨0, t, T ++ [t], [], [], _, _, rfl, Nat.zero_le _, rfl, HU.out, Nat.le_refl _, fun s hs => ?_, ?_, by simp [HXL.out], HQ2.out, by simp, by rw [List.append_nil]; exact H8.out⟩
          · rcases List.mem_append.1 hs with hs | hs
            · exact HT0.out s hs
            · rw [List.mem_singleton] at hs; subst hs; exact HTI.out
          · exact List.nodup_append.2 ⟨hTn, by simp, fun a ha d hd e => by rw [List.mem_singleton] at hd; subst hd; subst e; exact HTN.out ha⟩
        case round =>
          obtain ⟨j, t', T', ys, es, ov', Q', rfl, hj, hesl, hut, hht', hT', hTn', hTl', hnq, hlay, h6⟩ := hrel
          obtain ⟨x1, _, _⟩ := h6.drop.cellF (o := 1) rfl
          by_cases hlj : j < x.edges.length
          · obtain ⟨e, he⟩ : ∃ e, x.edges[j]? = some e := ⟨_, List.getElem?_eq_getElem hlj⟩
            have hdr : x.edges.drop j = e :: x.edges.drop (j + 1) := by
              obtain ⟨h1, h2⟩ := List.getElem?_eq_some_iff.1 he
              rw [List.drop_eq_getElem_cons h1, h2]
            rw [hdr] at hut
            obtain ⟨ct, r, rfl, hge0, huc2, hur⟩ := hut.cons
            obtain ⟨m, hm⟩ := Int.eq_ofNat_of_zero_le hge0
            rw [hm, Int.toNat_natCast] at huc2
            have hml := huc2.lt
            have hmI : (m : Int) < (A.length : Int) := by omega
            have hjI : (j : Int) < (x.edges.length : Int) := by omega
            have hht2 : htT ct < k := by
              simp only [htT] at hht'
              omega
            obtain ⟨be, oe, ce, hse, e0, e1⟩ := RdEds.at (RdRow.below HE.out h6.below) he
            cases hse
            rw [hm] at e1
            obtain ⟨x2, _, _⟩ := h6.drop.drop.cellF (o := 1) rfl
            obtain ⟨x3, _, _⟩ := h6.drop.drop.drop.drop.drop.drop.rowCell (nats_get (HC.out.cls m ct huc2))
            have hst2 : Stable (Both (RowG tRE 2 u7 j (es.flatMap edc)) (Both (CellT w5.heap.size #[.bool x.final, .slice (some ⟨be, oe, none⟩) x.edges.length uc] tRS) R)) := (RowG.stable _ _ _ _ _).both ((CellT.stable _ _ _).both HR.out)
            have h7 : At W wr (QuoT qb A.length c (.slice (some ⟨b, off, none⟩) A.length cap) kg kc fg fc qg qc K F ov' (X1 xs false ++ ys) Q' (Both (RowG tRE 2 u7 j (es.flatMap edc)) (Both (CellT w5.heap.size #[.bool x.final, .slice (some ⟨be, oe, none⟩) x.edges.length uc] tRS) R))) :=
              h6.impl fun _ q => Both.in6 (Both.mono (fun _ _ q => Both.in6 q) q)
            have hinc : InA A ct := ⟨m, huc2⟩
            have hcall := IH.out _ ct T' (X1 xs false ++ ys) ov' Q' _ (h7.drew (QuoT.stable hst2)) hst2 hT' hTn' hinc hnq hht2 (by rw [hTl']; simp; omega)
            have HCALL := Lib.hid hcall
            have HED := Lib.hid he
            have HLAY := Lib.hid hlay
            have HESL := Lib.hid hesl
            have HUR := Lib.hid hur
            have HIN := Lib.hid (numS_in hinc hT' hTn')
            have HTLN := Lib.hid hTl'
            have hesb : j ≤ 1048576 := by omega
            clear h6 h7 hst2 hcall hlay hesl hur hT' hTn' hTl' hnq huc2 hut hdr hge0 hinc he hm
            (repeat' (first | (go_big_may; fail) | go_values | go_skip | go_guarded | go_step | go_upon | go_back | dsimp only))
            (refine region_still_tail 13 (by kernel_rfl) (by kernel_rfl) ?_; simp only [List.take_succ_cons, List.take_zero, List.drop_succ_cons, List.drop_zero]; (iterate 13 (first | ((with_reducible refine still_plain ?_ rfl ?_ ?_); rotate_left; (next => (go_simp; (try with_reducible rfl))); simp only [Act.put, List.setIfInBounds_toArray, List.set_cons_zero, List.set_cons_succ]) | ((with_reducible refine still_skip ?_ ?_); (next => (go_simp; done)); simp only [Act.put, List.setIfInBounds_toArray, List.set_cons_zero, List.set_cons_succ]) | ((with_reducible refine still_val ?_ ?_ ?_ ?_); rotate_left; (next => (go_simp; done)); (next => (go_simp; (try with_reducible rfl))); simp only [Act.put, List.setIfInBounds_toArray, List.set_cons_zero, List.set_cons_succ]))); (with_reducible refine wpStill_nil ?_))
            (repeat' (first | (go_big_may; fail) | go_values | go_skip | go_guarded | go_step | go_upon | go_back | dsimp only))
            refine HCALL.out.mono ?_
            rintro e7 w7 ⟨ov7, Q7, ys7, rfl, hys7, hq7, h11⟩
            have h12 : At W w7 (Both (RowG tRE 2 u7 j (es.flatMap edc)) (Both (CellT w5.heap.size #[.bool x.final, .slice (some ⟨be, oe, none⟩) x.edges.length uc] tRS) (QuoT qb A.length c (.slice (some ⟨b, off, none⟩) A.length cap) kg kc fg fc qg qc K F ov7 (X1 xs false ++ ys ++ ys7) Q7 R))) :=
              h11.impl fun _ q => Both.mono (fun _ _ q => Both.out6 q) (Both.out6 q)
            obtain ⟨y1, _, _⟩ := h12.drop.cellF (o := 1) rfl
            obtain ⟨be', oe', ce', hse, e0', e1'⟩ := RdEds.at (RdRow.below HE.out h12.below) HED.out
            cases hse
            have H12 := Lib.hid h12
            have HYS7 := Lib.hid hys7
            have HQ7 := Lib.hid hq7
            clear h11 h12 hys7 hq7 HCALL x1 x2 x3 e0 e1 e1'
            (repeat' (first | (go_big_may; ((at_builtin; go_must (refine wpList_append_to rfl _ _ 71 tRE rfl Try.underlying71 info_RE rfl (by decide) rfl (H12.out) (((CellT.stable _ _ _).both (QuoT.stable HR.out))) rfl (by first | rfl | simp) rfl (two_one' _ _ rfl rfl) (by unfold maxLen; omega) (by omega) ?_); intro a7 c7 w8 h13 _); have H13 := Lib.hid h13; clear h13)) | go_values | go_skip | go_guarded | go_step | go_upon | go_back | dsimp only))
            go_roundw
            case rel =>
              have hyl : ys7.length = (numS ct T').2.1.length := by
                have := congrArg List.length HYS7.out
                simpa using this
              refine ⟨j + 1, r, (numS ct T').1, ys ++ ys7, es ++ [(e.1, ((numS ct T').2.2 : Int))], ov7, Q7, by simp, by omega, by simp [HESL.out], HUR.out, by simp only [htT] at hht'; omega, HIN.out.1, HIN.out.2.1, ?_, HQ7.out, ?_, ?_⟩
              · rw [HIN.out.2.2, HTLN.out, List.length_append, hyl]; omega
              · rw [HLAY.out, layE_edge, List.map_append, HYS7.out]; simp
              · have e9 : (es ++ [(e.1, ((numS ct T').2.2 : Int))]).flatMap edc = es.flatMap edc ++ [bv e.1, .int .i64 ((numS ct T').2.2 : Nat)] := by simp
                rw [e9, ← List.append_assoc]
                exact H13.out
            case measure => simp [intOf] <;> omega
          · obtain rfl : j = x.edges.length := by omega
            rw [List.drop_eq_nil_of_le (Nat.le_refl _)] at hut
            obtain rfl := hut.nil
            simp only [layE, List.append_nil] at hlay
            have hf : t.final = x.final := HU.out.final
            obtain ⟨va, vc, hu9, _, _⟩ := own_shape h6.rowG
            obtain ⟨oo, oc2, hov2, _, _⟩ := own_shape h6.drop.drop.drop.rowG
            have hll : (X1 xs false ++ ys).length = xs.length + 1 + ys.length := by simp; omega
            obtain ⟨go, oc', hoo, _, hoc1, hoc2⟩ := own_cut h6.drop.drop.drop.rowG (by omega)
            subst hoo
            obtain ⟨x4, _, _⟩ := h6.drop.drop.cellF (o := 4) rfl
            obtain ⟨x0, _, _⟩ := h6.drop.cellF (o := 0) rfl
            have h4 := h6.swap.drop.pull3
            have hstr : Stable (Both (RowG tRE 2 u7 x.edges.length (es.flatMap edc)) (Both (CellT qb #[.slice (some ⟨b, off, none⟩) A.length cap, .slice (some ⟨kg, 0, none⟩) A.length kc, .slice (some ⟨fg, 0, none⟩) c fc, .slice (some ⟨qg, 0, none⟩) c qc, .slice (some ⟨go, 0, none⟩) (X1 xs false ++ ys).length oc'] tQo) (Both (EdsG tRE (X1 xs false ++ ys)) (Both (RowG tInt 1 (.slice (some ⟨qg, 0, none⟩) c qc) c (intsQ Q')) (Both (RowG tInt 1 (.slice (some ⟨kg, 0, none⟩) A.length kc) A.length (nats K)) (Both (RowG tInt 1 (.slice (some ⟨fg, 0, none⟩) c fc) c (nats F)) R)))))) :=
              (RowG.stable _ _ _ _ _).both ((CellT.stable _ _ _).both ((AllRows.stable _ _ _ _ _ _).both ((RowG.stable _ _ _ _ _).both ((RowG.stable _ _ _ _ _).both ((RowG.stable _ _ _ _ _).both HR.out)))))
            have hgx := x1_get xs ys (⟨false, []⟩, .slice none 0 0)
            have hgd : (X1 xs false ++ ys).getD xs.length default = (⟨false, []⟩, .slice none 0 0) := by rw [List.getD_eq_getElem?_getD, hgx]; rfl
            have hget0 : ((X1 xs false ++ ys).flatMap stc)[xs.length * 2]? = some (.bool false) := by
              have h9 := flatMap_get stc_len (X1 xs false ++ ys) (i := xs.length) (j := 0) (by omega) (by decide)
              rw [hgd] at h9
              exact h9
            have hget1 : ((X1 xs false ++ ys).flatMap stc)[xs.length * 2 + 1]? = some (.slice none 0 0) := by
              have h9 := flatMap_get stc_len (X1 xs false ++ ys) (i := xs.length) (j := 1) (by omega) (by decide)
              rw [hgd] at h9
              exact h9
            have h4d := h4
            obtain ⟨g1, g2, g3⟩ := h4d.rowCell hget0
            obtain ⟨g4, g5, _⟩ := h4d.rowCell hget1
            have h5 := (h4d.storeG hstr (xs.length * 2) (.bool x.final)).storeG hstr (xs.length * 2 + 1) u7
            rw [stc_set2 hgx x.final u7 es, x1_set] at h5
            rw [← hesl] at h5
            have e7 : (xs ++ (((⟨x.final, es⟩, u7) : Sta × Value) :: ys)).length = (X1 xs false ++ ys).length := by simp
            have h6' : At W ((wr.setCell ⟨go, xs.length * 2, none⟩ (.bool x.final)).setCell ⟨go, xs.length * 2 + 1, none⟩ u7) (QuoT qb A.length c (.slice (some ⟨b, off, none⟩) A.length cap) kg kc fg fc qg qc K F (.slice (some ⟨go, 0, none⟩) (X1 xs false ++ ys).length oc') (xs ++ (((⟨x.final, es⟩, u7) : Sta × Value) :: ys)) Q' R) := by
              unfold QuoT
              rw [e7]
              refine h5.impl fun _ q => ?_
              have q1 := Both.mono (fun _ _ q2 => Both.mono (fun _ _ q4 => AllRows.setRow (val := fun x : Sta × Value => x.2) (cells := fun x => x.1.edges.flatMap edc) (n := fun x => x.1.edges.length) (y := (⟨x.final, es⟩, u7)) hgx rfl q4) (Both.assoc q2)) q
              rw [x1_set] at q1
              exact Both.assoc q1
            have H6 := Lib.hid h6'
            have HLAY := Lib.hid hlay
            have HESL := Lib.hid hesl
            have HFN := Lib.hid hf
            have HNQ := Lib.hid hnq
            have hi0 : (0 : Int) ≤ (xs.length : Int) := by omega
            have hi1 : (xs.length : Int) < ((X1 xs false ++ ys).length : Int) := by omega
            have hjI : ¬ (x.edges.length : Int) < (x.edges.length : Int) := by omega
            generalize hlX : (X1 xs false ++ ys).length = LX at *
            clear h4 h5 h6 h6' h4d hgx hget0 hget1 hgd hstr hlay hesl e7 hll hf hT' hTn' hTl' hut hht' hnq hov2
            subst hu9
            (repeat' (first | (go_big_may; fail) | go_values | go_skip | go_guarded | go_step | go_upon | go_back | dsimp only))
            (refine region_still_tail 10 (by kernel_rfl) (by kernel_rfl) ?_; simp only [List.take_succ_cons, List.take_zero, List.drop_succ_cons, List.drop_zero]; (iterate 10 (first | ((with_reducible refine still_plain ?_ rfl ?_ ?_); rotate_left; (next => (go_simp; (try with_reducible rfl))); simp only [Act.put, List.setIfInBounds_toArray, List.set_cons_zero, List.set_cons_succ]) | ((with_reducible refine still_skip ?_ ?_); (next => (go_simp; done)); simp only [Act.put, List.setIfInBounds_toArray, List.set_cons_zero, List.set_cons_succ]) | ((with_reducible refine still_val ?_ ?_ ?_ ?_); rotate_left; (next => (go_simp; done)); (next => (go_simp; (try with_reducible rfl))); simp only [Act.put, List.setIfInBounds_toArray, List.set_cons_zero, List.set_cons_succ]))); (with_reducible refine wpStill_nil ?_))
            (repeat' (first | (go_big_may; fail) | go_values | go_skip | go_guarded | go_step | go_upon | go_back | dsimp only))
            go_ret
            refine ⟨.slice (some ⟨go, 0, none⟩) LX oc', Q', (⟨x.final, es⟩, .slice va x.edges.length vc) :: ys, ?_, ?_, ?_, ?_⟩
            · rw [← HXL.out]; rfl
            · rw [HLAY.out, HFN.out]; rfl
            · rw [HLAY.out]; exact HNQ.out
            · exact H6.out.drew (QuoT.stable HR.out)
end Go.Proofs.Ythjkfiniafblbaa
