/- hornbookref18.Automaton walked: visit numbers a tree's states in the order of being met. · hornbookref18.Automaton, hornbookref08.Minus walked. -/
import Derived.Test.YtcbdncjknpdnbaaAuT
import Derived.Test.YtcbdncjknpdnbaaWkRef
import Derived.Deep.CutBlock
import Derived.Test.YtcbdncjknpdnbaaRef8b
namespace Go.Proofs.Ytcbdncjknpdnbaa
section
open Go.RowKit

theorem frame_le : ∀ {V : List (List UInt8)}, (∀ w ∈ V, w.length ≤ 255) → (frameL V).length ≤ 265 * V.length
  | [], _ => Nat.le_refl _
  | r :: V, h => by
    have h1 := frame_le (V := V) fun w hw => h w (by simp [hw])
    have h2 := h r (by simp)
    have h3 := uintL_length10 (n := r.length) (by omega)
    have e : frameL (r :: V) = uintL r.length ++ r ++ frameL V := by simp [frameL]
    rw [e, List.length_append, List.length_append, List.length_cons]
    omega
/-- What visit keeps. -/
abbrev VisT (bb : Nat) (wv rv nv ov : Value) (ks : List (List UInt8)) (ns : List Nat) (xs : List (Sta × Value)) (R : Thing) : Thing :=
  TabT bb wv rv nv ov ks ns (Both (RowG tRS 2 ov xs.length (xs.flatMap stc)) (Both (EdsG tRE xs) R))
theorem VisT.stable {bb : Nat} {wv rv nv ov : Value} {ks : List (List UInt8)} {ns : List Nat} {xs : List (Sta × Value)} {R : Thing} (h : Stable R) : Stable (VisT bb wv rv nv ov ks ns xs R) :=
  TabT.stable ((RowG.stable _ _ _ _ _).both ((AllRows.stable _ _ _ _ _ _).both h))
/-- The words of a part of the tree are short, and so are its trees'. -/
theorem FitT.kid {L : List (List UInt8)} (h255 : ∀ r ∈ L, r.length ≤ 255) {i k hi d : Nat} {b : UInt8} {c r : Trie} (hg : Grp L i k hi d b c r) {p : Int} (hk : okE False (.edge b c r) p) : FitT c :=
  ⟨hk.2.2.1, fun w hw => by
    obtain ⟨j, hj⟩ := List.mem_iff_getElem?.1 hw
    obtain ⟨q, _, h2⟩ := hg.sub.get hj
    have := h255 _ (List.mem_of_getElem? h2)
    rw [List.length_append] at this; omega⟩
theorem byte_at {xb : ByteArray} {d : Nat} {b : UInt8} (h : xb.data.toList[d]? = some b) : ∃ h : d < xb.size, xb[d] = b := by
  obtain ⟨h1, h2⟩ := List.getElem?_eq_some_iff.1 h
  rw [Array.length_toList, ByteArray.size_data] at h1
  exact ⟨h1, h2⟩
theorem stc_setB {xs : List (Sta × Value)} {i : Nat} {x : Sta × Value} (hx : xs[i]? = some x) (f : Bool) (v : Value) : ∀ es, ((xs.flatMap stc).set (i * 2) (.bool f)).set (i * 2 + 1) v = (xs.set i (⟨f, es⟩, v)).flatMap stc := by
  intro es
  induction xs generalizing i with
  | nil => simp at hx
  | cons y xs ih =>
    cases i with
    | zero =>
      simp at hx
      subst hx
      rfl
    | succ i =>
      have ih := ih (i := i) (by simpa using hx)
      have e0 : (i + 1) * 2 = i * 2 + 1 + 1 := by omega
      simp only [List.flatMap_cons, List.set_cons_succ]
      rw [e0, ← ih]
      rfl
theorem sum_255B {S : List (List UInt8)} (h : ∀ r ∈ S, r.length ≤ 255) : sumL S ≤ 255 * S.length := by
  induction S with
  | nil => exact Nat.le_refl _
  | cons r S ih =>
    have h1 := h r (by simp)
    have h2 := ih fun x hx => h x (by simp [hx])
    have e : sumL (r :: S) = r.length + sumL S := by simp [sumL]
    rw [e, List.length_cons]; omega
theorem as_bytes (x : List UInt8) : ∃ xb : ByteArray, x = xb.data.toList := ⟨⟨x.toArray⟩, rfl⟩
theorem numS_sz (t : Trie) (T : List Trie) : (numS t T).2.1.length ≤ szT t + 1 := by
  unfold numS
  split
  · simp
  · have := (layE_sz t (T ++ [t])).1
    simp; omega
theorem Both.in5 {A a b c d e T : Thing} {w : World} {fp : List Nat} (h : Both A (Both a (Both b (Both c (Both d (Both e T))))) w fp) : Both a (Both b (Both c (Both d (Both e (Both A T))))) w fp :=
  Both.mono (fun _ _ q => Both.in4 q) h.assoc
theorem Both.out5 {A a b c d e T : Thing} {w : World} {fp : List Nat} (h : Both a (Both b (Both c (Both d (Both e (Both A T))))) w fp) : Both A (Both a (Both b (Both c (Both d (Both e T))))) w fp :=
  Both.assoc (Both.mono (fun _ _ q => Both.out4 q) h)
set_option maxRecDepth 100000 in
set_option maxHeartbeats 1600000 in
theorem auVisit_at {W : World} {L : List (List UInt8)} {wv : Value} (hL : RdRow W wv L.length 1 (strs L)) (hn : L.length ≤ 2097152) (h255 : ∀ r ∈ L, r.length ≤ 255) (bb : Nat) (k : Nat) : ∀ (w : World) (t : Trie) (T : List Trie) (ks : List (List UInt8)) (ns : List Nat) (rv nv ov : Value) (xs : List (Sta × Value)) (lo hi d : Nat) (R : Thing),
    At W w (VisT bb wv rv nv ov ks ns xs R) → Stable R → TabOk ks ns T → (∀ s ∈ T, FitT s) → T.Nodup → FitT t → Spn L lo hi d (wT t []) → d ≤ 255 → htT t < k → xs.length = T.length → T.length + szT t ≤ 1073741824 →
    Calls Try.prog 61 #[.pointer (some ⟨bb, 0, none⟩), .int .i64 lo, .int .i64 hi, .int .i64 d] w fun e w' => ∃ rv' nv' ov' ks' ns' ys, e = .returned (.int .i64 ((numS t T).2.2 : Nat)) ∧ ys.map Prod.fst = (numS t T).2.1 ∧ TabOk ks' ns' (numS t T).1 ∧ (∀ s ∈ (numS t T).1, FitT s) ∧ (numS t T).1.Nodup ∧ At W w' (VisT bb wv rv' nv' ov' ks' ns' (xs ++ ys) R) := by
  induction k with
  | zero => intro w t T ks ns rv nv ov xs lo hi d R _ _ _ _ _ _ _ _ h; omega
  | succ k ih =>
    intro w t T ks ns rv nv ov xs lo hi d R h hR htab hT hTn ht hsp hd hk hxl hsz
    obtain ⟨_, _, _, hsp3, hsp4⟩ := id hsp
    obtain ⟨c0, _, _⟩ := h.cellF (o := 0) (u := wv) rfl
    obtain ⟨la, lc, hlv, _, _⟩ := hL.shape
    have hst : Stable (VisT bb wv rv nv ov ks ns xs R) := VisT.stable hR
    have hV : ((L.take hi).drop lo).map (List.drop d) = wT t [] := hsp.tails
    have hvl : (wT t []).length ≤ 2097152 := by omega
    have hfr := Rest_calls (w := w) (RdRow.below hL h.below) (lo := lo) (hi := hi) (d := d) (by omega) hsp4 (by omega) (fun i x h1 h2 hx => by
      obtain ⟨u, hu⟩ : ∃ u, (wT t [])[i - lo]? = some u := ⟨_, List.getElem?_eq_getElem (by omega)⟩
      obtain ⟨q, h3, h4⟩ := hsp.get hu
      rw [show lo + (i - lo) = i from by omega, hx] at h4
      cases h4
      simp; omega) hd hV (fits_all ht.2) (by have := frame_le ht.2; omega)
    obtain ⟨z, hz⟩ : ∃ z, restT t = z := ⟨_, rfl⟩
    have hz' : frameL (wT t []) = z := hz
    rw [hz'] at hfr
    have hks : ks.length ≤ 1073741824 := by rw [htab.size]; omega
    have hat := belowL_le ks z
    have hPL := fun (w1 : World) (h1 : At W w1 (VisT bb wv rv nv ov ks ns xs R)) => place_calls (w := w1) (bb := bb) htab.rise (RdRow.of_own h1.drop.rowG) (by omega) (h1.cellF (o := 1) rfl).1 z
    have HFR := Lib.hid hfr
    have HPL := Lib.hid hPL
    have H := Lib.hid h
    have HR := Lib.hid hR
    have HST := Lib.hid hst
    have HTB := Lib.hid htab
    have HT0 := Lib.hid hT
    have HTN := Lib.hid hTn
    have HT := Lib.hid ht
    have HSP := Lib.hid hsp
    have HL := Lib.hid hL
    have H255 := Lib.hid h255
    have IH := Lib.hid ih
    have HXL := Lib.hid hxl
    have HZ := Lib.hid hz
    obtain ⟨ra, rc, hrv, _, hrc⟩ := own_shape h.drop.rowG
    obtain ⟨na, nc, hnv, _, hnc⟩ := own_shape h.drop.drop.rowG
    by_cases hm : t ∈ T
    · obtain ⟨hh1, hh2⟩ := htab.hit hT hTn hm
      rw [hz] at hh1 hh2
      have hal : belowL ks z < ks.length := (List.getElem?_eq_some_iff.1 hh1).1
      have hlen := htab.len
      rw [numS_hit hm]
      obtain ⟨gk, kc2, hvk, _, _, _⟩ := own_cut h.drop.rowG (by omega)
      obtain ⟨gn, nc2, hvn, _, _, _⟩ := own_cut h.drop.drop.rowG (by omega)
      subst hvk
      subst hvn
      subst hlv
      have HH1 := Lib.hid hh1
      have HH2 := Lib.hid hh2
      have ha0 : (0 : Int) ≤ (belowL ks z : Int) := by omega
      have ha1 : (belowL ks z : Int) < (ks.length : Int) := by omega
      have ha2 : (belowL ks z : Int) < (ns.length : Int) := by omega
      clear h hR htab hT hTn ht hsp hL h255 ih hfr hPL hh1 hh2 hst hz hz' hV hrv hnv hm hxl
      generalize belowL ks z = i at *
      go_enter Try.func61, Try.ntmps61
      (repeat' (first | (go_big_may; fail) | go_values | go_skip | go_guarded | go_step | go_upon | go_back | dsimp only))
      refine HFR.out.mono ?_
      rintro e1 w1 ⟨rfl, hb1⟩
      have H1 := Lib.hid (H.out.mono HST.out hb1)
      have hp := HPL.out w1 H1.out
      have HP := Lib.hid hp
      obtain ⟨q1, _, _⟩ := H1.out.cellF (o := 1) (u := .slice (some ⟨gk, 0, none⟩) ks.length kc2) rfl
      obtain ⟨q2, _, _⟩ := H1.out.cellF (o := 2) (u := .slice (some ⟨gn, 0, none⟩) ns.length nc2) rfl
      obtain ⟨q3, _, _⟩ := H1.out.drop.rowCell (strs_get2 HH1.out)
      obtain ⟨q4, _, _⟩ := H1.out.drop.drop.rowCell (nats_get HH2.out)
      clear hb1 hp c0
      (repeat' (first | (go_big_may; fail) | go_values | go_skip | go_guarded | go_step | go_upon | go_back | dsimp only))
      refine HP.out.mono ?_
      rintro e2 w2 ⟨rfl, rfl⟩
      (repeat' (first | (go_big_may; fail) | go_values | go_skip | go_guarded | go_step | go_upon | go_back | dsimp only))
      go_ret
      exact ⟨_, _, _, ks, ns, [], rfl, rfl, HTB.out, HT0.out, HTN.out, by rw [List.append_nil]; exact H1.out⟩
    · have hzk : z ∉ ks := fun h1 => hm ((htab.mem hT ht).1 (hz ▸ h1))
      have hput := htab.put (t := t) (by rw [hz]; exact hzk)
      rw [hz, ← hxl] at hput
      rw [numS_new hm]
      obtain ⟨oa, oc, hov, _, _⟩ := own_shape h.drop.drop.drop.rowG
      have hlen := htab.len
      have hxb : xs.length ≤ 1073741824 := by omega
      subst hlv
      subst hrv
      subst hnv
      subst hov
      have HPUT := Lib.hid hput
      have HZK := Lib.hid hzk
      have HM := Lib.hid hm
      have HLN := Lib.hid hlen
      clear h hR htab hT hTn ht hsp hL h255 ih hfr hPL hst hz hz' hV hm hput hzk hlen hxl
      go_enter Try.func61, Try.ntmps61
      (repeat' (first | (go_big_may; fail) | go_values | go_skip | go_guarded | go_step | go_upon | go_back | dsimp only))
      refine HFR.out.mono ?_
      rintro e1 w1 ⟨rfl, hb1⟩
      have H1 := Lib.hid (H.out.mono HST.out hb1)
      have hp := HPL.out w1 H1.out
      have HP := Lib.hid hp
      obtain ⟨q1, _, _⟩ := H1.out.cellF (o := 1) (u := .slice ra ks.length rc) rfl
      clear hb1 hp c0 HPL HFR H
      (repeat' (first | (go_big_may; fail) | go_values | go_skip | go_guarded | go_step | go_upon | go_back | dsimp only))
      refine HP.out.mono ?_
      rintro e2 w2 ⟨rfl, rfl⟩
      clear HP
      go_upto_region 3 with (fail)
      go_cut [49] (fun v wx => v = .bool false ∧ wx = w2)
      case first =>
        refine wp_norm ?_
        rename_i J K' hJ hK
        have HJ := Lib.hid hJ
        have HK := Lib.hid hK
        clear hJ hK
        by_cases hal : belowL ks z < ks.length
        · obtain ⟨y, hy⟩ : ∃ y, ks[belowL ks z]? = some y := ⟨_, List.getElem?_eq_getElem hal⟩
          have hyz : ¬ y = z := fun e => HZK.out (e ▸ List.mem_of_getElem? hy)
          have hyz2 : (y == z) = false := by simpa using hyz
          obtain ⟨gk, kc2, hvk, _, _, _⟩ := own_cut H1.out.drop.rowG (by omega)
          cases hvk
          obtain ⟨q3, _, _⟩ := H1.out.drop.rowCell (strs_get2 hy)
          have ha0 : (0 : Int) ≤ (belowL ks z : Int) := by omega
          have ha1 : (belowL ks z : Int) < (ks.length : Int) := by omega
          clear hy hyz
          generalize belowL ks z = i at *
          (repeat' (first | (go_big_may; fail) | go_values | go_skip | go_guarded | go_step | go_upon | go_back | dsimp only))
          refine HK.out _ _ ?_
          have hJ := HJ.out
          go_meet
          case rel => exact ⟨rfl, rfl⟩
        · have ha1 : ¬ (belowL ks z : Int) < (ks.length : Int) := by omega
          generalize belowL ks z = i at *
          (repeat' (first | (go_big_may; fail) | go_values | go_skip | go_guarded | go_step | go_upon | go_back | dsimp only))
          refine HK.out _ _ ?_
          have hJ := HJ.out
          go_meet
          case rel => exact ⟨rfl, rfl⟩
      case rest =>
        obtain ⟨rfl, rfl⟩ := hcut
        obtain ⟨q3, _, _⟩ := H1.out.cellF (o := 3) (u := .slice oa xs.length oc) rfl
        have hpc := put_at H1.out ((RowG.stable _ _ _ _ _).both ((AllRows.stable _ _ _ _ _ _).both HR.out)) HLN.out (by omega) hat z xs.length
        have hp2 := HPUT.out
        generalize ks.take (belowL ks z) ++ z :: ks.drop (belowL ks z) = ks2 at hpc hp2
        generalize ns.take (belowL ks z) ++ xs.length :: ns.drop (belowL ks z) = ns2 at hpc hp2
        have HPC := Lib.hid hpc
        have HTB2 := Lib.hid hp2
        clear hpc q1 hp2 HPUT HZK
        generalize belowL ks z = i at *
        (repeat' (first | (go_big_may; fail) | go_values | go_skip | go_guarded | go_step | go_upon | go_back | dsimp only))
        refine HPC.out.mono ?_
        rintro e3 w3 ⟨rfl, rv3, nv3, h3⟩
        obtain ⟨r3, _, _⟩ := h3.cellF (o := 3) (u := .slice oa xs.length oc) rfl
        have H3 := Lib.hid h3.pull4
        clear h3 HPC q3 H1
        go_upto_region 10 with ((at_builtin; go_must (refine wpList_append_to rfl _ _ 23 tRS rfl Try.underlying23 info_RS rfl (by decide) rfl (H3.out) (((CellT.stable _ _ _).both ((RowG.stable _ _ _ _ _).both ((RowG.stable _ _ _ _ _).both ((AllRows.stable _ _ _ _ _ _).both HR.out))))) rfl (by first | rfl | simp) rfl (two_one' _ _ rfl rfl) (by unfold maxLen; omega) (by omega) ?_); intro a4 c4 w4 h4 _); obtain ⟨e4, e4f, _⟩ := h4.drop.cellF (o := 3) rfl; have H4 := Lib.hid h4; clear h4)
        have H5 := Lib.hid (show At W (w4.setCell ⟨bb, 3, none⟩ (.slice a4 (xs.length + 1) c4)) (VisT bb (.slice la L.length lc) rv3 nv3 (.slice a4 (xs.length + 1) c4) ks2 ns2 (X1 xs false) R) from by
          have g1 := H4.out.swap.setCell ((RowG.stable _ _ _ _ _).both ((RowG.stable _ _ _ _ _).both ((RowG.stable _ _ _ _ _).both ((AllRows.stable _ _ _ _ _ _).both HR.out)))) 3 (.slice a4 (xs.length + 1) c4)
          have g2 := g1.noRowG ((CellT.stable _ _ _).both ((RowG.stable _ _ _ _ _).both ((RowG.stable _ _ _ _ _).both ((RowG.stable _ _ _ _ _).both ((AllRows.stable _ _ _ _ _ _).both HR.out))))) tRE 2
          have e1 : (X1 xs false).flatMap stc = xs.flatMap stc ++ [.bool false, .slice none 0 0] := by simp
          have e2 : (X1 xs false).length = xs.length + 1 := by simp
          unfold VisT TabT
          rw [e1, e2]
          refine (g2.impl fun _ q => Both.in4 q).impl fun _ q => ?_
          exact Both.mono (fun _ _ q => Both.mono (fun _ _ q => Both.mono (fun _ _ q => Both.mono (fun _ _ q => AllRows.push (val := fun x : Sta × Value => x.2) (cells := fun x => x.1.edges.flatMap edc) (n := fun x => x.1.edges.length) (⟨false, []⟩, .slice none 0 0) q) q) q.assoc) q.assoc) q)
        clear H4 H3 e4 e4f r3
        (try simp only [Act.put])
        generalize w4.setCell ⟨bb, 3, none⟩ (.slice a4 (xs.length + 1) c4) = w5 at H5 ⊢
        obtain ⟨fN, hfN⟩ : ∃ n : Nat, n = lo + (if t.final then 1 else 0) := ⟨_, rfl⟩
        go_cut [95] (fun v95 wx => v95 = .bool t.final ∧ wx = w5)
        case first =>
          refine wp_norm ?_
          rename_i J K' hJ hK
          have HJ := Lib.hid hJ
          have HK := Lib.hid hK
          clear hJ hK
          obtain ⟨c0, _, _⟩ := H5.out.cellF (o := 0) (u := .slice la L.length lc) rfl
          cases hf : t.final with
          | true =>
            obtain ⟨⟨p, hp1, hp2⟩, hlt, _⟩ := HSP.out.final hf
            obtain ⟨xb, rfl⟩ := as_bytes p
            rw [Array.length_toList, ByteArray.size_data] at hp1
            obtain ⟨g, off, cp, hsl, hcx⟩ := (RdRow.below HL.out H5.out.below).strb hp2
            cases hsl
            have hi0 : (0 : Int) ≤ (lo : Int) := by omega
            have hi1 : (lo : Int) < (L.length : Int) := by omega
            have hi2 : (lo : Int) < (hi : Int) := by omega
            have hi3 : (xb.size : Int) = (d : Int) := by omega
            clear hp1 hp2 hlt hfN
            (repeat' (first | (go_big_may; fail) | go_values | go_skip | go_guarded | go_step | go_upon | go_back | dsimp only))
            refine HK.out _ _ ?_
            have hJ := HJ.out
            go_meet
            case rel => exact ⟨by rw [hf], rfl⟩
          | false =>
            have hsp2 := HSP.out.inner hf
            by_cases hlt : lo < hi
            · obtain ⟨p, hp2, hp1⟩ := hsp2.long HT.out.1 hlt
              obtain ⟨xb, rfl⟩ := as_bytes p
              rw [Array.length_toList, ByteArray.size_data] at hp1
              obtain ⟨g, off, cp, hsl, hcx⟩ := (RdRow.below HL.out H5.out.below).strb hp2
              cases hsl
              have hi0 : (0 : Int) ≤ (lo : Int) := by omega
              have hi1 : (lo : Int) < (L.length : Int) := by omega
              have hi2 : (lo : Int) < (hi : Int) := by omega
              have hi3 : ¬ (xb.size : Int) = (d : Int) := by omega
              clear hp1 hp2 hlt hfN hsp2
              (repeat' (first | (go_big_may; fail) | go_values | go_skip | go_guarded | go_step | go_upon | go_back | dsimp only))
              refine HK.out _ _ ?_
              have hJ := HJ.out
              go_meet
              case rel => exact ⟨by rw [hf]; simp only [beq_eq_false_iff_ne.2 hi3], rfl⟩
            · have hi2 : ¬ (lo : Int) < (hi : Int) := by omega
              clear hlt hfN hsp2
              (repeat' (first | (go_big_may; fail) | go_values | go_skip | go_guarded | go_step | go_upon | go_back | dsimp only))
              refine HK.out _ _ ?_
              have hJ := HJ.out
              go_meet
              case rel => exact ⟨by rw [hf], rfl⟩
        case rest =>
          obtain ⟨rfl, rfl⟩ := hcut
          go_upto_if 95 with (fail)
          go_cut [12, 13] (fun v12 v13 wx => v12 = .int .i64 fN ∧ v13 = .bool t.final ∧ wx = wc)
          case first =>
            refine wp_norm ?_
            rename_i J K' hJ hK
            have HJ := Lib.hid hJ
            have HK := Lib.hid hK
            clear hJ hK
            cases hf : t.final with
            | true =>
              have hfN2 : fN = lo + 1 := by rw [hfN, hf]; rfl
              clear hfN
              (repeat' (first | (go_big_may; fail) | go_values | go_skip | go_guarded | go_step | go_upon | go_back | dsimp only))
              refine HK.out _ _ ?_
              have hJ := HJ.out
              go_meet
              case rel => exact ⟨by rw [hfN2]; go_num, by rw [hf], rfl⟩
            | false =>
              have hfN2 : fN = lo := by rw [hfN, hf]; rfl
              clear hfN
              (repeat' (first | (go_big_may; fail) | go_values | go_skip | go_guarded | go_step | go_upon | go_back | dsimp only))
              refine HK.out _ _ ?_
              have hJ := HJ.out
              go_meet
              case rel => exact ⟨by rw [hfN2], by rw [hf], rfl⟩
          obtain ⟨rfl, rfl, rfl⟩ := hcut
          have hfs : Spn L fN hi d (lE t []) ∧ lo ≤ fN := by
            cases hf : t.final with
            | true =>
              have h1 := (HSP.out.final hf).2.2
              have h2 : fN = lo + 1 := by rw [hfN, hf]; rfl
              rw [h2]; exact ⟨h1, by omega⟩
            | false =>
              have h2 : fN = lo := by rw [hfN, hf]; rfl
              rw [h2]; exact ⟨HSP.out.inner hf, Nat.le_refl _⟩
          have H8 := Lib.hid (H5.out.noRowG (VisT.stable HR.out) tRE 2)
          have HFS := Lib.hid hfs
          have HFT := Lib.hid (show ∀ s ∈ T ++ [t], FitT s from fun s hs => by
            rcases List.mem_append.1 hs with hs | hs
            · exact HT0.out s hs
            · rw [List.mem_singleton] at hs; subst hs; exact HT.out)
          have HND := Lib.hid (show (T ++ [t]).Nodup from List.nodup_append.2 ⟨HTN.out, by simp, fun a ha d hd e => by rw [List.mem_singleton] at hd; subst hd; subst e; exact HM.out ha⟩)
          clear hfs hfN H5
          (repeat' (first | (go_big_may; fail) | go_values | go_skip | go_guarded | go_step | go_upon | go_back | dsimp only))
          go_loopw [12, 14] (fun vi ve wr => ∃ (i : Nat) (t' : Trie) (p : Int) (T' : List Trie) (ys : List (Sta × Value)) (es : List Ed) (rv' nv' ov' : Value) (ks' : List (List UInt8)) (ns' : List Nat), vi = .int .i64 i ∧ Spn L i hi d (lE t' []) ∧ okE False t' p ∧ htT t' ≤ htT t ∧ es.length + lo ≤ i ∧ TabOk ks' ns' T' ∧ (∀ s ∈ T', FitT s) ∧ T'.Nodup ∧ T'.length = xs.length + 1 + ys.length ∧ T'.length + szT t' ≤ 1073741825 ∧
            layE t (T ++ [t]) = ((layE t' T').1, ys.map Prod.fst ++ (layE t' T').2.1, es ++ (layE t' T').2.2) ∧
            At W wr (Both (RowG tRE 2 ve es.length (es.flatMap edc)) (VisT bb (.slice la L.length lc) rv' nv' ov' ks' ns' (X1 xs false ++ ys) R))) (fun vi _ _ => hi - (intOf vi).toNat)
          case atStart => exact ⟨fN, t, -1, T ++ [t], [], [], _, _, _, ks2, ns2, rfl, HFS.out.1, HT.out.1, Nat.le_refl _, by simpa using HFS.out.2, HTB2.out, HFT.out, HND.out, by simp [HXL.out], by simp; omega, by simp, by rw [List.append_nil]; exact H8.out⟩
          case round =>
            obtain ⟨i1, t', p, T', ys, es, rv', nv', ov', ks', ns', rfl, hsp', hok, hht', hel, htb', hT', hTn', hTl', hsz', hlay, h6⟩ := hrel
            obtain ⟨x0, _, _⟩ := h6.drop.cellF (o := 0) (u := .slice la L.length lc) rfl
            obtain ⟨_, _, _, hs3, hs4⟩ := id hsp'
            by_cases hlt : i1 < hi
            · have hiI : (i1 : Int) < (hi : Int) := by omega
              cases t' with
              | fin f => exact absurd hsp'.none (by omega)
              | edge b c r =>
                obtain ⟨k1, hg⟩ := hsp'.edge hok
                have hup := hg.up
                have hle := hg.le
                obtain ⟨x, hx, hxd⟩ := hg.same i1 (Nat.le_refl _) hup
                obtain ⟨xb, rfl⟩ := as_bytes x
                obtain ⟨hxs, hxv⟩ := byte_at hxd
                have hxl2 : xb.size ≤ 255 := by have := H255.out _ (List.mem_of_getElem? hx); simpa using this
                simp only [htT] at hht'
                simp only [szT] at hsz'
                have hst2 : Stable (Both (RowG tRE 2 u14 es.length (es.flatMap edc)) R) := (RowG.stable _ _ _ _ _).both HR.out
                have HG := Lib.hid hg
                have HX := Lib.hid hx
                have HIH := Lib.hid (fun (wq : World) (h : At W wq (Both (RowG tRE 2 u14 es.length (es.flatMap edc)) (VisT bb (.slice la L.length lc) rv' nv' ov' ks' ns' (X1 xs false ++ ys) R))) =>
                  IH.out wq c T' ks' ns' rv' nv' ov' (X1 xs false ++ ys) i1 k1 (d + 1) _ (h.impl fun _ q => Both.in5 q) hst2 htb' hT' hTn' (FitT.kid H255.out hg hok) hg.sub (by omega) (by omega) (by rw [hTl']; simp; omega) (by omega))
                have H6 := Lib.hid h6
                have HOK := Lib.hid hok
                have HLAY := Lib.hid hlay
                have HTL := Lib.hid hTl'
                have HSTF := Lib.hid ((RowG.stable tRE 2 u14 es.length (es.flatMap edc)).both (VisT.stable (bb := bb) (wv := .slice la L.length lc) (rv := rv') (nv := nv') (ov := ov') (ks := ks') (ns := ns') (xs := X1 xs false ++ ys) HR.out))
                have hj0 : (0 : Int) ≤ (i1 : Int) := by omega
                have hj1 : (i1 : Int) < (L.length : Int) := by omega
                have hd0 : (0 : Int) ≤ (d : Int) := by omega
                have hd1 : (d : Int) < (xb.size : Int) := by omega
                clear h6 hg hx hxd hok hlay hTl' htb' hT' hTn' hsp' hst2
                go_upto_block 2 with (fail)
                go_cut [15] (fun v15 wx => v15 = .int .i64 k1 ∧ At W wx (Both (RowG tRE 2 u14 es.length (es.flatMap edc)) (VisT bb (.slice la L.length lc) rv' nv' ov' ks' ns' (X1 xs false ++ ys) R)))
                case first =>
                  refine wp_norm ?_
                  rename_i J K' hJ hK
                  have HJ := Lib.hid hJ
                  have HK := Lib.hid hK
                  clear hJ hK HIH HLAY HTL
                  (repeat' (first | (go_big_may; fail) | go_values | go_skip | go_guarded | go_step | go_upon | go_back | dsimp only))
                  go_loopw [15] (fun vk wr2 => ∃ kk : Nat, vk = .int .i64 kk ∧ i1 ≤ kk ∧ kk ≤ k1 ∧ At W wr2 (Both (RowG tRE 2 u14 es.length (es.flatMap edc)) (VisT bb (.slice la L.length lc) rv' nv' ov' ks' ns' (X1 xs false ++ ys) R))) (fun vk _ => k1 - (intOf vk).toNat)
                  case atStart => exact ⟨i1, rfl, Nat.le_refl _, by omega, H6.out⟩
                  case round =>
                    obtain ⟨kk, rfl, hk1, hk2, h7⟩ := hrel
                    obtain ⟨y0, _, _⟩ := h7.drop.cellF (o := 0) (u := .slice la L.length lc) rfl
                    obtain ⟨g, off, cp, hsl, hcx⟩ := (RdRow.below HL.out h7.below).strb HX.out
                    cases hsl
                    have H7 := Lib.hid (h7.drew HSTF.out)
                    have hk0 : (0 : Int) ≤ (kk : Int) := by omega
                    by_cases hlk : kk < k1
                    · obtain ⟨y, hy, hyd⟩ := HG.out.same kk hk1 hlk
                      obtain ⟨yb, rfl⟩ := as_bytes y
                      obtain ⟨hys, hyv⟩ := byte_at hyd
                      obtain ⟨g2, off2, cp2, hsl2, hcy⟩ := (RdRow.below HL.out h7.below).strb hy
                      cases hsl2
                      have hkI : (kk : Int) < (hi : Int) := by omega
                      have hkL : (kk : Int) < (L.length : Int) := by omega
                      have hyI : (d : Int) < (yb.size : Int) := by omega
                      clear h7 hy hyd
                      (repeat' (first | (go_big_may; fail) | go_values | go_skip | go_guarded | go_step | go_upon | go_back | dsimp only))
                      (refine region_still_tail 23 (by kernel_rfl) (by kernel_rfl) ?_; simp only [List.take_succ_cons, List.take_zero, List.drop_succ_cons, List.drop_zero]; (iterate 23 (first | ((with_reducible refine still_plain ?_ rfl ?_ ?_); rotate_left; (next => (go_simp; (try with_reducible rfl))); simp only [Act.put, List.setIfInBounds_toArray, List.set_cons_zero, List.set_cons_succ]) | ((with_reducible refine still_skip ?_ ?_); (next => (go_simp; done)); simp only [Act.put, List.setIfInBounds_toArray, List.set_cons_zero, List.set_cons_succ]) | ((with_reducible refine still_val ?_ ?_ ?_ ?_); rotate_left; (next => (go_simp; done)); (next => (go_simp; (try with_reducible rfl))); simp only [Act.put, List.setIfInBounds_toArray, List.set_cons_zero, List.set_cons_succ]))); (with_reducible refine wpStill_nil ?_))
                      (repeat' (first | (go_big_may; fail) | go_values | go_skip | go_guarded | go_step | go_upon | go_back | dsimp only))
                      go_roundw
                      case rel => exact ⟨kk + 1, by go_num, by omega, by omega, H7.out⟩
                      case measure => simp [intOf] <;> omega
                    · obtain rfl : kk = k1 := by omega
                      by_cases hkh : kk < hi
                      · obtain ⟨y, a, hy, hyd, hab⟩ := HG.out.other kk (Nat.le_refl _) hkh
                        have hne1 : ¬ a = b := hab
                        have hne2 : (a == b) = false := beq_eq_false_iff_ne.2 hab
                        have hne3 : ¬ (a.toNat : Int) = (b.toNat : Int) := fun e => hab (UInt8.toNat_inj.1 (by omega))
                        have hne4 : ((a.toNat : Int) == (b.toNat : Int)) = false := beq_eq_false_iff_ne.2 hne3
                        obtain ⟨yb, rfl⟩ := as_bytes y
                        obtain ⟨hys, hyv⟩ := byte_at hyd
                        obtain ⟨g2, off2, cp2, hsl2, hcy⟩ := (RdRow.below HL.out h7.below).strb hy
                        cases hsl2
                        have hkI : (kk : Int) < (hi : Int) := by omega
                        have hkL : (kk : Int) < (L.length : Int) := by omega
                        have hyI : (d : Int) < (yb.size : Int) := by omega
                        clear h7 hy hyd
                        (repeat' (first | (go_big_may; fail) | go_values | go_skip | go_guarded | go_step | go_upon | go_back | dsimp only))
                        (refine region_still_tail 23 (by kernel_rfl) (by kernel_rfl) ?_; simp only [List.take_succ_cons, List.take_zero, List.drop_succ_cons, List.drop_zero]; (iterate 23 (first | ((with_reducible refine still_plain ?_ rfl ?_ ?_); rotate_left; (next => (go_simp; (try with_reducible rfl))); simp only [Act.put, List.setIfInBounds_toArray, List.set_cons_zero, List.set_cons_succ]) | ((with_reducible refine still_skip ?_ ?_); (next => (go_simp; done)); simp only [Act.put, List.setIfInBounds_toArray, List.set_cons_zero, List.set_cons_succ]) | ((with_reducible refine still_val ?_ ?_ ?_ ?_); rotate_left; (next => (go_simp; done)); (next => (go_simp; (try with_reducible rfl))); simp only [Act.put, List.setIfInBounds_toArray, List.set_cons_zero, List.set_cons_succ]))); (with_reducible refine wpStill_nil ?_))
                        (repeat' (first | (go_big_may; fail) | go_values | go_skip | go_guarded | go_step | go_upon | go_back | dsimp only))
                        refine HK.out _ _ ?_
                        have hJ := HJ.out
                        go_meet
                        case rel => exact ⟨rfl, H7.out⟩
                      · have hkI : ¬ (kk : Int) < (hi : Int) := by omega
                        clear h7
                        (repeat' (first | (go_big_may; fail) | go_values | go_skip | go_guarded | go_step | go_upon | go_back | dsimp only))
                        (refine region_still_tail 23 (by kernel_rfl) (by kernel_rfl) ?_; simp only [List.take_succ_cons, List.take_zero, List.drop_succ_cons, List.drop_zero]; (iterate 23 (first | ((with_reducible refine still_plain ?_ rfl ?_ ?_); rotate_left; (next => (go_simp; (try with_reducible rfl))); simp only [Act.put, List.setIfInBounds_toArray, List.set_cons_zero, List.set_cons_succ]) | ((with_reducible refine still_skip ?_ ?_); (next => (go_simp; done)); simp only [Act.put, List.setIfInBounds_toArray, List.set_cons_zero, List.set_cons_succ]) | ((with_reducible refine still_val ?_ ?_ ?_ ?_); rotate_left; (next => (go_simp; done)); (next => (go_simp; (try with_reducible rfl))); simp only [Act.put, List.setIfInBounds_toArray, List.set_cons_zero, List.set_cons_succ]))); (with_reducible refine wpStill_nil ?_))
                        (repeat' (first | (go_big_may; fail) | go_values | go_skip | go_guarded | go_step | go_upon | go_back | dsimp only))
                        refine HK.out _ _ ?_
                        have hJ := HJ.out
                        go_meet
                        case rel => exact ⟨rfl, H7.out⟩
                case rest =>
                  obtain ⟨rfl, h7⟩ := hcut
                  have hcall := HIH.out _ h7
                  have HCALL := Lib.hid hcall
                  clear hcall x0 HIH h7
                  (repeat' (first | (go_big_may; fail) | go_values | go_skip | go_guarded | go_step | go_upon | go_back | dsimp only))
                  refine HCALL.out.mono ?_
                  rintro e7 w7 ⟨rv7, nv7, ov7, ks7, ns7, ys7, rfl, hys7, htb7, hT7, hTn7, h11⟩
                  have h12 : At W w7 (Both (RowG tRE 2 u14 es.length (es.flatMap edc)) (VisT bb (.slice la L.length lc) rv7 nv7 ov7 ks7 ns7 (X1 xs false ++ ys ++ ys7) R)) := h11.impl fun _ q => Both.out5 q
                  obtain ⟨y0, _, _⟩ := h12.drop.cellF (o := 0) (u := .slice la L.length lc) rfl
                  obtain ⟨g, off, cp, hsl, hcx⟩ := (RdRow.below HL.out h12.below).strb HX.out
                  cases hsl
                  have H12 := Lib.hid h12
                  have HYS7 := Lib.hid hys7
                  have HT7 := Lib.hid (And.intro htb7 (And.intro hT7 hTn7))
                  have hesb : es.length ≤ 2097152 := by omega
                  clear h11 h12 hys7 htb7 hT7 hTn7 HCALL
                  (repeat' (first | (go_big_may; ((at_builtin; go_must (refine wpList_append_to rfl _ _ 59 tRE rfl Try.underlying59 info_RE rfl (by decide) rfl (H12.out) ((VisT.stable HR.out)) rfl (by first | rfl | simp) rfl (two_one' _ _ rfl rfl) (by unfold maxLen; omega) (by omega) ?_); intro a7 c7 w8 h13 _); have H13 := Lib.hid h13; clear h13)) | go_values | go_skip | go_guarded | go_step | go_upon | go_back | dsimp only))
                  go_roundw
                  case rel =>
                    have hyl : ys7.length = (numS c T').2.1.length := by
                      have := congrArg List.length HYS7.out
                      simpa using this
                    have hnl := numS_len c T'
                    have hns := numS_sz c T'
                    refine ⟨k1, r, (b.toNat : Int), (numS c T').1, ys ++ ys7, es ++ [(b, ((numS c T').2.2 : Int))], rv7, nv7, ov7, ks7, ns7, rfl, HG.out.rest, HOK.out.2.2.2, by omega, by simp; omega, HT7.out.1, HT7.out.2.1, HT7.out.2.2, ?_, by omega, ?_, ?_⟩
                    · rw [hnl, HTL.out, List.length_append, hyl]; omega
                    · rw [HLAY.out, layE_edge, List.map_append, HYS7.out]; simp
                    · have e9 : (es ++ [(b, ((numS c T').2.2 : Int))]).flatMap edc = es.flatMap edc ++ [bv b, .int .i64 ((numS c T').2.2 : Nat)] := by simp
                      have e10 : (es ++ [(b, ((numS c T').2.2 : Int))]).length = es.length + 1 := by simp
                      rw [e9, e10, ← List.append_assoc]
                      exact H13.out
                  case measure => simp [intOf] <;> omega
            · obtain rfl : i1 = hi := by omega
              cases t' with
              | edge b c r =>
                obtain ⟨k1, hg⟩ := hsp'.edge hok
                have := hg.up
                have := hg.le
                exact absurd rfl (by omega : ¬ i1 = i1)
              | fin f =>
                simp only [layE, List.append_nil] at hlay
                obtain ⟨va, vc, hu9, _, _⟩ := own_shape h6.rowG
                have hll : (X1 xs false ++ ys).length = xs.length + 1 + ys.length := by simp; omega
                obtain ⟨go, oc', hoo, _, hoc1, hoc2⟩ := own_cut h6.drop.drop.drop.drop.rowG (by omega)
                subst hoo
                obtain ⟨x4, _, _⟩ := h6.drop.cellF (o := 3) (u := .slice (some ⟨go, 0, none⟩) (X1 xs false ++ ys).length oc') rfl
                have h4 := h6.pull5
                have hstr : Stable (Both (RowG tRE 2 u14 es.length (es.flatMap edc)) (Both (CellT bb #[.slice la L.length lc, rv', nv', .slice (some ⟨go, 0, none⟩) (X1 xs false ++ ys).length oc'] tBl) (Both (RowG tTx 1 rv' ks'.length (strs ks')) (Both (RowG tInt 1 nv' ns'.length (nats ns')) (Both (EdsG tRE (X1 xs false ++ ys)) R))))) :=
                  (RowG.stable _ _ _ _ _).both ((CellT.stable _ _ _).both ((RowG.stable _ _ _ _ _).both ((RowG.stable _ _ _ _ _).both ((AllRows.stable _ _ _ _ _ _).both HR.out))))
                have hgx := x1_get xs ys (⟨false, []⟩, .slice none 0 0)
                have hgd : (X1 xs false ++ ys).getD xs.length default = (⟨false, []⟩, .slice none 0 0) := by rw [List.getD_eq_getElem?_getD, hgx]; rfl
                have hget0 : ((X1 xs false ++ ys).flatMap stc)[xs.length * 2]? = some (.bool false) := by
                  have h9 := flatMap_get stc_len (X1 xs false ++ ys) (i := xs.length) (j := 0) (by omega) (by decide)
                  rw [hgd] at h9
                  exact h9
                have hget1 : ((X1 xs false ++ ys).flatMap stc)[xs.length * 2 + 1]? = some (.slice none 0 0) := by
                  have h9 := flatMap_get stc_len (X1 xs false ++ ys) (i := xs.length) (j := 1) (by omega) (by decide)
                  rw [hgd] at h9
                  exact h9
                obtain ⟨g1, g2, g3⟩ := h4.rowCell hget0
                obtain ⟨g4, g5, _⟩ := h4.rowCell hget1
                have h5 := (h4.storeG hstr (xs.length * 2) (.bool t.final)).storeG hstr (xs.length * 2 + 1) u14
                rw [stc_setB hgx t.final u14 es, x1_set] at h5
                have e7 : (xs ++ (((⟨t.final, es⟩, u14) : Sta × Value) :: ys)).length = (X1 xs false ++ ys).length := by simp
                have h6' : At W ((wr.setCell ⟨go, xs.length * 2, none⟩ (.bool t.final)).setCell ⟨go, xs.length * 2 + 1, none⟩ u14) (VisT bb (.slice la L.length lc) rv' nv' (.slice (some ⟨go, 0, none⟩) (X1 xs false ++ ys).length oc') ks' ns' (xs ++ (((⟨t.final, es⟩, u14) : Sta × Value) :: ys)) R) := by
                  unfold VisT TabT
                  rw [e7]
                  refine h5.impl fun _ q => ?_
                  have q1 := Both.mono (fun _ _ q2 => Both.mono (fun _ _ q => Both.mono (fun _ _ q => Both.mono (fun _ _ q4 => AllRows.setRow (val := fun x : Sta × Value => x.2) (cells := fun x => x.1.edges.flatMap edc) (n := fun x => x.1.edges.length) (y := (⟨t.final, es⟩, u14)) hgx rfl q4) (Both.assoc q)) (Both.assoc q)) (Both.assoc q2)) q
                  rw [x1_set] at q1
                  exact Both.mono (fun _ _ q => Both.mono (fun _ _ q => Both.assoc q) (Both.assoc q)) (Both.assoc q1)
                have H6 := Lib.hid h6'
                have HLAY := Lib.hid hlay
                have HTAB := Lib.hid (And.intro htb' (And.intro hT' hTn'))
                have hi0 : (0 : Int) ≤ (xs.length : Int) := by omega
                have hi1 : (xs.length : Int) < ((X1 xs false ++ ys).length : Int) := by omega
                have hjI : ¬ (i1 : Int) < (i1 : Int) := by omega
                generalize hlX : (X1 xs false ++ ys).length = LX at *
                clear h4 h5 h6 h6' hgx hget0 hget1 hgd hstr hlay e7 hll htb' hT' hTn' hTl' hht' hsp' hok
                subst hu9
                (repeat' (first | (go_big_may; fail) | go_values | go_skip | go_guarded | go_step | go_upon | go_back | dsimp only))
                go_ret
                refine ⟨rv', nv', .slice (some ⟨go, 0, none⟩) LX oc', ks', ns', (⟨t.final, es⟩, .slice va es.length vc) :: ys, ?_, ?_, ?_, ?_, ?_, ?_⟩
                · rw [← HXL.out]; rfl
                · rw [HLAY.out]; rfl
                · rw [HLAY.out]; exact HTAB.out.1
                · rw [HLAY.out]; exact HTAB.out.2.1
                · rw [HLAY.out]; exact HTAB.out.2.2
                · exact H6.out
end

section
open Go.RowKit

set_option maxRecDepth 100000 in
set_option maxHeartbeats 1600000 in
theorem RAut_calls {w : World} {L : List (List UInt8)} {v : Value} (hr : RisesL L) (h255 : ∀ r ∈ L, r.length ≤ 255) (hn : L.length ≤ 2097152) (hv : RdRow w v L.length 1 (strs L)) :
    Calls Try.prog 40 #[v] w fun e w' => ∃ vo, e = .returned vo ∧ At w w' (Both (AutG tRS tRE vo (minT (setT L))) Nought) := by
  obtain ⟨hw, hgd⟩ := setT_words hr
  have hfit : FitT (setT L) := ⟨hgd, fun r hm => h255 r (by rw [hw] at hm; exact hm)⟩
  have hsp : Spn L 0 L.length 0 (wT (setT L) []) := by rw [hw]; exact Spn.whole L
  have hsz : szT (setT L) ≤ 1073741824 := by
    have h1 := szT_setT L
    have h2 := sum_255B h255
    omega
  have h0 : At w (w.alloc (.cells #[v, .slice none 0 0, .slice none 0 0, .slice none 0 0] tBl)) (VisT w.heap.size v (.slice none 0 0) (.slice none 0 0) (.slice none 0 0) [] [] [] Nought) := by
    have q1 := (At.nought (Below.refl w.heap.size w)).newCell Stable.nought #[v, .slice none 0 0, .slice none 0 0, .slice none 0 0] tBl
    have q2 := q1.noAut ((CellT.stable _ _ _).both Stable.nought) tRS tRE
    have q3 := q2.noRowG ((RowG.stable _ _ _ _ _).both ((AllRows.stable _ _ _ _ _ _).both ((CellT.stable _ _ _).both Stable.nought))) tInt 1
    have q4 := q3.noRowG ((RowG.stable _ _ _ _ _).both ((RowG.stable _ _ _ _ _).both ((AllRows.stable _ _ _ _ _ _).both ((CellT.stable _ _ _).both Stable.nought)))) tTx 1
    exact q4.pull5
  have hvis := auVisit_at hv hn h255 w.heap.size (htT (setT L) + 1) _ (setT L) [] [] [] _ _ _ [] 0 L.length 0 Nought h0 Stable.nought TabOk.nil (fun s hs => by cases hs) List.nodup_nil hfit hsp (by omega) (by omega) rfl (by simpa using hsz)
  rw [numS_new (by simp)] at hvis
  have HV := Lib.hid hvis
  obtain ⟨a, c, rfl, _, hc⟩ := hv.shape
  clear hvis hv h0
  go_enter Try.func40, Try.ntmps40
  (repeat' (first | (go_big_may; fail) | go_values | go_skip | go_guarded | go_step | go_upon | go_back | dsimp only))
  refine HV.out.mono ?_
  rintro e1 w1 ⟨rv, nv, ov, ks, ns, ys, rfl, hys, _, _, _, h1⟩
  obtain ⟨c3, _, _⟩ := h1.cellF (o := 3) (u := ov) rfl
  have H1 := Lib.hid (And.intro hys h1)
  clear hys h1 HV
  (repeat' (first | (go_big_may; fail) | go_values | go_skip | go_guarded | go_step | go_upon | go_back | dsimp only))
  go_ret
  refine ⟨_, rfl, ?_⟩
  have h12 := At.autG H1.out.2.drop.drop.drop
  rw [List.nil_append, H1.out.1] at h12
  exact h12
theorem minus_take {la lb : List (List UInt8)} {i : Nat} {x : List UInt8} (hx : la[i]? = some x) : minusL (la.take (i + 1)) lb = minusL (la.take i) lb ++ if x ∈ lb then [] else [x] := by
  unfold minusL
  rw [List.take_add_one, hx, List.filter_append]
  by_cases h : x ∈ lb <;> simp [h]
set_option maxRecDepth 100000 in
set_option maxHeartbeats 1600000 in
theorem RMinus_calls {w : World} {la lb : List (List UInt8)} {va vb : Value} (ha : RdRow w va la.length 1 (strs la)) (hb : RdRow w vb lb.length 1 (strs lb)) (hr : RisesL lb) (hn : la.length ≤ 1099511627776) (hnb : lb.length ≤ 1099511627776) :
    Calls Try.prog 39 #[va, vb] w fun e w' => ∃ vo, e = .returned vo ∧ At w w' (Both (RowG tSt 1 vo (minusL la lb).length (strs (minusL la lb))) Nought) := by
  have HH := Lib.hid (fun (w1 : World) (h : Below w.heap.size w w1) (z : List UInt8) => RHas_calls hr (hb.below h) hnb z)
  obtain ⟨aa, ac, rfl, _, hac⟩ := ha.shape
  obtain ⟨ba, bc, rfl, _, _⟩ := hb.shape
  unfold maxLen at hac
  have HA := Lib.hid ha
  clear ha hb hr
  go_enter Try.func39, Try.ntmps39
  (repeat' (first | (go_big_may; fail) | go_values | go_skip | go_guarded | go_step | go_upon | go_back | dsimp only))
  go_loopw [5, 6] (fun vo vi wr => ∃ i : Nat, vi = .int .i64 i ∧ i ≤ la.length ∧ At w wr (Both (RowG tSt 1 vo (minusL (la.take i) lb).length (strs (minusL (la.take i) lb))) Nought)) (fun _ vi _ => la.length - (intOf vi).toNat)
  case atStart => exact ⟨0, rfl, Nat.zero_le _, (At.nought (Below.refl _ _)).noRowG Stable.nought tSt 1⟩
  case round =>
    obtain ⟨i, rfl, hi, h⟩ := hrel
    by_cases hlt : i < la.length
    · obtain ⟨x, hx⟩ : ∃ x : ByteArray, la[i]? = some x.data.toList := ⟨⟨la[i].toArray⟩, List.getElem?_eq_getElem hlt⟩
      obtain ⟨g, off, cp, hsl, hcx⟩ := (HA.out.below h.below).strb hx
      cases hsl
      have hmt := minus_take (lb := lb) hx
      have hhas := HH.out wr h.below x.data.toList
      have hln : (minusL (la.take i) lb).length ≤ 1099511627776 := by
        have h1 : (minusL (la.take i) lb).length ≤ (la.take i).length := List.length_filter_le _ _
        simp at h1; omega
      have hiI : (i : Int) < (la.length : Int) := by omega
      obtain ⟨U, hU⟩ : ∃ U, minusL (la.take i) lb = U := ⟨_, rfl⟩
      rw [hU] at h hmt hln
      by_cases hm : x.data.toList ∈ lb
      · rw [decide_eq_true hm] at hhas
        rw [if_pos hm, List.append_nil] at hmt
        have HHAS := Lib.hid hhas
        have HMT := Lib.hid hmt
        have H := Lib.hid h
        clear h hx hhas hmt hU hm
        (repeat' (first | (go_big_may; fail) | go_values | go_skip | go_guarded | go_step | go_upon | go_back | dsimp only))
        refine HHAS.out.mono ?_
        rintro e1 w1 ⟨rfl, rfl⟩
        (repeat' (first | (go_big_may; fail) | go_values | go_skip | go_guarded | go_step | go_upon | go_back | dsimp only))
        go_roundw
        case rel => exact ⟨i + 1, by go_num, by omega, by rw [HMT.out]; exact H.out⟩
        case measure => simp [intOf] <;> omega
      · rw [decide_eq_false hm] at hhas
        rw [if_neg hm] at hmt
        have HHAS := Lib.hid hhas
        have HMT := Lib.hid hmt
        have H := Lib.hid h
        clear h hx hhas hmt hU hm
        (repeat' (first | (go_big_may; fail) | go_values | go_skip | go_guarded | go_step | go_upon | go_back | dsimp only))
        refine HHAS.out.mono ?_
        rintro e1 w1 ⟨rfl, rfl⟩
        (repeat' (first | (go_big_may; ((at_builtin; go_must (refine wpList_append_to rfl _ _ 66 tSt rfl Try.underlying66 info_St8 rfl (by decide) rfl (H.out) (Stable.nought) rfl (by first | rfl | simp) rfl (one_str _) (by unfold maxLen; omega) (by omega) ?_); intro a5 c5 w5 h5 _); have H5 := Lib.hid h5; clear h5)) | go_values | go_skip | go_guarded | go_step | go_upon | go_back | dsimp only))
        go_roundw
        case rel => exact ⟨i + 1, by go_num, by omega, by rw [HMT.out]; exact strs_more2 H5.out⟩
        case measure => simp [intOf] <;> omega
    · obtain rfl : i = la.length := by omega
      have hiI : ¬ (la.length : Int) < (la.length : Int) := by omega
      rw [List.take_length] at h
      have H := Lib.hid h
      clear h
      (repeat' (first | (go_big_may; fail) | go_values | go_skip | go_guarded | go_step | go_upon | go_back | dsimp only))
      go_ret
      exact ⟨_, rfl, H.out⟩
end
end Go.Proofs.Ytcbdncjknpdnbaa
