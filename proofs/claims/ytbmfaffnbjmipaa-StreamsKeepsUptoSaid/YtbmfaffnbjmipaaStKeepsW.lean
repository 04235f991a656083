/- StreamsKeeps walked. -/
import Derived.Test.YtbmfaffnbjmipaaStLaw
import Derived.Test.YtbmfaffnbjmipaaRef8b
import Derived.Test.YtbmfaffnbjmipaaOpen
import Derived.Deep.RegionHeld3
namespace Go.Proofs.Ytbmfaffnbjmipaa
open Go.RowKit

theorem At.join {W w w' : World} {Φ Ψ : Thing} (h : At W w Ψ) (hΨ : Stable Ψ) (h2 : At w w' Φ) : At W w' (Both Φ Ψ) := by
  obtain ⟨hb, fp, h3, h4⟩ := h2
  exact h.add hΨ hb h3 h4
theorem own_le {w : World} {B : Nat} {e : TypeId} {size : Nat} {ao : Option Addr} {n cap : Nat} {xs : List Value} (h : w.ownsRow B e size (.slice ao n cap) n xs) : n ≤ cap ∧ cap ≤ maxLen := by
  obtain ⟨_, _, he, h1, h2⟩ := own_shape h
  cases he
  exact ⟨h1, h2⟩
theorem own_head {w : World} {B : Nat} {e : TypeId} {size : Nat} {ao : Option Addr} {n cap : Nat} {xs : List Value} (h : w.ownsRow B e size (.slice ao n cap) n xs) (hn : 0 < n) : ∃ g, ao = some ⟨g, 0, none⟩ := by
  obtain ⟨g, _, he, _⟩ := own_cut h hn
  cases he
  exact ⟨g, rfl⟩
theorem strs_set (M : List (List UInt8)) (j : Nat) (x : List UInt8) : (strs M).set j (.string ⟨x.toArray⟩) = strs (M.set j x) := by simp [strs, List.map_set]
theorem two_str (a b : ByteArray) : ∀ u ∈ (#[Value.string a, Value.string b] : Array Value).toList, u.oneCell' = true := by
  intro u hu; simp at hu; rcases hu with rfl | rfl <;> rfl
set_option maxRecDepth 100000 in
set_option maxHeartbeats 4000000 in
theorem streamsKeeps_walk (W : World) (ss : List (List UInt8)) (v : Value) (rd : RdRow W v ss.length 1 (strs ss)) (hm : ss.length + sumLen ss ≤ 1048576) :
    Calls Try.prog 3 #[v] W fun e w' => e = .returned (.bool true) ∧ Below W.heap.size W w' := by
  obtain ⟨a, cap, rfl, hc1, hc2⟩ := rd.shape
  unfold maxLen at hc2
  have hWk := wakes8_calls W
  have RD := Lib.hid rd
  clear rd
  go_enter Try.func3, Try.ntmps3
  (repeat' (first | (go_big_may; fail) | go_values | go_skip | go_guarded | go_step | go_upon | go_back | dsimp only))
  refine hWk.mono ?_
  rintro e w1 ⟨rfl, hb1⟩
  have ht := twin8_calls ss _ w1 (RD.out.below hb1) (by omega)
  have h1 := At.nought hb1
  have HT := Lib.hid ht
  have H1 := Lib.hid h1
  clear ht h1 hb1 hWk
  (repeat' (first | (go_big_may; fail) | go_values | go_skip | go_guarded | go_step | go_upon | go_back | dsimp only))
  refine HT.out.mono ?_
  rintro e w2 ⟨v2, rfl, ho2, hb2⟩
  have H2 := Lib.hid (H1.out.newRowG Stable.nought hb2 ho2)
  clear ho2 hb2 HT H1
  (repeat' (first | (go_big_may; (at_builtin; go_must (refine wpList_append_to (m := 2) (c := 2) rfl _ _ 22 9 rfl Try.underlying22 info_Tx rfl (by decide) rfl (H2.out) Stable.nought rfl (by first | rfl | simp) rfl (two_str _ _) (by unfold maxLen; omega) (by omega) ?_); intro ao cp w3 h3 _; have hcp3 : (ss.length : Int) ≤ cp := (by (have h7 := own_le h3.rowG; omega)); have H3 := Lib.hid h3; clear h3)) | go_values | go_skip | go_guarded | go_step | go_upon | go_back | dsimp only))
  obtain ⟨g, hao⟩ : ∃ g, ao = some ⟨g, 0, none⟩ := by
    exact own_head H3.out.rowG (by omega)
  subst hao
  have h3 : At W w3 (Both (RowG tTx 1 (.slice (some ⟨g, 0, none⟩) (ss.length + 2) cp) (ss.length + 2) (strs (ss ++ [[122, 122], [122, 121]]))) Nought) := by
    have := H3.out
    simpa [strs] using this
  have hR0 := (RowG.stable tTx 1 (.slice (some ⟨g, 0, none⟩) (ss.length + 2) cp) (ss.length + 2) (strs (ss ++ [[122, 122], [122, 121]]))).both Stable.nought
  have hfr := RdRow.front (RdRow.of_own h3.rowG) (k := ss.length) (by omega)
  have hfr2 : RdRow w3 (.slice (some ⟨g, 0, none⟩) ss.length cp) ss.length 1 (strs ss) := by simpa [strs] using hfr
  have HO := Lib.hid (SOf_at h3 hR0 hfr2 (by omega))
  clear hfr hfr2 h3 H2 H3
  refine HO.out.mono ?_
  rintro e w4 ⟨Φ, u, hΦ, rfl, hs, h4⟩
  have hlen : (ofL ss).length ≤ ss.length := ofL_len ss
  obtain ⟨hst, h5⟩ := h4.keepStr hΦ hR0 hs.one
  have c5 := (h5.drop.cellF (o := 0) (u := u) rfl).1
  have h5r := h5.drop.drop
  have hfr := RdRow.front (RdRow.of_own h5r.rowG) (k := ss.length) (by omega)
  have hfr2 : RdRow (w4.alloc (.cells #[u] tStr)) (.slice (some ⟨g, 0, none⟩) ss.length cp) ss.length 1 (strs ss) := by simpa [strs] using hfr
  have hsm := same8_calls ss ss (.slice (some ⟨g, 0, none⟩) ss.length cp) (.slice a ss.length cap) _ hfr2 (RD.out.below h5.below)
  have HSm := Lib.hid hsm
  have HS := Lib.hid hs
  have H5 := Lib.hid h5
  clear h4 h5 h5r hfr hfr2 hsm hs HO
  (repeat' (first | (go_big_may; fail) | go_values | go_skip | go_guarded | go_step | go_upon | go_back | dsimp only))
  refine HSm.out.mono ?_
  rintro e w6 ⟨rfl, hb6⟩
  have hR1 := (CellT.stable w4.heap.size #[u] tStr).both hR0
  have h6 := H5.out.mono (hΦ.both hR1) hb6
  generalize w4.heap.size = ks at *
  have hds : decide (ss = ss) = true := by simp
  have h6r := h6.drop.drop
  have cz := (h6r.rowCell (j := ss.length) (u := .string ⟨#[122, 122]⟩) (by simp [strs])).1
  have cy := (h6r.rowCell (j := ss.length + 1) (u := .string ⟨#[122, 121]⟩) (by simp [strs])).1
  have hi1 : (ss.length : Int) < (ss.length + 2 : Nat) := by omega
  have hi2 : (ss.length : Int) < (ss.length : Int) + 2 := by omega
  have hi3 : ((ss.length : Int) + 1) < (ss.length : Int) + 2 := by omega
  have hwr : IntKind.i64.wrap ((ss.length : Int) + 1) = ((ss.length + 1 : Nat) : Int) := by rw [IntKind.wrap_i64]; omega
  have H6 := Lib.hid h6
  clear h6 h6r hst c5 HSm H5 hb6
  (repeat' (first | (go_big_may; fail) | go_values | go_skip | go_guarded | go_step | go_upon | go_back | dsimp only))
  go_loopw [48] (fun i wr => ∃ (k : Nat) (M : List (List UInt8)), i = .int .i64 k ∧ k ≤ ss.length + 2 ∧ M.length = ss.length + 2 ∧ At W wr (Both (RowG tTx 1 (.slice (some ⟨g, 0, none⟩) (ss.length + 2) cp) (ss.length + 2) (strs M)) (Both Φ (Both (CellT ks #[u] tStr) Nought)))) (fun i _ => ss.length + 2 - (intOf i).toNat)
  case atStart => exact ⟨0, _, rfl, Nat.zero_le _, by simp, H6.out.pull3⟩
  case round =>
    obtain ⟨k, M, rfl, hk, hM, h7⟩ := hrel
    by_cases hlt : k < ss.length + 2
    · obtain ⟨x, hx⟩ : ∃ x, M[k]? = some x := ⟨_, List.getElem?_eq_getElem (by omega)⟩
      have c7 := h7.rowCell (j := k) (u := .string ⟨x.toArray⟩) (by simp [strs, hx])
      have g7 := c7.1
      have f7 := c7.2.1
      have hj0 : (0 : Int) ≤ k := by omega
      have hj1 : (k : Int) < (ss.length + 2 : Nat) := by omega
      have hj2 : (k : Int) < (ss.length : Int) + 2 := by omega
      have h8 := h7.storeG (hΦ.both ((CellT.stable _ _ _).both Stable.nought)) k (.string ⟨[109, 97, 114, 107].toArray⟩)
      rw [strs_set] at h8
      have H8 := Lib.hid h8
      have HM := Lib.hid hM
      clear h7 h8 c7 hx hM
      (repeat' (first | (go_big_may; fail) | go_values | go_skip | go_guarded | go_step | go_upon | go_back | dsimp only))
      go_roundw
      case rel => exact ⟨k + 1, _, by go_num, by omega, by simp [HM.out], H8.out⟩
      case measure => simp [intOf] <;> omega
    · have hof := Of_at ss.length wr ss (.slice a ss.length cap) (Nat.le_refl _) (by omega) (RD.out.below h7.below)
      have H7 := Lib.hid h7
      have HOf := Lib.hid hof
      clear h7 hof hM
      (repeat' (first | (go_big_may; fail) | go_values | go_skip | go_guarded | go_step | go_upon | go_back | dsimp only))
      refine HOf.out.mono ?_
      rintro e w9 ⟨vo, rfl, h9⟩
      have hst7 := (RowG.stable tTx 1 (.slice (some ⟨g, 0, none⟩) (ss.length + 2) cp) (ss.length + 2) (strs M)).both (hΦ.both ((CellT.stable ks #[u] tStr).both Stable.nought))
      have h10 := H7.out.join hst7 h9.keep
      have hRa := (CellT.stable ks #[u] tStr).both Stable.nought
      have h11 : At W w9 (Both Φ (Both (CellT ks #[u] tStr) (Both (RowG tTx 1 vo (ofL ss).length (strs (ofL ss))) (Both (RowG tTx 1 (.slice (some ⟨g, 0, none⟩) (ss.length + 2) cp) (ss.length + 2) (strs M)) Nought)))) := h10.pull4.pull4
      have hR3 := (CellT.stable ks #[u] tStr).both ((RowG.stable tTx 1 vo (ofL ss).length (strs (ofL ss))).both ((RowG.stable tTx 1 (.slice (some ⟨g, 0, none⟩) (ss.length + 2) cp) (ss.length + 2) (strs M)).both Stable.nought))
      have hofl := ofL_len ss
      generalize ofL ss = L at *
      have h12 := h11.drew (hΦ.both hR3)
      have k12 := (h12.drop.cellF (o := 0) (u := u) rfl).1
      have k11 := (h11.drop.cellF (o := 0) (u := u) rfl).1
      have HLa := Lib.hid (List_all HS.out hΦ hR3 h12 (by omega) (m := 1099511627776) (by omega) (by omega))
      clear h9 h10 h11 h12 H7 HOf
      (repeat' (first | (go_big_may; fail) | go_values | go_skip | go_guarded | go_step | go_upon | go_back | dsimp only))
      refine wp_region_held_drew (S := fun wx => wx.cell? ⟨ks, 0, none⟩ = some u) (by kernel_rfl) k12 (fun hHeld => ?_)
      simp only [List.size_toArray, List.length_cons, List.length_nil, Nat.reduceAdd, Array.replicate_succ, Array.replicate_zero, List.push_toArray, List.nil_append, List.cons_append]
      (refine wpAnyH_take (i := 0) (v := ?_) rfl (by kernel_rfl) (by kernel_rfl) (by kernel_rfl) (fun _ _ _ h => h) (Or.inl ⟨by rfl, ?_⟩) (by assumption) ?_; rotate_left; (next => (intro w hSw; (try dsimp only at hSw); go_simp; (try with_reducible rfl))); (try simp only [List.getElem_toArray, List.getElem_cons_zero, List.getElem_cons_succ, Act.put, List.setIfInBounds_toArray, List.set_cons_zero, List.set_cons_succ]))
      (refine wpAnyH_take (i := 2) (v := ?_) rfl (by kernel_rfl) (by kernel_rfl) (by kernel_rfl) (fun _ _ _ h => h) (Or.inl ⟨by rfl, ?_⟩) (by assumption) ?_; rotate_left; (next => (intro w hSw; (try dsimp only at hSw); go_simp; (try with_reducible rfl))); (try simp only [List.getElem_toArray, List.getElem_cons_zero, List.getElem_cons_succ, Act.put, List.setIfInBounds_toArray, List.set_cons_zero, List.set_cons_succ]))
      (refine wpAnyH_ready (rs := [1]) (by kernel_rfl) (by simp) ?_; refine AllReadyH.cons rfl (fun K hK => ?_) AllReadyH.nil; go_simp; (refine HLa.out.mono ?_; rintro e w13 ⟨ua, rfl, h13⟩; have hk13 := (h13.drop.drop.cellF (o := 0) (u := u) rfl).1; have h13s := h13.swap; have HLb := Lib.hid (List_all HS.out hΦ ((RowG.stable tTx 1 ua L.length (strs L)).both hR3) h13s (by omega) (m := 1099511627776) (by omega) (by omega))); (try dsimp only); refine hK.out _ _ ?_ (fun hHeld => ?_); (next => ((try dsimp only); first | assumption | exact HK1.out _ (by assumption) | exact HK2.out _ (by assumption))); clear hK K; (try simp only [List.getElem_toArray, List.getElem_cons_zero, List.getElem_cons_succ, Act.put, List.setIfInBounds_toArray, List.set_cons_zero, List.set_cons_succ]))
      (refine wpAnyH_ready (rs := [3]) (by kernel_rfl) (by simp) ?_; refine AllReadyH.cons rfl (fun K hK => ?_) AllReadyH.nil; go_simp; (refine HLb.out.mono ?_; rintro e w14 ⟨ub, rfl, h14⟩; have hk14 := (h14.drop.drop.drop.cellF (o := 0) (u := u) rfl).1); (try dsimp only); refine hK.out _ _ ?_ (fun hHeld => ?_); (next => ((try dsimp only); first | assumption | exact HK1.out _ (by assumption) | exact HK2.out _ (by assumption))); clear hK K; (try simp only [List.getElem_toArray, List.getElem_cons_zero, List.getElem_cons_succ, Act.put, List.setIfInBounds_toArray, List.set_cons_zero, List.set_cons_succ]))
      (refine wpAnyH_ready (rs := [4]) (by kernel_rfl) (by simp) ?_; refine AllReadyH.cons rfl (fun K hK => ?_) AllReadyH.nil; go_simp; (try dsimp only); refine hK.out _ _ ?_ (fun hHeld => ?_); (next => ((try dsimp only); first | assumption | exact HK1.out _ (by assumption) | exact HK2.out _ (by assumption))); clear hK K; (try simp only [List.getElem_toArray, List.getElem_cons_zero, List.getElem_cons_succ, Act.put, List.setIfInBounds_toArray, List.set_cons_zero, List.set_cons_succ]))
      (refine wpAnyH_ready (rs := [5]) (by kernel_rfl) (by simp) ?_; refine AllReadyH.cons rfl (fun K hK => ?_) AllReadyH.nil; go_simp; (try dsimp only); refine hK.out _ _ ?_ (fun hHeld => ?_); (next => ((try dsimp only); first | assumption | exact HK1.out _ (by assumption) | exact HK2.out _ (by assumption))); clear hK K; (try simp only [List.getElem_toArray, List.getElem_cons_zero, List.getElem_cons_succ, Act.put, List.setIfInBounds_toArray, List.set_cons_zero, List.set_cons_succ]))
      refine wpAnyH_done (by kernel_rfl) ?_ _
      clear HLa HLb h13 h13s k12 hk13 hHeld
      obtain ⟨ao2, cpa, hua, hla1, hla2⟩ := own_shape h14.pull3.rowG
      subst hua
      unfold maxLen at hla2
      obtain ⟨bo2, cpb, hub, hlb1, hlb2⟩ := own_shape h14.rowG
      subst hub
      unfold maxLen at hlb2
      obtain ⟨wo2, cpw, hwo, hlw1, hlw2⟩ := own_shape h14.drop.drop.drop.drop.rowG
      subst hwo
      unfold maxLen at hlw2
      have hs1 := same8_calls L L (.slice ao2 L.length cpa) (.slice wo2 L.length cpw) w14 (RdRow.of_own h14.pull3.rowG) (RdRow.of_own h14.drop.drop.drop.drop.rowG)
      have HS1 := Lib.hid hs1
      have H14 := Lib.hid h14
      have hst14 := (RowG.stable tTx 1 (.slice bo2 L.length cpb) L.length (strs L)).both (hΦ.both ((RowG.stable tTx 1 (.slice ao2 L.length cpa) L.length (strs L)).both hR3))
      clear hs1 h14
      (repeat' (first | (go_big_may; fail) | go_values | go_skip | go_guarded | go_step | go_upon | go_back | dsimp only))
      refine HS1.out.mono ?_
      rintro e w15 ⟨rfl, hb15⟩
      have h15 := H14.out.mono hst14 hb15
      have hs2 := same8_calls L L (.slice bo2 L.length cpb) (.slice wo2 L.length cpw) w15 (RdRow.of_own h15.rowG) (RdRow.of_own h15.drop.drop.drop.drop.rowG)
      have HS2 := Lib.hid hs2
      have H15 := Lib.hid h15
      have hdl : decide (L = L) = true := by simp
      clear hs2 h15 hb15 H14 HS1
      (repeat' (first | (go_big_may; fail) | go_values | go_skip | go_guarded | go_step | go_upon | go_back | dsimp only))
      refine HS2.out.mono ?_
      rintro e w16 ⟨rfl, hb16⟩
      have H16 := Lib.hid (H15.out.mono hst14 hb16).pull3
      clear hb16 H15 HS2
      have hX0 : Stable (Both (RowG tTx 1 (.slice bo2 L.length cpb) L.length (strs L)) (Both Φ (Both (CellT ks #[u] tStr) (Both (RowG tTx 1 (.slice wo2 L.length cpw) L.length (strs L)) (Both (RowG tTx 1 (.slice (some ⟨g, 0, none⟩) (ss.length + 2) cp) (ss.length + 2) (strs M)) Nought))))) := (RowG.stable _ _ _ _ _).both (hΦ.both ((CellT.stable _ _ _).both ((RowG.stable _ _ _ _ _).both ((RowG.stable _ _ _ _ _).both Stable.nought))))
      (repeat' (first | (go_big_may; fail) | go_values | go_skip | go_guarded | go_step | go_upon | go_back | dsimp only))
      go_loopw [73] (fun i wr => ∃ (k : Nat) (N : List (List UInt8)), i = .int .i64 k ∧ k ≤ L.length ∧ N.length = L.length ∧ At W wr (Both (RowG tTx 1 (.slice ao2 L.length cpa) L.length (strs N)) (Both (RowG tTx 1 (.slice bo2 L.length cpb) L.length (strs L)) (Both Φ (Both (CellT ks #[u] tStr) (Both (RowG tTx 1 (.slice wo2 L.length cpw) L.length (strs L)) (Both (RowG tTx 1 (.slice (some ⟨g, 0, none⟩) (ss.length + 2) cp) (ss.length + 2) (strs M)) Nought))))))) (fun i _ => L.length - (intOf i).toNat)
      case atStart => exact ⟨0, _, rfl, Nat.zero_le _, rfl, H16.out⟩
      case round =>
        obtain ⟨k2, N, rfl, hk2, hN, h17⟩ := hrel
        by_cases hlt2 : k2 < L.length
        · obtain ⟨g2, hg2⟩ := own_head h17.rowG (by omega)
          subst hg2
          obtain ⟨x, hx⟩ : ∃ x, N[k2]? = some x := ⟨_, List.getElem?_eq_getElem (by omega)⟩
          have c7 := h17.rowCell (j := k2) (u := .string ⟨x.toArray⟩) (by simp [strs, hx])
          have g7 := c7.1
          have f7 := c7.2.1
          have hj0 : (0 : Int) ≤ k2 := by omega
          have hj1 : (k2 : Int) < L.length := by omega
          have h18 := h17.storeG hX0 k2 (.string ⟨[111, 116, 104, 101, 114, 32, 109, 97, 114, 107].toArray⟩)
          rw [strs_set] at h18
          have H18 := Lib.hid h18
          have HN := Lib.hid hN
          clear h17 h18 c7 hx hN
          (repeat' (first | (go_big_may; fail) | go_values | go_skip | go_guarded | go_step | go_upon | go_back | dsimp only))
          go_roundw
          case rel => exact ⟨k2 + 1, _, by go_num, by omega, by simp [HN.out], H18.out⟩
          case measure => simp [intOf] <;> omega
        · have H17 := Lib.hid h17
          have HN := Lib.hid hN
          clear h17 hN
          (repeat' (first | (go_big_may; fail) | go_values | go_skip | go_guarded | go_step | go_upon | go_back | dsimp only))
          go_loopw [81, 10] (fun i gv wr => ∃ (k : Nat) (go : Option Addr) (gc : Nat) (N : List (List UInt8)), i = .int .i64 k ∧ k ≤ 20 ∧ gv = .slice go (L.length + k) gc ∧ At W wr (Both (RowG tTx 1 (.slice go (L.length + k) gc) (L.length + k) (strs N)) (Both (RowG tTx 1 (.slice bo2 L.length cpb) L.length (strs L)) (Both Φ (Both (CellT ks #[u] tStr) (Both (RowG tTx 1 (.slice wo2 L.length cpw) L.length (strs L)) (Both (RowG tTx 1 (.slice (some ⟨g, 0, none⟩) (ss.length + 2) cp) (ss.length + 2) (strs M)) Nought))))))) (fun i _ _ => 20 - (intOf i).toNat)
          case atStart => exact ⟨0, ao2, cpa, N, rfl, by omega, rfl, H17.out⟩
          case round =>
            obtain ⟨k3, go, gc, N3, rfl, hk3, rfl, h19⟩ := hrel
            by_cases hlt3 : k3 < 20
            · have hj1 : (k3 : Int) < 20 := by omega
              have H19 := Lib.hid h19
              clear h19
              (repeat' (first | (go_big_may; ((at_builtin; go_must (refine wpList_append_to rfl _ _ 22 9 rfl Try.underlying22 info_Tx rfl (by decide) rfl (H19.out) (hX0) rfl (by first | rfl | simp) rfl (one_str _) (by unfold maxLen; omega) (by omega) ?_); intro a5 c5 w5 h5 _); have H5' := Lib.hid h5; clear h5)) | go_values | go_skip | go_guarded | go_step | go_upon | go_back | dsimp only))
              go_roundw
              case rel =>
                refine ⟨_, _, _, _, _, _, _, ⟨k3 + 1, a5, c5, N3 ++ [[103, 114, 111, 119, 110]], ?_, by omega, ?_, ?_⟩, rfl⟩
                · go_num
                · rfl
                · have := H5'.out
                  simpa [strs, Nat.add_assoc] using this
              case measure => simp [intOf] <;> omega
            · obtain rfl : k3 = 20 := by omega
              have hwr2 : IntKind.i64.wrap ((L.length : Int) + 20) = ((L.length + 20 : Nat) : Int) := by rw [IntKind.wrap_i64]; omega
              have hee : (((L.length + 20 : Nat) : Int) == ((L.length + 20 : Nat) : Int)) = true := by simp
              have hs3 := same8_calls L L (.slice bo2 L.length cpb) (.slice wo2 L.length cpw) wr (RdRow.of_own h19.drop.rowG) (RdRow.of_own h19.drop.drop.drop.drop.rowG)
              have HS3 := Lib.hid hs3
              have H19 := Lib.hid h19.drop
              clear h19 hs3
              (repeat' (first | (go_big_may; fail) | go_values | go_skip | go_guarded | go_step | go_upon | go_back | dsimp only))
              refine HS3.out.mono ?_
              rintro e w20 ⟨rfl, hb20⟩
              have h20 := H19.out.mono hX0 hb20
              have k20 := (h20.drop.drop.cellF (o := 0) (u := u) rfl).1
              have hR9 := (RowG.stable tTx 1 (.slice bo2 L.length cpb) L.length (strs L)).both ((CellT.stable ks #[u] tStr).both ((RowG.stable tTx 1 (.slice wo2 L.length cpw) L.length (strs L)).both ((RowG.stable tTx 1 (.slice (some ⟨g, 0, none⟩) (ss.length + 2) cp) (ss.length + 2) (strs M)).both Stable.nought)))
              have HIs := Lib.hid (is_at HS.out hΦ hR9 h20.swap (by omega) (vw := .slice wo2 L.length cpw) (fun w' h' => RdRow.of_own h'.drop.drop.drop.rowG))
              clear h20 hb20 HS3 H19
              (repeat' (first | (go_big_may; fail) | go_values | go_skip | go_guarded | go_step | go_upon | go_back | dsimp only))
              refine HIs.out.mono ?_
              rintro e w21 ⟨rfl, h21⟩
              have HB := Lib.hid h21.below
              clear h21 HIs
              (repeat' (first | (go_big_may; fail) | go_values | go_skip | go_guarded | go_step | go_upon | go_back | dsimp only))
              go_ret
              exact ⟨by simp, HB.out⟩
end Go.Proofs.Ytbmfaffnbjmipaa
