/- The document's heights walked. -/
import Derived.Test.YthjkfiniafblbaaWkNth
namespace Go.Proofs.Ythjkfiniafblbaa
open Go.RowKit

theorem UnfE.height {A : List Sta} {t : Trie} {f : Bool} {es : List Ed} (h : UnfE A t f es) (hn : es = []) : htT t = 0 := by
  subst hn
  rw [h.nil]
  rfl

set_option maxRecDepth 100000 in
set_option maxHeartbeats 1600000 in
theorem rheight_at {W : World} {A : List Sta} {va : Value} (hA : RdAut W va A) (hl : A.length + edgesN A ≤ 1048576) (g : Nat) (k : Nat) : ∀ (w : World) (cs : List Int) (n : Nat) (t : Trie) (R : Thing),
    At W w (Both (RowG tInt 1 (.slice (some ⟨g, 0, none⟩) A.length A.length) A.length (intsI cs)) R) → Stable R → CInv A htI (-1) cs → Unf A n t → htT t < k →
    Calls Try.prog 53 #[va, .slice (some ⟨g, 0, none⟩) A.length A.length, .int .i64 n] w fun e w' => e = .returned (.int .i64 (htT t : Nat)) ∧ ∃ cs', CInv A htI (-1) cs' ∧ (∀ j, GoodC A htI cs j → GoodC A htI cs' j) ∧ (∀ j, Gets A n j → GoodC A htI cs' j) ∧ At W w' (Both (RowG tInt 1 (.slice (some ⟨g, 0, none⟩) A.length A.length) A.length (intsI cs')) R) := by
  induction k with
  | zero => intro w cs n t R _ _ _ _ h; omega
  | succ k ih =>
    intro w cs n t R h hR hi hu hk
    have hn := hu.lt
    have hht := htT_lt hu
    obtain ⟨v, hv⟩ : ∃ v, cs[n]? = some v := ⟨_, List.getElem?_eq_getElem (by rw [hi.len]; exact hn)⟩
    obtain ⟨c3, _, _⟩ := h.rowCell (intsI_get hv)
    have hnI : (n : Int) < (A.length : Int) := by omega
    have hn0 : (0 : Int) ≤ (n : Int) := by omega
    by_cases hv0 : v = -1
    · subst hv0
      obtain ⟨x, hx, hux⟩ := hu
      obtain ⟨b, off, cap, u, hsv, d0, d1, hue⟩ := hA.at hx
      obtain ⟨ua, uc, rfl, _, huc⟩ := hue.shape
      unfold maxLen at huc
      subst hsv
      clear d0
      have D1 := Lib.hid d1
      replace d1 := (h.below.cell (World.block_lt_of_cell? _ _ d1)).trans d1
      have hel := edgesN_le hx
      have H := Lib.hid h
      have HR := Lib.hid hR
      have HI := Lib.hid hi
      have HU := Lib.hid hux
      have HX := Lib.hid hx
      have IH := Lib.hid ih
      have HE := Lib.hid (show RdEds W (.slice ua x.edges.length uc) x.edges from hue)
      clear h hR hi hux hx ih hue hv
      go_enter Try.func53, Try.ntmps53
      (repeat' (first | (go_big_may; fail) | go_values | go_skip | go_guarded | go_step | go_upon | go_back | dsimp only))
      go_loopw [7, 8] (fun vc vj wr => ∃ (j c : Nat) (tj : Trie) (cs' : List Int), vj = .int .i64 j ∧ vc = .int .i64 c ∧ j ≤ x.edges.length ∧ UnfE A tj x.final (x.edges.drop j) ∧ max c (htT tj) = htT t ∧ CInv A htI (-1) cs' ∧ (∀ i, GoodC A htI cs i → GoodC A htI cs' i) ∧
          (∀ q e, q < j → x.edges[q]? = some e → ∀ i, Gets A e.2.toNat i → GoodC A htI cs' i) ∧ At W wr (Both (RowG tInt 1 (.slice (some ⟨g, 0, none⟩) A.length A.length) A.length (intsI cs')) R)) (fun _ vj _ => x.edges.length - (intOf vj).toNat)
      case atStart => exact ⟨0, 0, t, cs, rfl, rfl, Nat.zero_le _, HU.out, Nat.max_eq_right (Nat.zero_le _), HI.out, fun _ h => h, fun q e h => absurd h (Nat.not_lt_zero _), H.out⟩
      case round =>
        obtain ⟨j, c, tj, cs', rfl, rfl, hj, hutj, hsum, hi', hmono, hdone, h3⟩ := hrel
        clear c3 d1
        have d1 := (h3.below.cell (World.block_lt_of_cell? _ _ D1.out)).trans D1.out
        by_cases hlj : j < x.edges.length
        · obtain ⟨e, he⟩ : ∃ e, x.edges[j]? = some e := ⟨_, List.getElem?_eq_getElem hlj⟩
          rw [drop_at he] at hutj
          obtain ⟨ct, r, rfl, he0, hct, hr⟩ := hutj.cons
          obtain ⟨ct', _, hct', hht'⟩ := HU.out.mem e (List.mem_of_getElem? he)
          obtain rfl := hct.uniq hct'
          obtain ⟨m, hm⟩ := Int.eq_ofNat_of_zero_le he0
          rw [hm, Int.toNat_natCast] at hct
          have hcall := IH.out wr cs' m ct R h3 HR.out hi' hct (by omega)
          obtain ⟨be, oe, ce, hse, e0, e1⟩ := RdEds.at (HE.out.below h3.below) he
          cases hse
          rw [hm] at e1
          simp only [htT] at hsum
          have hctl := htT_lt hct
          have hwr : IntKind.i64.wrap ((htT ct : Int) + 1) = ((htT ct + 1 : Nat) : Int) := by rw [IntKind.wrap_i64] <;> omega
          have HC := Lib.hid hcall
          have HS := Lib.hid (And.intro hr (And.intro hmono hdone))
          have HED := Lib.hid (And.intro he hm)
          have hjI : (j : Int) < (x.edges.length : Int) := by omega
          clear h3 hcall hr hmono hdone hutj hct hct' hht' hm he hi' he0 e0
          (repeat' (first | (go_big_may; fail) | go_values | go_skip | go_guarded | go_step | go_upon | go_back | dsimp only))
          refine HC.out.mono ?_
          rintro e5 w5 ⟨rfl, cs5, hi5, hm5, hg5, h6⟩
          have H6 := Lib.hid h6
          have HI5 := Lib.hid (And.intro hi5 (And.intro hm5 hg5))
          clear h6 hi5 hm5 hg5 d1 e1
          by_cases hmore : c < htT ct + 1
          · have hmI : (c : Int) < ((htT ct + 1 : Nat) : Int) := by omega
            (repeat' (first | (go_big_may; fail) | go_values | go_skip | go_guarded | go_step | go_upon | go_back | dsimp only))
            go_roundw
            case rel =>
              refine ⟨j + 1, htT ct + 1, r, cs5, by simp, by simp, by omega, HS.out.1, by omega, HI5.out.1, fun i hi => HI5.out.2.1 i (HS.out.2.1 i hi), fun q e' hq he' i hgi => ?_, H6.out⟩
              by_cases hqj : q = j
              · subst hqj
                rw [HED.out.1] at he'
                cases he'
                rw [HED.out.2, Int.toNat_natCast] at hgi
                exact HI5.out.2.2 i hgi
              · exact HI5.out.2.1 i (HS.out.2.2 q e' (by omega) he' i hgi)
            case measure => simp [intOf] <;> omega
          · have hmI : ¬ (c : Int) < ((htT ct + 1 : Nat) : Int) := by omega
            (repeat' (first | (go_big_may; fail) | go_values | go_skip | go_guarded | go_step | go_upon | go_back | dsimp only))
            go_roundw
            case rel =>
              refine ⟨j + 1, c, r, cs5, by simp, by simp, by omega, HS.out.1, by omega, HI5.out.1, fun i hi => HI5.out.2.1 i (HS.out.2.1 i hi), fun q e' hq he' i hgi => ?_, H6.out⟩
              by_cases hqj : q = j
              · subst hqj
                rw [HED.out.1] at he'
                cases he'
                rw [HED.out.2, Int.toNat_natCast] at hgi
                exact HI5.out.2.2 i hgi
              · exact HI5.out.2.1 i (HS.out.2.2 q e' (by omega) he' i hgi)
            case measure => simp [intOf] <;> omega
        · obtain rfl : j = x.edges.length := by omega
          rw [List.drop_eq_nil_of_le (Nat.le_refl _)] at hutj
          have h0 := hutj.height rfl
          have hce : c = htT t := by omega
          subst hce
          have hci : htI t = ((htT t : Nat) : Int) := rfl
          obtain ⟨s1, s2, s3⟩ := hi'.set ⟨x, HX.out, HU.out⟩ HX.out (fun e he i hgi => by
            obtain ⟨q, hq, rfl⟩ := List.getElem_of_mem he
            exact hdone q _ hq (List.getElem?_eq_getElem hq) i hgi)
          obtain ⟨v', hv'⟩ : ∃ v', cs'[n]? = some v' := ⟨_, List.getElem?_eq_getElem (by rw [hi'.len]; exact hn)⟩
          obtain ⟨g1, g2, g3⟩ := h3.rowCell (intsI_get hv')
          have h4 := h3.storeG HR.out n (.int .i64 (htI t))
          rw [intsI_set] at h4
          have HSS := Lib.hid (And.intro s1 (And.intro (fun j hj => s2 j (hmono j hj)) s3))
          rw [hci] at h4
          have H4 := Lib.hid h4
          clear s1 s2 s3 hsum hmono hdone hutj hi' hv' h3 h4 h0
          (repeat' (first | (go_big_may; fail) | go_values | go_skip | go_guarded | go_step | go_upon | go_back | dsimp only))
          go_ret
          exact ⟨rfl, _, HSS.out.1, HSS.out.2.1, HSS.out.2.2, H4.out⟩
    · have hgood := hi.ok n v hv hv0
      have hvv := (hgood n (.refl n)).val hu
      rw [hv] at hvv
      have hve : v = ((htT t : Nat) : Int) := by simpa [htI] using hvv
      subst hve
      have hpos : (0 : Int) ≤ ((htT t : Nat) : Int) := by omega
      have H := Lib.hid h
      have HI := Lib.hid (And.intro hi hgood)
      clear h hi hgood hvv hu ih hv hA hv0
      go_enter Try.func53, Try.ntmps53
      (repeat' (first | (go_big_may; fail) | go_values | go_skip | go_guarded | go_step | go_upon | go_back | dsimp only))
      go_ret
      exact ⟨rfl, cs, HI.out.1, fun _ h => h, HI.out.2, H.out⟩
end Go.Proofs.Ythjkfiniafblbaa
