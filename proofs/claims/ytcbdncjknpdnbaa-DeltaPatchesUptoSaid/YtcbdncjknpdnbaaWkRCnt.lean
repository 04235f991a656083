/- The document's heights walked. · The document's heights and Counts walked. · The document's Counts walked. -/
import Derived.Test.YtcbdncjknpdnbaaWkNth
import Derived.Deep.RegionLaw
import Derived.Test.YtcbdncjknpdnbaaCellT
import Derived.Test.YtcbdncjknpdnbaaStill
namespace Go.Proofs.Ytcbdncjknpdnbaa
section
open Go.RowKit

theorem UnfE.height {A : List Sta} {t : Trie} {f : Bool} {es : List Ed} (h : UnfE A t f es) (hn : es = []) : htT t = 0 := by
  subst hn
  rw [h.nil]
  rfl

set_option maxRecDepth 100000 in
set_option maxHeartbeats 1600000 in
theorem rheight_at {W : World} {A : List Sta} {va : Value} (hA : RdAut W va A) (hl : A.length ≤ 1048576 ∧ edgesN A ≤ 1048576) (g : Nat) (k : Nat) : ∀ (w : World) (cs : List Int) (n : Nat) (t : Trie) (R : Thing),
    At W w (Both (RowG tInt 1 (.slice (some ⟨g, 0, none⟩) A.length A.length) A.length (intsI cs)) R) → Stable R → CInv A htI (-1) cs → Unf A n t → htT t < k →
    Calls Try.prog 88 #[va, .slice (some ⟨g, 0, none⟩) A.length A.length, .int .i64 n] w fun e w' => e = .returned (.int .i64 (htT t : Nat)) ∧ ∃ cs', CInv A htI (-1) cs' ∧ (∀ j, GoodC A htI cs j → GoodC A htI cs' j) ∧ (∀ j, Gets A n j → GoodC A htI cs' j) ∧ At W w' (Both (RowG tInt 1 (.slice (some ⟨g, 0, none⟩) A.length A.length) A.length (intsI cs')) R) := by
  induction k with
  | zero => intro w cs n t R _ _ _ _ h; omega
  | succ k ih =>
    intro w cs n t R h hR hi hu hk
    have hn := hu.lt
    have hht := htT_lt hu
    obtain ⟨v, hv⟩ : ∃ v, cs[n]? = some v := ⟨_, List.getElem?_eq_getElem (by rw [hi.len]; exact hn)⟩
    obtain ⟨c3, _, _⟩ := h.rowCell (intsI_get hv)
    have hnI : (n : Int) < (A.length : Int) := by omega
    have hn0 : (0 : Int) ≤ (n : Int) := by omega
    by_cases hv0 : v = -1
    · subst hv0
      obtain ⟨x, hx, hux⟩ := hu
      obtain ⟨b, off, cap, u, hsv, d0, d1, hue⟩ := hA.at hx
      obtain ⟨ua, uc, rfl, _, huc⟩ := hue.shape
      unfold maxLen at huc
      subst hsv
      clear d0
      have D1 := Lib.hid d1
      replace d1 := (h.below.cell (World.block_lt_of_cell? _ _ d1)).trans d1
      have hel := edgesN_le hx
      have H := Lib.hid h
      have HR := Lib.hid hR
      have HI := Lib.hid hi
      have HU := Lib.hid hux
      have HX := Lib.hid hx
      have IH := Lib.hid ih
      have HE := Lib.hid (show RdEds W (.slice ua x.edges.length uc) x.edges from hue)
      clear h hR hi hux hx ih hue hv
      go_enter Try.func88, Try.ntmps88
      (repeat' (first | (go_big_may; fail) | go_values | go_skip | go_guarded | go_step | go_upon | go_back | dsimp only))
      go_loopw [7, 8] (fun vc vj wr => ∃ (j c : Nat) (tj : Trie) (cs' : List Int), vj = .int .i64 j ∧ vc = .int .i64 c ∧ j ≤ x.edges.length ∧ UnfE A tj x.final (x.edges.drop j) ∧ max c (htT tj) = htT t ∧ CInv A htI (-1) cs' ∧ (∀ i, GoodC A htI cs i → GoodC A htI cs' i) ∧
          (∀ q e, q < j → x.edges[q]? = some e → ∀ i, Gets A e.2.toNat i → GoodC A htI cs' i) ∧ At W wr (Both (RowG tInt 1 (.slice (some ⟨g, 0, none⟩) A.length A.length) A.length (intsI cs')) R)) (fun _ vj _ => x.edges.length - (intOf vj).toNat)
      case atStart => exact ⟨0, 0, t, cs, rfl, rfl, Nat.zero_le _, HU.out, Nat.max_eq_right (Nat.zero_le _), HI.out, fun _ h => h, fun q e h => absurd h (Nat.not_lt_zero _), H.out⟩
      case round =>
        obtain ⟨j, c, tj, cs', rfl, rfl, hj, hutj, hsum, hi', hmono, hdone, h3⟩ := hrel
        clear c3 d1
        have d1 := (h3.below.cell (World.block_lt_of_cell? _ _ D1.out)).trans D1.out
        by_cases hlj : j < x.edges.length
        · obtain ⟨e, he⟩ : ∃ e, x.edges[j]? = some e := ⟨_, List.getElem?_eq_getElem hlj⟩
          rw [drop_at he] at hutj
          obtain ⟨ct, r, rfl, he0, hct, hr⟩ := hutj.cons
          obtain ⟨ct', _, hct', hht'⟩ := HU.out.mem e (List.mem_of_getElem? he)
          obtain rfl := hct.uniq hct'
          obtain ⟨m, hm⟩ := Int.eq_ofNat_of_zero_le he0
          rw [hm, Int.toNat_natCast] at hct
          have hcall := IH.out wr cs' m ct R h3 HR.out hi' hct (by omega)
          obtain ⟨be, oe, ce, hse, e0, e1⟩ := RdEds.at (HE.out.below h3.below) he
          cases hse
          rw [hm] at e1
          simp only [htT] at hsum
          have hctl := htT_lt hct
          have hwr : IntKind.i64.wrap ((htT ct : Int) + 1) = ((htT ct + 1 : Nat) : Int) := by rw [IntKind.wrap_i64] <;> omega
          have HC := Lib.hid hcall
          have HS := Lib.hid (And.intro hr (And.intro hmono hdone))
          have HED := Lib.hid (And.intro he hm)
          have hjI : (j : Int) < (x.edges.length : Int) := by omega
          clear h3 hcall hr hmono hdone hutj hct hct' hht' hm he hi' he0 e0
          (repeat' (first | (go_big_may; fail) | go_values | go_skip | go_guarded | go_step | go_upon | go_back | dsimp only))
          refine HC.out.mono ?_
          rintro e5 w5 ⟨rfl, cs5, hi5, hm5, hg5, h6⟩
          have H6 := Lib.hid h6
          have HI5 := Lib.hid (And.intro hi5 (And.intro hm5 hg5))
          clear h6 hi5 hm5 hg5 d1 e1
          by_cases hmore : c < htT ct + 1
          · have hmI : (c : Int) < ((htT ct + 1 : Nat) : Int) := by omega
            (repeat' (first | (go_big_may; fail) | go_values | go_skip | go_guarded | go_step | go_upon | go_back | dsimp only))
            go_roundw
            case rel =>
              refine ⟨j + 1, htT ct + 1, r, cs5, by simp, by simp, by omega, HS.out.1, by omega, HI5.out.1, fun i hi => HI5.out.2.1 i (HS.out.2.1 i hi), fun q e' hq he' i hgi => ?_, H6.out⟩
              by_cases hqj : q = j
              · subst hqj
                rw [HED.out.1] at he'
                cases he'
                rw [HED.out.2, Int.toNat_natCast] at hgi
                exact HI5.out.2.2 i hgi
              · exact HI5.out.2.1 i (HS.out.2.2 q e' (by omega) he' i hgi)
            case measure => simp [intOf] <;> omega
          · have hmI : ¬ (c : Int) < ((htT ct + 1 : Nat) : Int) := by omega
            (repeat' (first | (go_big_may; fail) | go_values | go_skip | go_guarded | go_step | go_upon | go_back | dsimp only))
            go_roundw
            case rel =>
              refine ⟨j + 1, c, r, cs5, by simp, by simp, by omega, HS.out.1, by omega, HI5.out.1, fun i hi => HI5.out.2.1 i (HS.out.2.1 i hi), fun q e' hq he' i hgi => ?_, H6.out⟩
              by_cases hqj : q = j
              · subst hqj
                rw [HED.out.1] at he'
                cases he'
                rw [HED.out.2, Int.toNat_natCast] at hgi
                exact HI5.out.2.2 i hgi
              · exact HI5.out.2.1 i (HS.out.2.2 q e' (by omega) he' i hgi)
            case measure => simp [intOf] <;> omega
        · obtain rfl : j = x.edges.length := by omega
          rw [List.drop_eq_nil_of_le (Nat.le_refl _)] at hutj
          have h0 := hutj.height rfl
          have hce : c = htT t := by omega
          subst hce
          have hci : htI t = ((htT t : Nat) : Int) := rfl
          obtain ⟨s1, s2, s3⟩ := hi'.set ⟨x, HX.out, HU.out⟩ HX.out (fun e he i hgi => by
            obtain ⟨q, hq, rfl⟩ := List.getElem_of_mem he
            exact hdone q _ hq (List.getElem?_eq_getElem hq) i hgi)
          obtain ⟨v', hv'⟩ : ∃ v', cs'[n]? = some v' := ⟨_, List.getElem?_eq_getElem (by rw [hi'.len]; exact hn)⟩
          obtain ⟨g1, g2, g3⟩ := h3.rowCell (intsI_get hv')
          have h4 := h3.storeG HR.out n (.int .i64 (htI t))
          rw [intsI_set] at h4
          have HSS := Lib.hid (And.intro s1 (And.intro (fun j hj => s2 j (hmono j hj)) s3))
          rw [hci] at h4
          have H4 := Lib.hid h4
          clear s1 s2 s3 hsum hmono hdone hutj hi' hv' h3 h4 h0
          (repeat' (first | (go_big_may; fail) | go_values | go_skip | go_guarded | go_step | go_upon | go_back | dsimp only))
          go_ret
          exact ⟨rfl, _, HSS.out.1, HSS.out.2.1, HSS.out.2.2, H4.out⟩
    · have hgood := hi.ok n v hv hv0
      have hvv := (hgood n (.refl n)).val hu
      rw [hv] at hvv
      have hve : v = ((htT t : Nat) : Int) := by simpa [htI] using hvv
      subst hve
      have hpos : (0 : Int) ≤ ((htT t : Nat) : Int) := by omega
      have H := Lib.hid h
      have HI := Lib.hid (And.intro hi hgood)
      clear h hi hgood hvv hu ih hv hA hv0
      go_enter Try.func88, Try.ntmps88
      (repeat' (first | (go_big_may; fail) | go_values | go_skip | go_guarded | go_step | go_upon | go_back | dsimp only))
      go_ret
      exact ⟨rfl, cs, HI.out.1, fun _ h => h, HI.out.2, H.out⟩
end

section
open Go.RowKit

/-- A table of all the heights. -/
def HtL (A : List Sta) (hs : List Int) : Prop := hs.length = A.length ∧ ∀ i t, Unf A i t → hs[i]? = some (htI t)
theorem htL_of {A : List Sta} (hs : Shaped A) {cs : List Int} (h : CInv A htI (-1) cs) (hg : ∀ j, Gets A 0 j → GoodC A htI cs j) : HtL A cs :=
  ⟨h.len, fun _ _ hu => (hg _ (hs.reach _ hu.lt)).val hu⟩

set_option maxRecDepth 100000 in
set_option maxHeartbeats 1600000 in
theorem heights_calls {w : World} {A : List Sta} {va : Value} (hA : RdAut w va A) (hl : A.length ≤ 1048576 ∧ edgesN A ≤ 1048576) (hs : Shaped A) :
    Calls Try.prog 66 #[va] w fun e w' => ∃ cs g, e = .returned (.slice (some ⟨g, 0, none⟩) A.length A.length) ∧ HtL A cs ∧ At w w' (Both (RowG tInt 1 (.slice (some ⟨g, 0, none⟩) A.length A.length) A.length (intsI cs)) Nought) := by
  obtain ⟨a0, c0, hv, _, hc0⟩ := hA.shape
  unfold maxLen at hc0
  obtain ⟨t, ht, _, _⟩ := hs.tr 0 hs.pos
  have hn : A.length ≤ 1048576 := by omega
  have HVIS := Lib.hid (fun g w2 (h2 : At w w2 (Both (RowG tInt 1 (.slice (some ⟨g, 0, none⟩) A.length A.length) A.length (intsI (List.replicate A.length (-1)))) Nought)) => rheight_at hA hl g (htT t + 1) w2 (List.replicate A.length (-1)) 0 t Nought h2 Stable.nought (cinv_start A htI (-1)) ht (by omega))
  have HSH := Lib.hid hs
  have HNW := Lib.hid (At.nought (Below.refl w.heap.size w))
  clear hs ht hA
  subst hv
  go_enter Try.func66, Try.ntmps66
  (repeat' (first | (go_big_may; ((at_make; go_must (refine wpList_make_at rfl _ _ 85 rfl tInt Try.underlying85 info_Int rfl rfl rfl rfl rfl (by omega) (by unfold maxLen; omega) HNW.out Stable.nought ?_)); intro w2 h2 _; have H2 := Lib.hid h2; clear h2)) | go_values | go_skip | go_guarded | go_step | go_upon | go_back | dsimp only))
  go_loopw [4] (fun vi wr => ∃ (i : Nat) (cs : List Int), vi = .int .i64 i ∧ i ≤ A.length ∧ cs.length = A.length ∧ (∀ q, q < i → cs[q]? = some (-1)) ∧ At w wr (Both (RowG tInt 1 (.slice (some ⟨w.heap.size, 0, none⟩) A.length A.length) A.length (intsI cs)) Nought)) (fun vi _ => A.length - (intOf vi).toNat)
  case atStart => exact ⟨0, List.replicate A.length 0, rfl, Nat.zero_le _, by simp, fun q hq => absurd hq (Nat.not_lt_zero _), by have := H2.out; rw [show List.replicate A.length (Value.int .i64 0) = intsI (List.replicate A.length 0) from by simp [intsI]] at this; exact this⟩
  case round =>
    obtain ⟨i, cs, rfl, hi, hcl, hq, h3⟩ := hrel
    by_cases hlt : i < A.length
    · have hiI : (i : Int) < (A.length : Int) := by omega
      obtain ⟨v', hv'⟩ : ∃ v', cs[i]? = some v' := ⟨_, List.getElem?_eq_getElem (by omega)⟩
      obtain ⟨g1, g2, g3⟩ := h3.rowCell (intsI_get hv')
      have h4 := h3.storeG Stable.nought i (.int .i64 (-1))
      rw [intsI_set] at h4
      have H4 := Lib.hid h4
      have HQ := Lib.hid hq
      clear h3 h4 hq hv'
      (repeat' (first | (go_big_may; fail) | go_values | go_skip | go_guarded | go_step | go_upon | go_back | dsimp only))
      go_roundw
      case rel =>
        refine ⟨i + 1, cs.set i (-1), by simp, by omega, by simpa using hcl, fun q hq => ?_, H4.out⟩
        by_cases he : i = q
        · subst he; rw [List.getElem?_set_self (by omega)]
        · rw [List.getElem?_set_ne he]; exact HQ.out q (by omega)
      case measure => simp [intOf] <;> omega
    · obtain rfl : i = A.length := by omega
      have hce : cs = List.replicate A.length (-1) := by
        refine List.ext_getElem? fun q => ?_
        by_cases h : q < A.length
        · rw [hq q h, List.getElem?_replicate, if_pos h]
        · rw [List.getElem?_eq_none (by omega), List.getElem?_eq_none (by simp; omega)]
      subst hce
      have HC := Lib.hid (HVIS.out _ _ h3)
      clear h3 hq
      (repeat' (first | (go_big_may; fail) | go_values | go_skip | go_guarded | go_step | go_upon | go_back | dsimp only))
      refine HC.out.mono ?_
      rintro e5 w5 ⟨rfl, cs5, hi5, _, hg5, h7⟩
      have HCL := Lib.hid (htL_of HSH.out hi5 hg5)
      have H7 := Lib.hid h7
      clear h7 hi5 hg5
      (repeat' (first | (go_big_may; fail) | go_values | go_skip | go_guarded | go_step | go_upon | go_back | dsimp only))
      go_ret
      exact ⟨cs5, _, rfl, HCL.out, H7.out⟩
end

section
open Go.RowKit

abbrev tIss : TypeId := 146
theorem info_Is : (Try.prog.info? tIs).map (fun i => (i.zero, i.size, i.bytes)) = some (some (.slice none 0 0), 1, 24) := by kernel_rfl
abbrev nats (l : List Nat) : List Value := l.map fun c => .int .i64 (c : Nat)
/-- The numbers below i whose height is k. -/
def bkt (hs : List Int) (i k : Nat) : List Nat := (List.range i).filter fun q => decide (hs[q]? = some (k : Int))
theorem bkt_len (hs : List Int) (i k : Nat) : (bkt hs i k).length ≤ i := by
  unfold bkt
  exact Nat.le_trans (List.length_filter_le _ _) (by simp)
theorem bkt_hit {hs : List Int} {i k : Nat} (h : hs[i]? = some (k : Int)) : bkt hs (i + 1) k = bkt hs i k ++ [i] := by
  unfold bkt
  rw [List.range_succ, List.filter_append, List.filter_cons_of_pos (by simpa using h), List.filter_nil]
theorem bkt_miss {hs : List Int} {i k : Nat} (h : hs[i]? ≠ some (k : Int)) : bkt hs (i + 1) k = bkt hs i k := by
  unfold bkt
  rw [List.range_succ, List.filter_append, List.filter_cons_of_neg (by simpa using h), List.filter_nil, List.append_nil]
theorem mem_bkt {hs : List Int} {i k n : Nat} : n ∈ bkt hs i k ↔ n < i ∧ hs[n]? = some (k : Int) := by
  unfold bkt
  rw [List.mem_filter, List.mem_range, decide_eq_true_eq]
theorem bkt_nodup (hs : List Int) (i k : Nat) : (bkt hs i k).Nodup := List.nodup_range.filter _
theorem set_same' {α : Type} {l : List α} {n : Nat} {v : α} (h : l[n]? = some v) : l.set n v = l := by
  refine List.ext_getElem? fun q => ?_
  by_cases he : n = q
  · subst he
    rw [List.getElem?_set_self (List.getElem?_eq_some_iff.1 h).1, h]
  · rw [List.getElem?_set_ne he]
theorem RdRow.one {w : World} {v : Value} {n : Nat} {cs : List Value} (h : RdRow w v n 1 cs) {j : Nat} {u : Value} (hj : cs[j]? = some u) : ∃ b off cap, v = .slice (some ⟨b, off, none⟩) n cap ∧ w.cell? ⟨b, off + j, none⟩ = some u := by
  obtain ⟨_, a, cap, rfl, _, _, hc⟩ := h
  obtain ⟨b, off, rfl, hcell⟩ := hc j u hj
  exact ⟨b, off, cap, rfl, hcell⟩
/-- Empty rows. -/
theorem At.noRowsT {W w : World} {Φ : Thing} (h : At W w Φ) (hs : Stable Φ) (e : TypeId) (size n : Nat) : At W w (Both (AllT (fun _ => RowG e size (.slice none 0 0) 0 []) n) Φ) := by
  induction n with
  | zero => exact h.add hs (Below.refl _ _) (fp := []) rfl (by simp)
  | succ n ih =>
    have hst := (AllT.stable (n := n) fun _ _ => RowG.stable e size (.slice none 0 0) 0 []).both hs
    have h1 := (ih.noRowG hst e size).pushT
    exact h1.congrT fun i _ => by
      by_cases he : i = n
      · subst he; rw [putT_same]
      · rw [putT_other he]
/-- The rows of the buckets. -/
abbrev BkT (bv : Nat → Value) (hs : List Int) (i : Nat) : Nat → Thing := fun k => RowG tInt 1 (bv k) (bkt hs i k).length (nats (bkt hs i k))
theorem BkT.stable (bv : Nat → Value) (hs : List Int) (i n : Nat) : Stable (AllT (BkT bv hs i) n) := AllT.stable fun _ _ => RowG.stable _ _ _ _ _

/-- Which counts are told: those of the states of P. -/
def CPart (A : List Sta) (P : Nat → Prop) (cs : List Int) : Prop := cs.length = A.length ∧ (∀ i t, Unf A i t → P i → cs[i]? = some (cntI t)) ∧ ∀ i, i < A.length → ¬ P i → cs[i]? = some 0
def lowP (hs : List Int) (k : Nat) : Nat → Prop := fun i => ∃ h : Nat, hs[i]? = some (h : Int) ∧ h < k
def midP (hs : List Int) (k : Nat) (l : List Nat) : Nat → Prop := fun i => lowP hs k i ∨ i ∈ l
theorem CPart.congr {A : List Sta} {P Q : Nat → Prop} {cs : List Int} (h : CPart A P cs) (e : ∀ i, i < A.length → (P i ↔ Q i)) : CPart A Q cs :=
  ⟨h.1, fun i t hu hq => h.2.1 i t hu ((e i hu.lt).2 hq), fun i hi hq => h.2.2 i hi fun hp => hq ((e i hi).1 hp)⟩
theorem CPart.set {A : List Sta} {P : Nat → Prop} {cs : List Int} {n : Nat} {t : Trie} (h : CPart A P cs) (hn : Unf A n t) : CPart A (fun i => P i ∨ i = n) (cs.set n (cntI t)) := by
  have hl : n < cs.length := by rw [h.1]; exact hn.lt
  refine ⟨by simpa using h.1, fun i t' hu hp => ?_, fun i hi hp => ?_⟩
  · by_cases he : n = i
    · subst he
      rw [List.getElem?_set_self hl, hn.uniq hu]
    · rw [List.getElem?_set_ne he]
      exact h.2.1 i t' hu (hp.resolve_right fun e => he e.symm)
  · have he : n ≠ i := fun e => hp (.inr e.symm)
    rw [List.getElem?_set_ne he]
    exact h.2.2 i hi fun hp' => hp (.inl hp')

theorem Gets.ht {A : List Sta} {n i : Nat} (h : Gets A n i) : ∀ {t ti : Trie}, Unf A n t → Unf A i ti → htT ti ≤ htT t := by
  induction h with
  | refl => intro t ti h1 h2; rw [h1.uniq h2]; exact Nat.le_refl _
  | edge hx he h0 _ ih =>
    intro t ti h1 h2
    obtain ⟨y, hy, hu⟩ := h1
    rw [hx] at hy
    cases hy
    obtain ⟨c, _, hc, hh⟩ := hu.mem _ he
    have := ih hc h2
    omega
/-- The buckets are filled. -/
theorem fill_run {W w : World} {hs : List Int} {bv : Nat → Value} {i k H go cap : Nat} (hk : k < H) (hi : hs[i]? = some (k : Int)) (hil : i < 1048576)
    (h : At W w (Both (RowG tIs 1 (.slice (some ⟨go, 0, none⟩) H cap) H ((List.range H).map bv)) (Both (AllT (BkT bv hs i) H) Nought))) :
    ∃ v' w', (∃ ao n cp, v' = .slice ao n cp) ∧ (Builtin.append_ #[tIs, tIs] tIs #[bv k, .slice (some ⟨w.heap.size, 0, none⟩) 1 1]).run Try.prog (w.alloc (.cells #[.int .i64 (i : Nat)] tInt)) = .ok v' w' ∧
      Below W.heap.size W w' ∧ (∃ u, w'.cell? ⟨go, k, none⟩ = some u) ∧ w'.frozen? ⟨go, k, none⟩ = false ∧ go < w'.heap.size ∧
      At W (w'.setCell ⟨go, k, none⟩ v') (Both (RowG tIs 1 (.slice (some ⟨go, 0, none⟩) H cap) H ((List.range H).map fun q => if q = k then v' else bv q)) (Both (AllT (BkT (fun q => if q = k then v' else bv q) hs (i + 1)) H) Nought)) := by
  have hst := (AllT.stable (n := H) (f := putT (BkT bv hs i) k Nought) fun q _ => by
    by_cases he : q = k
    · subst he; rw [putT_same]; exact Stable.nought
    · rw [putT_other he]; exact RowG.stable _ _ _ _ _).both Stable.nought
  have hso := RowG.stable tIs 1 (.slice (some ⟨go, 0, none⟩) H cap) H ((List.range H).map bv)
  have h1 := (h.swap.takeT hk).pull3
  have h2 : At W w (Both (RowG tInt 1 (bv k) (bkt hs i k).length (nats (bkt hs i k))) (Both (RowG tIs 1 (.slice (some ⟨go, 0, none⟩) H cap) H ((List.range H).map bv)) (Both (AllT (putT (BkT bv hs i) k Nought) H) Nought))) :=
    (h.swap.takeT hk).impl fun _ q => Both.mono (fun _ _ q => q.assoc) q
  clear h1
  have hbl := bkt_len hs i k
  obtain ⟨v', w', hrun, h3, _, _⟩ := append_at_run (P := Try.prog) tIs tIs tInt Try.underlying85 info_Int rfl (by decide) h2 (hso.both hst) (C := #[.int .i64 (i : Nat)]) (m := 1) (c := 1) rfl (one_int _ _) (by unfold maxLen; omega) (by omega)
  refine ⟨v', w', by obtain ⟨ao, cp, e, _, _⟩ := own_shape h3.rowG; exact ⟨ao, _, cp, e⟩, hrun, ?_⟩
  have hcell : ((List.range H).map bv)[k]? = some (bv k) := by simp [hk]
  obtain ⟨f1, f2, f3⟩ := h3.drop.rowCell hcell
  refine ⟨h3.below, ⟨_, f1⟩, f2, f3, ?_⟩
  have h4 := h3.swap.storeG ((RowG.stable tInt 1 v' _ _).both hst) k v'
  have e1 : ((List.range H).map bv).set k v' = (List.range H).map fun q => if q = k then v' else bv q := by
    refine List.ext_getElem? fun q => ?_
    by_cases he : k = q
    · subst he
      rw [List.getElem?_set_self (by simpa using hk)]
      simp [hk]
    · rw [List.getElem?_set_ne he, List.getElem?_map, List.getElem?_map]
      by_cases hq : q < H
      · rw [List.getElem?_range hq]
        have hqk : q ≠ k := fun e => he e.symm
        simp [hqk]
      · rw [List.getElem?_eq_none (by simp; omega)]; rfl
  rw [e1] at h4
  have e2 : nats (bkt hs i k) ++ (#[.int .i64 (i : Nat)] : Array Value).toList = nats (bkt hs (i + 1) k) := by rw [bkt_hit hi]; simp
  have e3 : (bkt hs i k).length + 1 = (bkt hs (i + 1) k).length := by rw [bkt_hit hi]; simp
  rw [e2, e3] at h4
  refine ((h4.swap.swap2.giveT hk).congrT fun q _ => ?_).swap
  by_cases he : q = k
  · subst he
    rw [putT_same]
    show RowG tInt 1 v' _ _ = RowG tInt 1 (if q = q then v' else bv q) _ _
    rw [if_pos rfl]
  · rw [putT_other he]
    show RowG tInt 1 (bv q) _ _ = RowG tInt 1 (if q = k then v' else bv q) _ _
    rw [if_neg he, bkt_miss]
    intro e
    rw [hi] at e
    simp only [Option.some.injEq] at e
    omega
theorem cell_own {w : World} {g j N n cap : Nat} {cs : List Value} (h : RdRow w (.slice (some ⟨g, 0, none⟩) N cap) n 1 cs) {u : Value} (hj : cs[j]? = some u) : w.cell? ⟨g, j, none⟩ = some u := by
  obtain ⟨_, a, cap', hv, _, _, h2⟩ := h
  obtain ⟨b', off', hb, h3⟩ := h2 j u hj
  cases hv
  cases hb
  rw [Nat.zero_add] at h3
  exact h3
theorem cpart_start (A : List Sta) (hs : List Int) : CPart A (lowP hs 0) (List.replicate A.length 0) :=
  ⟨by simp, fun i t _ hp => by obtain ⟨h, _, h2⟩ := hp; omega, fun i hi _ => by rw [List.getElem?_replicate, if_pos hi]⟩
theorem mid_low {A : List Sta} {hs : List Int} {k : Nat} (hh : HtL A hs) (hsh : Shaped A) : ∀ i, i < A.length → (midP hs k (bkt hs A.length k) i ↔ lowP hs (k + 1) i) := by
  intro i hi
  obtain ⟨t, ht, _, _⟩ := hsh.tr i hi
  have e := hh.2 i t ht
  constructor
  · rintro (⟨h, h1, h2⟩ | hm)
    · exact ⟨h, h1, by omega⟩
    · exact ⟨k, (mem_bkt.1 hm).2, by omega⟩
  · rintro ⟨h, h1, h2⟩
    by_cases he : h = k
    · subst he; exact .inr (mem_bkt.2 ⟨hi, h1⟩)
    · exact .inl ⟨h, h1, by omega⟩
theorem cpart_end {A : List Sta} {hs : List Int} {N : Nat} {t : Trie} {cs : List Int} (hh : HtL A hs) (hsh : Shaped A) (ht : Unf A 0 t) (hN : htT t < N) (h : CPart A (lowP hs N) cs) : CntL A cs :=
  ⟨h.1, fun i ti hu => h.2.1 i ti hu ⟨htT ti, hh.2 i ti hu, Nat.lt_of_le_of_lt ((hsh.reach i hu.lt).ht ht hu) hN⟩⟩
theorem not_mid {hs : List Int} {N k j n : Nat} (h : (bkt hs N k)[j]? = some n) (hn : hs[n]? = some (k : Int)) : ¬ midP hs k ((bkt hs N k).take j) n := by
  rintro (⟨q, h1, h2⟩ | hm)
  · rw [hn] at h1
    simp only [Option.some.injEq] at h1
    omega
  · obtain ⟨i, hi, he⟩ := List.getElem_of_mem hm
    have hi' : i < j := by rw [List.length_take] at hi; omega
    rw [List.getElem_take] at he
    obtain ⟨hj, rfl⟩ := List.getElem?_eq_some_iff.1 h
    exact absurd he ((List.pairwise_iff_getElem.1 (bkt_nodup hs N k)) i j (by omega) hj hi')
theorem kid_done {A : List Sta} {hs cs : List Int} {k n : Nat} {l : List Nat} {t : Trie} (hh : HtL A hs) (h : CPart A (midP hs k l) cs) (ht : Unf A n t) (hk : htT t = k) :
    ∀ x, A[n]? = some x → ∀ e ∈ x.edges, ∀ m : Nat, e.2 = (m : Int) → ∀ c, Unf A m c → cs[m]? = some (cntI c) ∧ m ≠ n := by
  intro x hx e he m hm c hc
  obtain ⟨y, hy, hu⟩ := ht
  rw [hx] at hy
  cases hy
  obtain ⟨c', _, hc', hlt⟩ := hu.mem e he
  rw [hm, Int.toNat_natCast] at hc'
  obtain rfl := hc.uniq hc'
  refine ⟨h.2.1 m c hc (.inl ⟨htT c, hh.2 m c hc, by omega⟩), fun e => ?_⟩
  subst e
  have := hc.uniq ⟨x, hx, hu⟩
  subst this
  omega
theorem mid_next {A : List Sta} {hs : List Int} {k j n : Nat} {l : List Nat} (h : l[j]? = some n) : ∀ i, i < A.length → (midP hs k (l.take j) i ∨ i = n ↔ midP hs k (l.take (j + 1)) i) := by
  intro i _
  rw [List.take_add_one, h]
  simp only [midP, Option.toList_some, List.mem_append, List.mem_singleton]
  exact or_assoc

set_option maxRecDepth 100000 in
set_option maxHeartbeats 3200000 in
theorem RCounts_calls {w : World} {A : List Sta} {va : Value} (hA : RdAut w va A) (hl : A.length ≤ 1048576 ∧ edgesN A ≤ 1048576) (hs : Shaped A) :
    Calls Try.prog 46 #[va] w fun e w' => ∃ cs g, e = .returned (.slice (some ⟨g, 0, none⟩) A.length A.length) ∧ CntL A cs ∧ At w w' (Both (RowG tInt 1 (.slice (some ⟨g, 0, none⟩) A.length A.length) A.length (intsI cs)) Nought) := by
  obtain ⟨a0, c0, hv, _, hc0⟩ := hA.shape
  unfold maxLen at hc0
  obtain ⟨t, ht, _, _⟩ := hs.tr 0 hs.pos
  have hn : A.length ≤ 1048576 := by omega
  have hht := htT_lt ht
  have HC := Lib.hid (heights_calls hA hl hs)
  have H := Lib.hid hA
  have HSH := Lib.hid hs
  have HT := Lib.hid ht
  have hpos := hs.pos
  clear hs ht hA
  subst hv
  go_enter Try.func46, Try.ntmps46
  (repeat' (first | (go_big_may; fail) | go_values | go_skip | go_guarded | go_step | go_upon | go_back | dsimp only))
  refine HC.out.mono ?_
  rintro e1 w1 ⟨hs, gh, rfl, hhs, h1⟩
  have HB1 := Lib.hid h1.below
  have HHS := Lib.hid hhs
  have HRD := Lib.hid (RdRow.of_own h1.rowG)
  have HA1 := Lib.hid (H.out.below h1.below)
  clear h1 hhs HC H
  (repeat' (first | (go_big_may; fail) | go_values | go_skip | go_guarded | go_step | go_upon | go_back | dsimp only))
  go_loopw [4, 5] (fun vb vi wr => ∃ (i : Nat), vi = .int .i64 i ∧ i ≤ htT t + 1 ∧ At w1 wr (Both (RowG tIs 1 vb i (List.replicate i (.slice none 0 0))) Nought)) (fun _ vi _ => htT t + 1 - (intOf vi).toNat)
  case atStart => exact ⟨0, rfl, Nat.zero_le _, (At.nought (Below.refl _ _)).noRowG Stable.nought _ _⟩
  case round =>
    obtain ⟨i, rfl, hi, h2⟩ := hrel
    have c0 := cell_row (HRD.out.below h2.below) (HHS.out.2 0 t HT.out)
    rw [show htI t = ((htT t : Nat) : Int) from rfl] at c0
    by_cases hlt : i ≤ htT t
    · have hiI : (i : Int) ≤ ((htT t : Nat) : Int) := by omega
      have H2 := Lib.hid h2
      clear h2
      (repeat' (first | (go_big_may; ((at_builtin; go_must (refine wpList_append_to rfl _ _ 146 tIs rfl Try.underlying146 info_Is rfl (by decide) rfl (H2.out) (Stable.nought) rfl (by first | rfl | simp) rfl (fun u hu => by simp at hu; subst hu; rfl) (by unfold maxLen; omega) (by omega) ?_); intro a4 c4 w4 h4 _); have H4 := Lib.hid h4; clear h4)) | go_values | go_skip | go_guarded | go_step | go_upon | go_back | dsimp only))
      go_roundw
      case rel => exact ⟨i + 1, by simp, by omega, by have := H4.out; rw [List.replicate_succ', show List.replicate i (Value.slice none 0 0) ++ [Value.slice none 0 0] = List.replicate i (Value.slice none 0 0) ++ (#[Value.slice none 0 0] : Array Value).toList from rfl]; exact this⟩
      case measure => simp [intOf] <;> omega
    · have hiI : ¬ (i : Int) ≤ ((htT t : Nat) : Int) := by omega
      obtain ⟨N, hN⟩ : ∃ N, N = i := ⟨_, rfl⟩
      subst hN
      have hNlt : htT t < N := by omega
      clear hlt
      have h3 := (h2.noRowsT ((RowG.stable _ _ _ _ _).both Stable.nought) tInt 1 N).swap
      obtain ⟨go, cap, rfl, _, _, _⟩ := own_cut h3.rowG (by omega)
      have H3 := Lib.hid h3
      clear h2 h3
      (repeat' (first | (go_big_may; fail) | go_values | go_skip | go_guarded | go_step | go_upon | go_back | dsimp only))
      go_loopw [6] (fun vi wr => ∃ (i : Nat) (bv : Nat → Value), vi = .int .i64 i ∧ i ≤ A.length ∧ At w1 wr (Both (RowG tIs 1 (.slice (some ⟨go, 0, none⟩) N cap) N ((List.range N).map bv)) (Both (AllT (BkT bv hs i) N) Nought))) (fun vi _ => A.length - (intOf vi).toNat)
      case atStart => exact ⟨0, fun _ => .slice none 0 0, rfl, Nat.zero_le _, by have := H3.out; rw [show (List.range N).map (fun _ => Value.slice none 0 0) = List.replicate N (.slice none 0 0) from by rw [List.map_const', List.length_range]]; exact this⟩
      case round =>
        obtain ⟨i, bv, rfl, hi, h4⟩ := hrel
        by_cases hlt : i < A.length
        · obtain ⟨ti, hti, _, _⟩ := HSH.out.tr i hlt
          have c1 := cell_row (HRD.out.below h4.below) (HHS.out.2 i ti hti)
          rw [show htI ti = ((htT ti : Nat) : Int) from rfl] at c1
          have hhi : htT ti < N := Nat.lt_of_le_of_lt ((HSH.out.reach i hlt).ht HT.out hti) hNlt
          have hiI : (i : Int) < (A.length : Int) := by omega
          obtain ⟨v', w', ⟨ao, nn, cp, rfl⟩, hrun, hbw, ⟨uo, q1⟩, q2, q3, h5⟩ := fill_run hhi (HHS.out.2 i ti hti) (by omega) (h4.drew (((RowG.stable _ _ _ _ _).both ((BkT.stable _ _ _ _).both Stable.nought))))
          have hcell : ((List.range N).map bv)[htT ti]? = some (bv (htT ti)) := by simp [hhi]
          obtain ⟨r1, r2, r3⟩ := h4.rowCell hcell
          have hst4 := (RowG.stable tIs 1 (.slice (some ⟨go, 0, none⟩) N cap) N ((List.range N).map bv)).both ((BkT.stable bv hs i N).both Stable.nought)
          have h4a := h4.alloc hst4 (.cells #[.int .i64 (i : Nat)] tInt)
          obtain ⟨ra, _, _⟩ := h4a.rowCell hcell
          have c1a := cell_row (HRD.out.below h4a.below) (HHS.out.2 i ti hti)
          have c1b := cell_row (HRD.out.below hbw) (HHS.out.2 i ti hti)
          rw [show htI ti = ((htT ti : Nat) : Int) from rfl] at c1a c1b
          have hhiI : ((htT ti : Nat) : Int) < (N : Int) := by omega
          have H5 := Lib.hid h5
          clear h5 h4 hcell hti h4a hst4 hbw
          (repeat' (first | (go_big_may; fail) | go_values | go_skip | go_guarded | go_step | go_upon | go_back | dsimp only))
          go_region_law (refine step_append_run rfl _ _ tIs rfl _ _ rfl rfl hrun ?_)
          all_goals
            (repeat' (first | (go_big_may; fail) | go_values | go_skip | go_guarded | go_step | go_upon | go_back | dsimp only))
            go_roundw
            case rel => exact ⟨i + 1, _, by simp, by omega, H5.out⟩
            case measure => simp [intOf] <;> omega
        · obtain rfl : i = A.length := by omega
          obtain ⟨w3, hw3⟩ : ∃ w3, w3 = wr := ⟨_, rfl⟩
          subst hw3
          have HOUT := Lib.hid (RdRow.of_own h4.rowG)
          have HROW := Lib.hid (fun k (hk : k < N) => RdRow.of_own (h4.swap.takeT hk).rowG)
          have HB4 := Lib.hid h4.below
          have HA4 := Lib.hid (HA1.out.below h4.below)
          clear h4 hlt
          (repeat' (first | (go_big_may; ((at_make; go_must (refine wpList_make_at rfl _ _ 85 rfl tInt Try.underlying85 info_Int rfl rfl rfl rfl rfl (by omega) (by unfold maxLen; omega) (At.nought (Below.refl w3.heap.size w3)) Stable.nought ?_)); intro w2 h2 _; have H2 := Lib.hid h2; clear h2)) | go_values | go_skip | go_guarded | go_step | go_upon | go_back | dsimp only))
          go_loopw [8] (fun vk wx => ∃ (k : Nat) (cs : List Int), vk = .int .i64 k ∧ k ≤ N ∧ CPart A (lowP hs k) cs ∧ At w3 wx (Both (RowG tInt 1 (.slice (some ⟨w3.heap.size, 0, none⟩) A.length A.length) A.length (intsI cs)) Nought)) (fun vk _ => N - (intOf vk).toNat)
          case atStart => exact ⟨0, List.replicate A.length 0, rfl, Nat.zero_le _, cpart_start A hs, by have := H2.out; rw [show List.replicate A.length (Value.int .i64 0) = intsI (List.replicate A.length 0) from by simp [intsI]] at this; exact this⟩
          case round =>
            obtain ⟨k, cs, rfl, hk, hcp, h5⟩ := hrel
            by_cases hkn : k < N
            · have hkI : (k : Int) < (N : Int) := by omega
              obtain ⟨ab, cb, hbv, _, hcb⟩ := (HROW.out k hkn).shape
              unfold maxLen at hcb
              have HRK := Lib.hid (HROW.out k hkn)
              have hoc : ((List.range N).map bv)[k]? = some (bv k) := by simp [hkn]
              have O1 := Lib.hid (fun wz (hb : Below w3.heap.size w3 wz) => cell_own (HOUT.out.below hb) hoc)
              rw [hbv] at HRK O1
              have HCP := Lib.hid hcp
              have H5 := Lib.hid h5
              have hbl := bkt_len hs A.length k
              clear hcp h5 hoc hbv
              (repeat' (first | (go_big_may; fail) | go_values | go_skip | go_guarded | go_step | go_upon | go_back | dsimp only))
              go_loopw [9] (fun vj wy => ∃ (j : Nat) (cs' : List Int), vj = .int .i64 j ∧ j ≤ (bkt hs A.length k).length ∧ CPart A (midP hs k ((bkt hs A.length k).take j)) cs' ∧ At w3 wy (Both (RowG tInt 1 (.slice (some ⟨w3.heap.size, 0, none⟩) A.length A.length) A.length (intsI cs')) Nought)) (fun vj _ => (bkt hs A.length k).length - (intOf vj).toNat)
              case atStart => exact ⟨0, cs, rfl, Nat.zero_le _, HCP.out.congr fun i _ => by simp [midP], H5.out⟩
              case round =>
                obtain ⟨j, cs', rfl, hj, hcp', h6⟩ := hrel
                have o1 := O1.out wr h6.below
                by_cases hjl : j < (bkt hs A.length k).length
                · have hjI : (j : Int) < ((bkt hs A.length k).length : Int) := by omega
                  obtain ⟨n, hnj⟩ : ∃ n, (bkt hs A.length k)[j]? = some n := ⟨_, List.getElem?_eq_getElem hjl⟩
                  obtain ⟨hnl, hnk⟩ := mem_bkt.1 (List.mem_of_getElem? hnj)
                  have hnot := not_mid hnj hnk
                  obtain ⟨tn, htn, _, _⟩ := HSH.out.tr n hnl
                  have hcz := hcp'.2.2 n hnl hnot
                  have hcl := hcp'.1
                  have htk : htT tn = k := by
                    have := HHS.out.2 n tn htn
                    rw [hnk] at this
                    simp only [htI, Option.some.injEq] at this
                    omega
                  obtain ⟨bb, ob, cb', hse, b1⟩ := (HRK.out.below h6.below).one (u := .int .i64 (n : Nat)) (j := j) (by simp [hnj])
                  cases hse
                  obtain ⟨x, hx, hux⟩ := htn
                  obtain ⟨bs, os, cs0, us, hsv, d0, d1, hue⟩ := HA4.out.at hx
                  obtain ⟨ua, uc, rfl, _, huc⟩ := hue.shape
                  unfold maxLen at huc
                  cases hsv
                  have D1 := Lib.hid d1
                  replace d0 := (h6.below.cell (World.block_lt_of_cell? _ _ d0)).trans d0
                  clear d1
                  have hel := edgesN_le hx
                  have hnI : (n : Int) < (A.length : Int) := by omega
                  have HE := Lib.hid (show RdEds w3 (.slice ua x.edges.length uc) x.edges from hue)
                  have HUL := Lib.hid (uE_le hux)
                  have HFIN := Lib.hid hux.final
                  have HKID := Lib.hid (kid_done (hs := hs) HHS.out hcp' ⟨x, hx, hux⟩ htk)
                  have HX := Lib.hid hx
                  have HU := Lib.hid hux
                  have HNJ := Lib.hid (And.intro hnj hcp')
                  have HCZ := Lib.hid hcz
                  obtain ⟨p1, p2, p3⟩ := h6.rowCell (intsI_get hcz)
                  have H6 := Lib.hid h6
                  clear hnj hnk hnot hux hx hue hcp' hcz h6
                  go_upto_if 75 with (fail)
                  go_cut [] (fun wx => At w3 wx (Both (RowG tInt 1 (.slice (some ⟨w3.heap.size, 0, none⟩) A.length A.length) A.length (intsI (cs'.set n (finN x.final : Nat)))) Nought))
                  case first =>
                    refine wp_norm ?_
                    rename_i J K' hJ hK
                    have HJ := Lib.hid hJ
                    have HK := Lib.hid hK
                    clear hJ hK
                    cases hf : x.final with
                    | true =>
                      have h7 := H6.out.storeG Stable.nought n (.int .i64 1)
                      rw [intsI_set] at h7
                      have H7 := Lib.hid h7
                      clear h7
                      (repeat' (first | (go_big_may; fail) | go_values | go_skip | go_guarded | go_step | go_upon | go_back | dsimp only))
                      refine HK.out _ _ ?_
                      have hJ := HJ.out
                      go_meet
                      case rel => rw [hf]; exact H7.out
                    | false =>
                      (repeat' (first | (go_big_may; fail) | go_values | go_skip | go_guarded | go_step | go_upon | go_back | dsimp only))
                      refine HK.out _ _ ?_
                      have hJ := HJ.out
                      go_meet
                      case rel => rw [hf, show cs'.set n ((finN false : Nat) : Int) = cs' from set_same' HCZ.out]; exact H6.out
                  case rest =>
                    have HCUT := Lib.hid hcut
                    clear hcut p1 p2 p3 d0 o1 b1
                    (repeat' (first | (go_big_may; fail) | go_values | go_skip | go_guarded | go_step | go_upon | go_back | dsimp only))
                    go_loopw [11] (fun vi wz => ∃ (q c : Nat) (tj : Trie), vi = .int .i64 q ∧ q ≤ x.edges.length ∧ UnfE A tj x.final (x.edges.drop q) ∧ c + uE tj = finN x.final + uE tn ∧ At w3 wz (Both (RowG tInt 1 (.slice (some ⟨w3.heap.size, 0, none⟩) A.length A.length) A.length (intsI (cs'.set n (c : Nat)))) Nought)) (fun vi _ => x.edges.length - (intOf vi).toNat)
                    case atStart => exact ⟨0, _, tn, rfl, Nat.zero_le _, HU.out, rfl, HCUT.out⟩
                    case round =>
                      obtain ⟨q, c, tj, rfl, hq, hut, hsum, h7⟩ := hrel
                      have d1 := (h7.below.cell (World.block_lt_of_cell? _ _ D1.out)).trans D1.out
                      have hcb : c ≤ 1153057894337478656 := by
                        have := HUL.out
                        have h0 : finN x.final ≤ 1 := by unfold finN; split <;> omega
                        have h1 : x.edges.length * 1099511627777 ≤ 1048576 * 1099511627777 := Nat.mul_le_mul_right _ (by omega)
                        omega
                      have hset : ∀ z : Int, (cs'.set n z)[n]? = some z := fun z => List.getElem?_set_self (by omega)
                      obtain ⟨p1, p2, p3⟩ := h7.rowCell (intsI_get (hset (c : Nat)))
                      by_cases hlq : q < x.edges.length
                      · obtain ⟨e, he⟩ : ∃ e, x.edges[q]? = some e := ⟨_, List.getElem?_eq_getElem hlq⟩
                        rw [drop_at he] at hut
                        obtain ⟨ct, r, rfl, he0, hct, hr⟩ := hut.cons
                        obtain ⟨m, hm⟩ := Int.eq_ofNat_of_zero_le he0
                        rw [hm, Int.toNat_natCast] at hct
                        obtain ⟨hkid, hmn⟩ := HKID.out x HX.out e (List.mem_of_getElem? he) m hm ct hct
                        have hml := hct.lt
                        have hmI : (m : Int) < (A.length : Int) := by omega
                        have hqI : (q : Int) < (x.edges.length : Int) := by omega
                        obtain ⟨r1, _, _⟩ := h7.rowCell (j := m) (u := .int .i64 (cntI ct)) (by rw [List.getElem?_map, List.getElem?_set_ne (fun e => hmn e.symm), hkid]; rfl)
                        obtain ⟨be, oe, ce, hse, e0, e1⟩ := RdEds.at (HE.out.below h7.below) he
                        cases hse
                        rw [hm] at e1
                        simp only [uE] at hsum
                        have hcp := capN_le (cntT ct)
                        have hcI : cntI ct = ((capN (cntT ct) : Nat) : Int) := rfl
                        rw [hcI] at r1
                        have hwr : IntKind.i64.wrap ((c : Int) + (capN (cntT ct) : Nat)) = ((c + capN (cntT ct) : Nat) : Int) := by rw [IntKind.wrap_i64] <;> omega
                        have h8 := (h7.drew ((RowG.stable _ _ _ _ _).both Stable.nought)).storeG Stable.nought n (.int .i64 ((c + capN (cntT ct) : Nat) : Int))
                        rw [intsI_set, List.set_set] at h8
                        have H8 := Lib.hid h8
                        have HR := Lib.hid hr
                        clear h7 h8 hct hut hr hkid hm he0 hcI hset e0 he
                        (repeat' (first | (go_big_may; fail) | go_values | go_skip | go_guarded | go_step | go_upon | go_back | dsimp only))
                        (refine region_still_tail 20 (by kernel_rfl) (by kernel_rfl) ?_; simp only [List.take_succ_cons, List.take_zero, List.drop_succ_cons, List.drop_zero]; (iterate 20 (first | ((with_reducible refine still_plain ?_ rfl ?_ ?_); rotate_left; (next => (go_simp; (try with_reducible rfl))); simp only [Act.put, List.setIfInBounds_toArray, List.set_cons_zero, List.set_cons_succ]) | ((with_reducible refine still_skip ?_ ?_); (next => (go_simp; done)); simp only [Act.put, List.setIfInBounds_toArray, List.set_cons_zero, List.set_cons_succ]) | ((with_reducible refine still_val ?_ ?_ ?_ ?_); rotate_left; (next => (go_simp; done)); (next => (go_simp; (try with_reducible rfl))); simp only [Act.put, List.setIfInBounds_toArray, List.set_cons_zero, List.set_cons_succ]))); (with_reducible refine wpStill_nil ?_))
                        (repeat' (first | (go_big_may; fail) | go_values | go_skip | go_guarded | go_step | go_upon | go_back | dsimp only))
                        go_roundw
                        case rel => exact ⟨q + 1, c + capN (cntT ct), r, by simp, by omega, HR.out, by omega, H8.out⟩
                        case measure => simp [intOf] <;> omega
                      · obtain rfl : q = x.edges.length := by omega
                        rw [List.drop_eq_nil_of_le (Nat.le_refl _)] at hut
                        obtain rfl := hut.nil
                        have hc2 : capN c = capN (cntT tn) := by
                          rw [← capN_uE tn, HFIN.out]
                          congr 1
                        have hci : cntI tn = ((capN c : Nat) : Int) := by unfold cntI; rw [hc2]
                        have HNEW := Lib.hid ((HNJ.out.2.set ⟨x, HX.out, HU.out⟩).congr (mid_next HNJ.out.1))
                        rw [hci] at HNEW
                        clear hut hsum hc2 hci hset
                        by_cases hbig : 1099511627776 < c
                        · have hbI : (1099511627776 : Int) < (c : Int) := by omega
                          have e2 : capN c = 1099511627777 := by unfold capN; omega
                          rw [e2] at HNEW
                          have h8 := h7.storeG Stable.nought n (.int .i64 1099511627777)
                          rw [intsI_set, List.set_set] at h8
                          have H8 := Lib.hid h8
                          clear h7 h8 e2
                          (repeat' (first | (go_big_may; fail) | go_values | go_skip | go_guarded | go_step | go_upon | go_back | dsimp only))
                          go_roundw
                          case rel => exact ⟨j + 1, _, by simp, by omega, HNEW.out, H8.out⟩
                          case measure => simp [intOf] <;> omega
                        · have hbI : ¬ (1099511627776 : Int) < (c : Int) := by omega
                          have e2 : capN c = c := by unfold capN; omega
                          rw [e2] at HNEW
                          have H7 := Lib.hid h7
                          clear h7 e2
                          (repeat' (first | (go_big_may; fail) | go_values | go_skip | go_guarded | go_step | go_upon | go_back | dsimp only))
                          go_roundw
                          case rel => exact ⟨j + 1, _, by simp, by omega, HNEW.out, H7.out⟩
                          case measure => simp [intOf] <;> omega
                · obtain rfl : j = (bkt hs A.length k).length := by omega
                  rw [List.take_length] at hcp'
                  have HCP' := Lib.hid hcp'
                  have H6 := Lib.hid h6
                  clear hcp' h6
                  (repeat' (first | (go_big_may; fail) | go_values | go_skip | go_guarded | go_step | go_upon | go_back | dsimp only))
                  go_roundw
                  case rel => exact ⟨k + 1, cs', by simp, by omega, HCP'.out.congr (mid_low HHS.out HSH.out), H6.out⟩
                  case measure => simp [intOf] <;> omega
            · obtain rfl : k = N := by omega
              have HCL := Lib.hid (cpart_end HHS.out HSH.out HT.out hNlt hcp)
              have H5 := Lib.hid h5
              clear h5 hcp
              (repeat' (first | (go_big_may; fail) | go_values | go_skip | go_guarded | go_step | go_upon | go_back | dsimp only))
              go_ret
              exact ⟨cs, _, rfl, HCL.out, ⟨HB1.out.trans ((HB4.out.mono HB1.out.size).trans (H5.out.below.mono (Nat.le_trans HB1.out.size HB4.out.size))), by obtain ⟨_, fp, g1, g2⟩ := H5.out; exact ⟨fp, g1, fun q hq => Nat.le_trans (Nat.le_trans HB1.out.size HB4.out.size) (g2 q hq)⟩⟩⟩
end
end Go.Proofs.Ytcbdncjknpdnbaa
