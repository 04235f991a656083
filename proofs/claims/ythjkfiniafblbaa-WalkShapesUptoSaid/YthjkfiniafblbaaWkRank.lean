/- Rank and the document's Rank walked. · The document's Rank walked; Rank where there are too many words, or no automaton. -/
import Derived.Test.YthjkfiniafblbaaWkAccepts
import Derived.Test.YthjkfiniafblbaaWkCount
import Derived.Deep.QuietTactic
namespace Go.Proofs.Ythjkfiniafblbaa
section
open Go.RowKit

/-- What the edges that are left say of the byte's step. -/
def NextI (A : List Sta) (t tj : Trie) (x : UInt8) (m : Int) : Prop :=
  (m = -1 ∧ stepE t x = stepE tj x) ∨ ∃ (k : Nat) (c : Trie), m = k ∧ Unf A k c ∧ stepE t x = some c ∧ stepE tj x = none
theorem NextI.on {A : List Sta} {t c r : Trie} {b x : UInt8} {m : Int} (h : NextI A t (.edge b c r) x m) (hb : b ≠ x) : NextI A t r x m := by
  rcases h with ⟨h1, h2⟩ | ⟨k, c', h1, h2, h3, h4⟩
  · exact .inl ⟨h1, by rw [h2, stepE_on hb]⟩
  · exact .inr ⟨k, c', h1, h2, h3, by rw [← h4, stepE_on hb]⟩
theorem NextI.here {A : List Sta} {t c r : Trie} {b x : UInt8} {m : Int} {k : Nat} {p : Int} (h : NextI A t (.edge b c r) x m) (hb : b = x) (hk : okE False (.edge b c r) p) (hu : Unf A k c) : NextI A t r x (k : Int) := by
  have hl : stepE r x = none := stepE_low hk.2.2.2 (by rw [hb]; exact Int.le_refl _)
  rcases h with ⟨_, h2⟩ | ⟨k, c', _, _, _, h4⟩
  · exact .inr ⟨k, c, rfl, hu, by rw [h2, stepE_here hb], hl⟩
  · rw [stepE_here hb] at h4; cases h4
theorem NextI.fin {A : List Sta} {t : Trie} {f : Bool} {x : UInt8} {m : Int} (h : NextI A t (.fin f) x m) : StepTo A t x m := by
  unfold StepTo
  rcases h with ⟨h1, h2⟩ | ⟨k, c', h1, h2, h3, _⟩
  · rw [h2]; exact h1
  · rw [h3]; exact ⟨k, h1, h2⟩

set_option maxRecDepth 100000 in
set_option maxHeartbeats 3200000 in
theorem Rank_calls {w : World} {A : List Sta} {va : Value} (hA : RdAut w va A) (hl : A.length + edgesN A ≤ 1048576) (hsh : shapeB A = true) {t : Trie} (ht : Unf A 0 t) (hc : cntT t ≤ 1099511627776) (s : ByteArray) (hs : s.size ≤ 1048576) :
    Calls Try.prog 22 #[va, .string s] w fun e w' => e = .returned (.tuple #[.int .i64 ((rankT t s.data.toList).1 : Nat), .bool (rankT t s.data.toList).2, .int .i64 0]) ∧ Below w.heap.size w w' := by
  obtain ⟨a0, c0, hv, _, hc0⟩ := hA.shape
  unfold maxLen at hc0
  have HCD := Lib.hid (counted_ok hA hl hsh ht hc)
  have HA := Lib.hid hA
  have HT := Lib.hid ht
  have HSH := Lib.hid (shaped_of hsh)
  have hN : A.length ≤ 1048576 := by omega
  clear hA ht hsh
  subst hv
  go_enter Try.func22, Try.ntmps22
  (repeat' (first | (go_big_may; fail) | go_values | go_skip | go_guarded | go_step | go_upon | go_back | dsimp only))
  refine HCD.out.mono ?_
  rintro e0 w0 ⟨cs, g, rfl, hcs, hrd, hb0⟩
  have HB0 := Lib.hid hb0
  have HCS := Lib.hid hcs
  have HRD := Lib.hid hrd
  have HA0 := Lib.hid (HA.out.below hb0)
  clear hb0 hcs hrd HCD HA
  (repeat' (first | (go_big_may; fail) | go_values | go_skip | go_guarded | go_step | go_upon | go_back | dsimp only))
  go_loopw [9, 10, 25] (fun vb vk vi wr => ∃ (i k acc : Nat) (t' : Trie), vi = .int .i64 i ∧ vk = .int .i64 k ∧ vb = .int .i64 acc ∧ i ≤ s.size ∧ Unf A k t' ∧ rankT t s.data.toList = (acc + (rankT t' (s.data.toList.drop i)).1, (rankT t' (s.data.toList.drop i)).2) ∧ acc + cntT t' ≤ cntT t ∧ Below w0.heap.size w0 wr) (fun _ _ vi _ => s.size - (intOf vi).toNat)
  case atStart => exact ⟨0, 0, 0, t, rfl, rfl, rfl, Nat.zero_le _, HT.out, by simp, by omega, Below.refl _ _⟩
  case round =>
    obtain ⟨i, k, acc, t', rfl, rfl, rfl, hi, hk, hrk, hcnt, hb⟩ := hrel
    have HRK := Lib.hid hrk
    have HB := Lib.hid hb
    have HK := Lib.hid hk
    have hkl := hk.lt
    have hkI : (k : Int) < (A.length : Int) := by omega
    obtain ⟨y, hy, hu⟩ := hk
    obtain ⟨b, off, cap, u, hsv, d0, d1, hue⟩ := HA0.out.at hy
    obtain ⟨ua, uc, rfl, _, huc⟩ := hue.shape
    unfold maxLen at huc
    cases hsv
    replace d0 := (hb.cell (World.block_lt_of_cell? _ _ d0)).trans d0
    replace d1 := (hb.cell (World.block_lt_of_cell? _ _ d1)).trans d1
    have hel := edgesN_le hy
    have HU := Lib.hid hu
    have HFIN := Lib.hid hu.final
    have HE := Lib.hid (show RdEds w0 (.slice ua y.edges.length uc) y.edges from hue)
    clear hrk hb hy hu hue
    by_cases hlt : i < s.size
    · have hiI : (i : Int) < (s.size : Int) := by omega
      have hgi := toList_getElem hlt
      obtain ⟨x, hx⟩ : ∃ x, s[i] = x := ⟨_, rfl⟩
      rw [hx] at hgi
      have HG := Lib.hid (drop_at hgi)
      clear hgi
      have hcE := cntT_eN t'
      have hlo := lowE_eN x t'
      have hff : finN t'.final = finN y.final := by rw [HFIN.out]
      go_upto_if 32 with (fail)
      go_cut [9] (fun vm wx => vm = .int .i64 (acc + finN y.final : Nat) ∧ wx = wr)
      case first =>
        refine wp_norm ?_
        rename_i J K' hJ hK
        have HJ := Lib.hid hJ
        have HK' := Lib.hid hK
        clear hJ hK
        cases hf : y.final with
        | true =>
          have hwr : IntKind.i64.wrap ((acc : Int) + 1) = ((acc + 1 : Nat) : Int) := by rw [IntKind.wrap_i64] <;> omega
          rw [hf] at d0
          (repeat' (first | (go_big_may; fail) | go_values | go_skip | go_guarded | go_step | go_upon | go_back | dsimp only))
          refine HK'.out _ _ ?_
          have hJ := HJ.out
          go_meet
          case rel => exact ⟨by rw [hf]; simp [finN], rfl⟩
        | false =>
          rw [hf] at d0
          (repeat' (first | (go_big_may; fail) | go_values | go_skip | go_guarded | go_step | go_upon | go_back | dsimp only))
          refine HK'.out _ _ ?_
          have hJ := HJ.out
          go_meet
          case rel => exact ⟨by rw [hf]; simp [finN], rfl⟩
      case rest =>
        obtain ⟨rfl, rfl⟩ := hcut
        (repeat' (first | (go_big_may; fail) | go_values | go_skip | go_guarded | go_step | go_upon | go_back | dsimp only))
        go_loopw [9, 12, 41] (fun vb vn vq wi => ∃ (q lo : Nat) (m : Int) (tj : Trie) (p : Int), vq = .int .i64 q ∧ vb = .int .i64 lo ∧ vn = .int .i64 m ∧ q ≤ y.edges.length ∧ UnfE A tj y.final (y.edges.drop q) ∧ okE False tj p ∧ lo + lowE tj x = acc + finN y.final + lowE t' x ∧ eN tj ≤ eN t' ∧ NextI A t' tj x m ∧ Below w0.heap.size w0 wi) (fun _ _ vq _ => y.edges.length - (intOf vq).toNat)
        case atStart => exact ⟨0, _, -1, t', -1, rfl, rfl, rfl, Nat.zero_le _, HU.out, good_at HSH.out HK.out, rfl, Nat.le_refl _, .inl ⟨rfl, rfl⟩, HB.out⟩
        case round =>
          obtain ⟨q, lo, m, tj, p, rfl, rfl, rfl, hq, hut, hok, hsum, hej, hnx, hb2⟩ := hrel
          have HB2 := Lib.hid hb2
          by_cases hlq : q < y.edges.length
          · obtain ⟨e, he⟩ : ∃ e, y.edges[q]? = some e := ⟨_, List.getElem?_eq_getElem hlq⟩
            rw [drop_at he] at hut
            obtain ⟨ct, r, rfl, he0, hct, hr⟩ := hut.cons
            obtain ⟨m2, hm2'⟩ := Int.eq_ofNat_of_zero_le he0
            rw [hm2', Int.toNat_natCast] at hct
            simp only [eN] at hej
            have hcs2 := HCS.out.2 m2 ct hct
            have hctI : cntI ct = (cntT ct : Int) := by unfold cntI; rw [capN_small (by omega)]
            rw [hctI] at hcs2
            have hm2l := hct.lt
            have hm2I : (m2 : Int) < (A.length : Int) := by omega
            have hqI : (q : Int) < (y.edges.length : Int) := by omega
            obtain ⟨be, oe, ce, hse, e0, e1⟩ := RdEds.at (HE.out.below hb2) he
            cases hse
            rw [hm2'] at e1
            have hal : Below wr.heap.size wr (wr.alloc (.cells #[bv e.1, .int .i64 m2] tAE)) := (Below.refl _ _).alloc (Nat.le_refl _) _
            have c1 := cell_row (HRD.out.below (lk' hb2 hal)) hcs2
            have HB3 := Lib.hid (lk' hb2 hal)
            have HCT := Lib.hid hct
            have HR := Lib.hid hr
            have HNX := Lib.hid hnx
            have HOK := Lib.hid hok
            have HED := Lib.hid (And.intro he hm2')
            clear hut he hct hr hcs2 hctI he0 hm2' hnx hok hb2 hal
            rcases Nat.lt_trichotomy e.1.toNat x.toNat with hlt' | heq | hgt
            · have hltI : (e.1.toNat : Int) < (x.toNat : Int) := by omega
              have hne : e.1 ≠ x := fun h => by rw [h] at hlt'; omega
              simp only [lowE] at hsum
              rw [if_pos hlt'] at hsum
              have hwr : IntKind.i64.wrap ((lo : Int) + (cntT ct : Nat)) = ((lo + cntT ct : Nat) : Int) := by rw [IntKind.wrap_i64] <;> omega
              (repeat' (first | (go_big_may; fail) | go_values | go_skip | go_guarded | go_step | go_upon | go_back | dsimp only))
              go_quiet (fail)
              (repeat' (first | (go_big_may; fail) | go_values | go_skip | go_guarded | go_step | go_upon | go_back | dsimp only))
              go_roundw
              case rel => exact ⟨q + 1, lo + cntT ct, m, r, _, by simp, by simp, rfl, by omega, HR.out, HOK.out.2.2.2, by omega, by omega, HNX.out.on hne, below_drewN HB3.out _⟩
              case measure => simp [intOf] <;> omega
            · have hxe : e.1 = x := UInt8.toNat_inj.1 heq
              have hnl : ¬ (e.1.toNat < x.toNat) := by omega
              simp only [lowE] at hsum
              rw [if_neg hnl, Nat.zero_add] at hsum
              rw [hxe] at e0 HB3
              have HXE := Lib.hid hxe
              clear hxe
              (repeat' (first | (go_big_may; fail) | go_values | go_skip | go_guarded | go_step | go_upon | go_back | dsimp only))
              go_quiet (fail)
              (repeat' (first | (go_big_may; fail) | go_values | go_skip | go_guarded | go_step | go_upon | go_back | dsimp only))
              go_quiet (fail)
              (repeat' (first | (go_big_may; fail) | go_values | go_skip | go_guarded | go_step | go_upon | go_back | dsimp only))
              go_roundw
              case rel => exact ⟨q + 1, lo, m2, r, _, by simp, rfl, rfl, by omega, HR.out, HOK.out.2.2.2, by omega, by omega, HNX.out.here HXE.out HOK.out HCT.out, below_drewN HB3.out _⟩
              case measure => simp [intOf] <;> omega
            · have hltI : ¬ (e.1.toNat : Int) < (x.toNat : Int) := by omega
              have hneI : ((e.1.toNat : Int) == (x.toNat : Int)) = false := by rw [beq_eq_false_iff_ne]; omega
              have hne : e.1 ≠ x := fun h => by rw [h] at hgt; omega
              have hnl : ¬ (e.1.toNat < x.toNat) := by omega
              simp only [lowE] at hsum
              rw [if_neg hnl, Nat.zero_add] at hsum
              (repeat' (first | (go_big_may; fail) | go_values | go_skip | go_guarded | go_step | go_upon | go_back | dsimp only))
              go_quiet (fail)
              (repeat' (first | (go_big_may; fail) | go_values | go_skip | go_guarded | go_step | go_upon | go_back | dsimp only))
              go_quiet (fail)
              (repeat' (first | (go_big_may; fail) | go_values | go_skip | go_guarded | go_step | go_upon | go_back | dsimp only))
              go_roundw
              case rel => exact ⟨q + 1, lo, m, r, _, by simp, rfl, rfl, by omega, HR.out, HOK.out.2.2.2, by omega, by omega, HNX.out.on hne, below_drewN HB3.out _⟩
              case measure => simp [intOf] <;> omega
          · obtain rfl : q = y.edges.length := by omega
            rw [List.drop_eq_nil_of_le (Nat.le_refl _)] at hut
            obtain rfl := hut.nil
            have hto := hnx.fin
            simp only [lowE, Nat.add_zero] at hsum
            unfold StepTo at hto
            clear hut hnx hok hb2
            cases hst : stepE t' x with
            | none =>
              rw [hst] at hto
              dsimp only at hto
              subst hto
              have HST := Lib.hid hst
              clear hst
              (repeat' (first | (go_big_may; fail) | go_values | go_skip | go_guarded | go_step | go_upon | go_back | dsimp only))
              go_ret3
              exact ⟨by rw [HRK.out, HG.out, rankT_none HST.out, hff, show acc + (finN y.final + lowE t' x) = lo from by omega]; rfl, lk' HB0.out HB2.out⟩
            | some c =>
              rw [hst] at hto
              obtain ⟨k2, rfl, hk2⟩ := hto
              have hle := stepE_eN hst
              have HST := Lib.hid hst
              have HK2 := Lib.hid hk2
              have hk2n : ¬ (k2 : Int) < 0 := by omega
              clear hst hk2
              (repeat' (first | (go_big_may; fail) | go_values | go_skip | go_guarded | go_step | go_upon | go_back | dsimp only))
              go_roundw
              case rel => exact ⟨i + 1, k2, lo, c, by simp, rfl, rfl, by omega, HK2.out, by rw [HRK.out, HG.out, rankT_some HST.out, hff]; simp <;> omega, by omega, HB2.out⟩
              case measure => simp [intOf] <;> omega
    · obtain rfl : i = s.size := by omega
      (repeat' (first | (go_big_may; fail) | go_values | go_skip | go_guarded | go_step | go_upon | go_back | dsimp only))
      go_quiet (fail)
      (repeat' (first | (go_big_may; fail) | go_values | go_skip | go_guarded | go_step | go_upon | go_back | dsimp only))
      go_ret3
      exact ⟨by rw [HRK.out, List.drop_eq_nil_of_le (by simp), ← HFIN.out]; rfl, lk' HB0.out (below_drewN HB.out _)⟩
end

section
open Go.RowKit

set_option maxRecDepth 100000 in
set_option maxHeartbeats 3200000 in
theorem RRank_calls {w : World} {A : List Sta} {va : Value} (hA : RdAut w va A) (hl : A.length + edgesN A ≤ 1048576) {t : Trie} (ht : Unf A 0 t) (hc : cntT t ≤ 1099511627776) (s : ByteArray) (hs : s.size ≤ 1048576)
    {g : Nat} {cs : List Int} (hcs : CntL A cs) (hrd : RdRow w (.slice (some ⟨g, 0, none⟩) A.length A.length) A.length 1 (intsI cs)) :
    Calls Try.prog 23 #[va, .slice (some ⟨g, 0, none⟩) A.length A.length, .string s] w fun e w' => e = .returned (.tuple #[.int .i64 ((rankT t s.data.toList).1 : Nat), .bool (rankT t s.data.toList).2]) ∧ Below w.heap.size w w' := by
  obtain ⟨a0, c0, hv, _, hc0⟩ := hA.shape
  unfold maxLen at hc0
  have HA0 := Lib.hid hA
  have HT := Lib.hid ht
  have HCS := Lib.hid hcs
  have HRD := Lib.hid hrd
  have hN : A.length ≤ 1048576 := by omega
  clear hA ht hcs hrd
  subst hv
  go_enter Try.func23, Try.ntmps23
  (repeat' (first | (go_big_may; fail) | go_values | go_skip | go_guarded | go_step | go_upon | go_back | dsimp only))
  go_loopw [8, 9, 10] (fun vb vk vi wr => ∃ (i k acc : Nat) (t' : Trie), vi = .int .i64 i ∧ vk = .int .i64 k ∧ vb = .int .i64 acc ∧ i ≤ s.size ∧ Unf A k t' ∧ rankT t s.data.toList = (acc + (rankT t' (s.data.toList.drop i)).1, (rankT t' (s.data.toList.drop i)).2) ∧ acc + cntT t' ≤ cntT t ∧ Below w.heap.size w wr) (fun _ _ vi _ => s.size - (intOf vi).toNat)
  case atStart => exact ⟨0, 0, 0, t, rfl, rfl, rfl, Nat.zero_le _, HT.out, by simp, by omega, Below.refl _ _⟩
  case round =>
    obtain ⟨i, k, acc, t', rfl, rfl, rfl, hi, hk, hrk, hcnt, hb⟩ := hrel
    have HRK := Lib.hid hrk
    have HB := Lib.hid hb
    have HK := Lib.hid hk
    have hkl := hk.lt
    have hkI : (k : Int) < (A.length : Int) := by omega
    obtain ⟨y, hy, hu⟩ := hk
    obtain ⟨b, off, cap, u, hsv, d0, d1, hue⟩ := HA0.out.at hy
    obtain ⟨ua, uc, rfl, _, huc⟩ := hue.shape
    unfold maxLen at huc
    cases hsv
    replace d0 := (hb.cell (World.block_lt_of_cell? _ _ d0)).trans d0
    have D1 := Lib.hid d1
    have hel := edgesN_le hy
    have HU := Lib.hid hu
    have HFIN := Lib.hid hu.final
    have HE := Lib.hid (show RdEds w (.slice ua y.edges.length uc) y.edges from hue)
    clear hrk hb hy hu hue d1
    by_cases hlt : i < s.size
    · have hiI : (i : Int) < (s.size : Int) := by omega
      have hgi := toList_getElem hlt
      obtain ⟨x, hx⟩ : ∃ x, s[i] = x := ⟨_, rfl⟩
      rw [hx] at hgi
      have HG := Lib.hid (drop_at hgi)
      clear hgi
      have hcE := cntT_eN t'
      have hlo := lowE_eN x t'
      have hff : finN t'.final = finN y.final := by rw [HFIN.out]
      go_upto_if 22 with (fail)
      go_cut [8] (fun vm wx => vm = .int .i64 (acc + finN y.final : Nat) ∧ wx = wr)
      case first =>
        refine wp_norm ?_
        rename_i J K' hJ hK
        have HJ := Lib.hid hJ
        have HK' := Lib.hid hK
        clear hJ hK
        cases hf : y.final with
        | true =>
          have hwr : IntKind.i64.wrap ((acc : Int) + 1) = ((acc + 1 : Nat) : Int) := by rw [IntKind.wrap_i64] <;> omega
          rw [hf] at d0
          (repeat' (first | (go_big_may; fail) | go_values | go_skip | go_guarded | go_step | go_upon | go_back | dsimp only))
          refine HK'.out _ _ ?_
          have hJ := HJ.out
          go_meet
          case rel => exact ⟨by rw [hf]; simp [finN], rfl⟩
        | false =>
          rw [hf] at d0
          (repeat' (first | (go_big_may; fail) | go_values | go_skip | go_guarded | go_step | go_upon | go_back | dsimp only))
          refine HK'.out _ _ ?_
          have hJ := HJ.out
          go_meet
          case rel => exact ⟨by rw [hf]; simp [finN], rfl⟩
      case rest =>
        obtain ⟨rfl, rfl⟩ := hcut
        (repeat' (first | (go_big_may; fail) | go_values | go_skip | go_guarded | go_step | go_upon | go_back | dsimp only))
        go_loopw [8, 11] (fun vb vq wi => ∃ (q lo : Nat) (tj : Trie), vq = .int .i64 q ∧ vb = .int .i64 lo ∧ q ≤ y.edges.length ∧ UnfE A tj y.final (y.edges.drop q) ∧ lo + lowE tj x = acc + finN y.final + lowE t' x ∧ eN tj ≤ eN t' ∧ Below w.heap.size w wi) (fun _ vq _ => y.edges.length - (intOf vq).toNat)
        case atStart => exact ⟨0, _, t', rfl, rfl, Nat.zero_le _, HU.out, rfl, Nat.le_refl _, HB.out⟩
        case round =>
          obtain ⟨q, lo, tj, rfl, rfl, hq, hut, hsum, hej, hb2⟩ := hrel
          have HB2 := Lib.hid hb2
          have d1 := (hb2.cell (World.block_lt_of_cell? _ _ D1.out)).trans D1.out
          by_cases hlq : q < y.edges.length
          · obtain ⟨e, he⟩ : ∃ e, y.edges[q]? = some e := ⟨_, List.getElem?_eq_getElem hlq⟩
            rw [drop_at he] at hut
            obtain ⟨ct, r, rfl, he0, hct, hr⟩ := hut.cons
            obtain ⟨m2, hm2'⟩ := Int.eq_ofNat_of_zero_le he0
            rw [hm2', Int.toNat_natCast] at hct
            simp only [eN] at hej
            have hcs2 := HCS.out.2 m2 ct hct
            have hctI : cntI ct = (cntT ct : Int) := by unfold cntI; rw [capN_small (by omega)]
            rw [hctI] at hcs2
            have hm2l := hct.lt
            have hm2I : (m2 : Int) < (A.length : Int) := by omega
            have hqI : (q : Int) < (y.edges.length : Int) := by omega
            obtain ⟨be, oe, ce, hse, e0, e1⟩ := RdEds.at (HE.out.below hb2) he
            cases hse
            rw [hm2'] at e1
            have c1 := cell_row (HRD.out.below hb2) hcs2
            have HR := Lib.hid hr
            clear hut he hct hr hcs2 hctI he0 hm2' hb2
            by_cases hlt' : e.1.toNat < x.toNat
            · have hltI : (e.1.toNat : Int) < (x.toNat : Int) := by omega
              simp only [lowE] at hsum
              rw [if_pos hlt'] at hsum
              have hwr : IntKind.i64.wrap ((lo : Int) + (cntT ct : Nat)) = ((lo + cntT ct : Nat) : Int) := by rw [IntKind.wrap_i64] <;> omega
              (repeat' (first | (go_big_may; fail) | go_values | go_skip | go_guarded | go_step | go_upon | go_back | dsimp only))
              go_quiet (fail)
              (repeat' (first | (go_big_may; fail) | go_values | go_skip | go_guarded | go_step | go_upon | go_back | dsimp only))
              go_roundw
              case rel => exact ⟨q + 1, lo + cntT ct, r, by simp, by simp, by omega, HR.out, by omega, by omega, below_drewN HB2.out _⟩
              case measure => simp [intOf] <;> omega
            · have hltI : ¬ (e.1.toNat : Int) < (x.toNat : Int) := by omega
              simp only [lowE] at hsum
              rw [if_neg hlt', Nat.zero_add] at hsum
              (repeat' (first | (go_big_may; fail) | go_values | go_skip | go_guarded | go_step | go_upon | go_back | dsimp only))
              go_quiet (fail)
              (repeat' (first | (go_big_may; fail) | go_values | go_skip | go_guarded | go_step | go_upon | go_back | dsimp only))
              go_roundw
              case rel => exact ⟨q + 1, lo, r, by simp, rfl, by omega, HR.out, by omega, by omega, below_drewN HB2.out _⟩
              case measure => simp [intOf] <;> omega
          · obtain rfl : q = y.edges.length := by omega
            rw [List.drop_eq_nil_of_le (Nat.le_refl _)] at hut
            obtain rfl := hut.nil
            simp only [lowE, Nat.add_zero] at hsum
            have HS := Lib.hid (RStep_calls (HA0.out.below hb2) hl HK.out x)
            clear hut hb2
            (repeat' (first | (go_big_may; fail) | go_values | go_skip | go_guarded | go_step | go_upon | go_back | dsimp only))
            refine HS.out.mono ?_
            rintro e1 w1 ⟨m, rfl, hm, hb1⟩
            have HB1 := Lib.hid (lk' HB2.out hb1)
            clear hb1 HS
            unfold StepTo at hm
            cases hst : stepE t' x with
            | none =>
              rw [hst] at hm
              dsimp only at hm
              subst hm
              have HST := Lib.hid hst
              clear hst
              (repeat' (first | (go_big_may; fail) | go_values | go_skip | go_guarded | go_step | go_upon | go_back | dsimp only))
              go_ret2
              exact ⟨by rw [HRK.out, HG.out, rankT_none HST.out, hff, show acc + (finN y.final + lowE t' x) = lo from by omega]; rfl, HB1.out⟩
            | some c =>
              rw [hst] at hm
              obtain ⟨k2, rfl, hk2⟩ := hm
              have hle := stepE_eN hst
              have HST := Lib.hid hst
              have HK2 := Lib.hid hk2
              have hk2n : ¬ (k2 : Int) < 0 := by omega
              clear hst hk2
              (repeat' (first | (go_big_may; fail) | go_values | go_skip | go_guarded | go_step | go_upon | go_back | dsimp only))
              go_roundw
              case rel => exact ⟨i + 1, k2, lo, c, by simp, rfl, rfl, by omega, HK2.out, by rw [HRK.out, HG.out, rankT_some HST.out, hff]; simp <;> omega, by omega, HB1.out⟩
              case measure => simp [intOf] <;> omega
    · obtain rfl : i = s.size := by omega
      (repeat' (first | (go_big_may; fail) | go_values | go_skip | go_guarded | go_step | go_upon | go_back | dsimp only))
      go_quiet (fail)
      (repeat' (first | (go_big_may; fail) | go_values | go_skip | go_guarded | go_step | go_upon | go_back | dsimp only))
      go_ret2
      exact ⟨by rw [HRK.out, List.drop_eq_nil_of_le (by simp), ← HFIN.out]; rfl, below_drewN HB.out _⟩
set_option maxRecDepth 100000 in
set_option maxHeartbeats 1600000 in
theorem Rank_bad {w : World} {A : List Sta} {va : Value} (hA : RdAut w va A) (hl : A.length + edgesN A ≤ 1048576) (hs : shapeB A = false) (s : ByteArray) :
    Calls Try.prog 22 #[va, .string s] w fun e w' => e = .returned (.tuple #[.int .i64 0, .bool false, .int .i64 190]) ∧ Below w.heap.size w w' := by
  have HC := Lib.hid (counted_bad hA hl hs)
  clear hA hl hs
  go_enter Try.func22, Try.ntmps22
  (repeat' (first | (go_big_may; fail) | go_values | go_skip | go_guarded | go_step | go_upon | go_back | dsimp only))
  refine HC.out.mono ?_
  rintro e1 w1 ⟨rfl, hb1⟩
  have HB1 := Lib.hid hb1
  clear hb1
  (repeat' (first | (go_big_may; fail) | go_values | go_skip | go_guarded | go_step | go_upon | go_back | dsimp only))
  go_ret3
  exact ⟨rfl, HB1.out⟩
set_option maxRecDepth 100000 in
set_option maxHeartbeats 1600000 in
theorem Rank_many {w : World} {A : List Sta} {va : Value} (hA : RdAut w va A) (hl : A.length + edgesN A ≤ 1048576) (hs : shapeB A = true) {t : Trie} (ht : Unf A 0 t) (hc : 1099511627776 < cntT t) (s : ByteArray) :
    Calls Try.prog 22 #[va, .string s] w fun e w' => e = .returned (.tuple #[.int .i64 0, .bool false, .int .i64 191]) ∧ Below w.heap.size w w' := by
  have HC := Lib.hid (counted_many hA hl hs ht hc)
  clear hA hl hs ht
  go_enter Try.func22, Try.ntmps22
  (repeat' (first | (go_big_may; fail) | go_values | go_skip | go_guarded | go_step | go_upon | go_back | dsimp only))
  refine HC.out.mono ?_
  rintro e1 w1 ⟨rfl, hb1⟩
  have HB1 := Lib.hid hb1
  clear hb1
  (repeat' (first | (go_big_may; fail) | go_values | go_skip | go_guarded | go_step | go_upon | go_back | dsimp only))
  go_ret3
  exact ⟨rfl, HB1.out⟩
end
end Go.Proofs.Ythjkfiniafblbaa
