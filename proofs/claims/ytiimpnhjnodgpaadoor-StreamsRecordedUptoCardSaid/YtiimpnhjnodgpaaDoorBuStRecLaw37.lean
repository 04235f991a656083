/- StreamsRecorded walked. -/
import Derived.Test.YtiimpnhjnodgpaaDoorBuStRecLaw36
import Derived.Test.YtiimpnhjnodgpaaDoorBuStRecLaw28
import Derived.Test.YtiimpnhjnodgpaaDoorBuStRecLaw22
import Derived.Test.YtiimpnhjnodgpaaDoorCards
import Derived.Test.YtiimpnhjnodgpaaDoorTie
import Derived.Deep.DeepHandedRow
import Derived.Deep.DeepWitnessRowRef
import Derived.LaidMore
import Derived.LaidEql
namespace Go.Proofs.YtiimpnhjnodgpaaDoor
open Go.RowKit

theorem cat_app (x t : List UInt8) : (⟨x.toArray⟩ : ByteArray) ++ ⟨t.toArray⟩ = ⟨(x ++ t).toArray⟩ := by
  apply ByteArray.ext
  simp [ByteArray.data_append]
set_option maxRecDepth 100000 in
set_option maxHeartbeats 1600000 in
theorem texts_calls (ss : List (List UInt8)) (v : Value) (w : World) (hv : RdRow w v ss.length 1 (strs ss)) (hlen : (cat ss).length ≤ 8796093022208) {k0 a0 b0 : Int} (hk : k0 ≠ 6) :
    Calls Tryd.prog 9 #[.agg #[.int .i64 k0, .int .i64 a0, .int .i64 b0, v]] w fun e w' => ∃ v', e = .returned (.tuple #[v', .string ⟨(cat ss).toArray⟩]) ∧
      w'.ownsRow w.heap.size 9 1 v' (risB none (headsL (cat ss)).1).length (strs (risB none (headsL (cat ss)).1)) ∧ Below w.heap.size w w' := by
  obtain ⟨a, cap, rfl, hc1, hc2⟩ := hv.shape
  unfold maxLen at hc2
  have hb0 : Below w.heap.size w (w.alloc (.cells #[.int .i64 k0, .int .i64 a0, .int .i64 b0, .slice a ss.length cap] 39)) := (Below.refl _ _).alloc (Nat.le_refl _) _
  have HV := Lib.hid (hv.below hb0)
  have hx := heap_alloc_new w (.cells #[.int .i64 k0, .int .i64 a0, .int .i64 b0, .slice a ss.length cap] 39)
  have c0 := cell_at hx 0
  have c3 := cell_at hx 3
  have hkb : (k0 == 6) = false := beq_eq_false_iff_ne.2 hk
  have HB0 := Lib.hid hb0
  clear hv hx hk hb0
  go_enter Tryd.func9, Tryd.ntmps9
  (repeat' (first | (go_big_may; fail) | go_values | go_skip | go_guarded | go_step | go_upon | go_back | dsimp only))
  generalize hw1 : w.alloc (.cells #[.int .i64 k0, .int .i64 a0, .int .i64 b0, .slice a ss.length cap] 39) = w1 at *
  clear c0 c3 hw1
  go_loop [4, 21] (fun x i => ∃ k : Nat, i = .int .i64 k ∧ k ≤ ss.length ∧ x = .string ⟨(cat (ss.take k)).toArray⟩) (fun _ i => ss.length - (intOf i).toNat)
  case atStart => exact ⟨0, rfl, Nat.zero_le _, rfl⟩
  case round =>
    obtain ⟨k, rfl, hk, rfl⟩ := hrel
    by_cases hlt : k < ss.length
    · obtain ⟨x, hx⟩ : ∃ x, ss[k]? = some x := ⟨_, List.getElem?_eq_getElem hlt⟩
      obtain ⟨b, off, cp, hsl, hcell⟩ := HV.out.str hx
      cases hsl
      have HT := Lib.hid (cat_at hx)
      have hl1 := cat_take_le ss (k + 1)
      rw [HT.out, List.length_append] at hl1
      have hsum : ¬ 9223372036854775807 < (cat (ss.take k)).length + x.length := by omega
      have hca := cat_app (cat (ss.take k)) x
      have hi0 : (0 : Int) ≤ k := by omega
      have hi1 : (k : Int) < ss.length := by omega
      clear hx
      (repeat' (first | (go_big_may; fail) | go_values | go_skip | go_guarded | go_step | go_upon | go_back | dsimp only))
      go_round
      case rel => exact ⟨k + 1, by go_num, hlt, by rw [HT.out]⟩
      case measure => simp [intOf] <;> omega
    · obtain rfl : k = ss.length := by omega
      rw [List.take_of_length_le (Nat.le_refl _)]
      have HH := Lib.hid (Heads_calls ⟨(cat ss).toArray⟩ w1 (by simpa [ByteArray.size] using hlen))
      have hln := headsL_len (cat ss)
      (repeat' (first | (go_big_may; fail) | go_values | go_skip | go_guarded | go_step | go_upon | go_back | dsimp only))
      refine HH.out.mono ?_
      rintro e w2 ⟨v2, rfl, hown, hb2⟩
      obtain ⟨ao, cp, rfl, _, _⟩ := own_shape hown
      have hri := Rising_calls (headsL (cat ss)).1 (.slice ao (headsL (cat ss)).1.length cp) w2 (RdRow.of_own hown) (by omega)
      have HRI := Lib.hid hri
      have HB2 := Lib.hid (HB0.out.trans (hb2.mono HB0.out.size))
      clear hri hown hb2 HH HV
      (repeat' (first | (go_big_may; fail) | go_values | go_skip | go_guarded | go_step | go_upon | go_back | dsimp only))
      refine HRI.out.mono ?_
      rintro e w3 ⟨v3, rfl, hown3, hb3⟩
      obtain ⟨ao3, cp3, rfl, _, _⟩ := own_shape hown3
      (repeat' (first | (go_big_may; fail) | go_values | go_skip | go_guarded | go_step | go_upon | go_back | dsimp only))
      go_ret2
      exact ⟨_, rfl, ownsRow_base hown3 HB2.out.size, HB2.out.trans (hb3.mono HB2.out.size)⟩
theorem At.noughtM {W w : World} {R : Thing} (h : At W w R) (hR : Stable R) : At W w (Both Nought R) := h.add hR (Below.refl _ _) (fp := []) rfl (by simp)
theorem read_oSt {cap : Nat} {t : List UInt8} (z : Int) : readC (oSt cap t) z 0 0 = if z = 1 then 5 else 3 := by
  unfold readC oSt St.find
  by_cases h : z = 1
  · subst h; simp
  · rw [if_neg h]
    have : ¬ (1 : Int) = z := fun e => h e.symm
    simp [this]
theorem has_cSt (cap : Nat) (T : List UInt8) : HasT (cSt cap T) 1 T := ⟨(1, ⟨T, true⟩), rfl, rfl⟩
theorem sum_cat (ss : List (List UInt8)) : (cat ss).length = sumLen ss := by simp [cat, sumLen, List.length_flatten]
set_option maxRecDepth 100000 in
set_option maxHeartbeats 4000000 in
theorem streamsRecorded_walk (W : World) (ef : Nat → Nat × Nat) (hF : Fails W ef fails10) (ss : List (List UInt8)) (v : Value) (rd : RdRow W v ss.length 1 (strs ss)) (hm : ss.length + sumLen ss ≤ 1048576) (run : Int) (hrun : -9223372036854775808 ≤ run ∧ run ≤ 9223372036854775807) :
    Calls Tryd.prog 3 #[v, .int .i64 run] W fun e w' => e = .returned (.bool true) ∧ Below W.heap.size W w' := by
  obtain ⟨a, cap, rfl, hc1, hc2⟩ := rd.shape
  unfold maxLen at hc2
  have hcl := sum_cat ss
  have h0 := At.nought (Below.refl W.heap.size W)
  have HN := Lib.hid (New_at h0 Stable.nought (c := ((1048576 : Nat) : Int)) (by unfold inI64; omega))
  have RD := Lib.hid rd
  clear rd h0
  go_enter Tryd.func3, Tryd.ntmps3
  (repeat' (first | (go_big_may; fail) | go_values | go_skip | go_guarded | go_step | go_upon | go_back | dsimp only))
  refine HN.out.mono ?_
  rintro e w1 ⟨rfl, h1⟩
  have H1 := Lib.hid h1
  have HRN := Lib.hid (Records_nil (hF.below h1.below) 1)
  clear h1 HN
  generalize hb : W.heap.size + 1 = b at *
  (repeat' (first | (go_big_may; fail) | go_values | go_skip | go_guarded | go_step | go_upon | go_back | dsimp only))
  refine HRN.out.mono ?_
  rintro e w2 ⟨rfl, hb2⟩
  have h2 := H1.out.mono ((StoreT.stable _ _).both Stable.nought) hb2
  have hst2 := (StoreT.stable b (newSt ((1048576 : Nat) : Int))).both Stable.nought
  have h3 := h2.newCell hst2 #[.nilFunc] tStr
  have c3 := h3.cellF (o := 0) (u := .nilFunc) rfl
  have c3a := c3.1
  have c3b := c3.2.1
  have h4 := h3.drop
  have cg := (hF.below h4.below).cell (1, 0) (by decide)
  have H4 := Lib.hid h4
  have q1 := fun wz : World => neq_same (⟨(ef 1).1, (ef 1).2, none⟩ : Addr) wz
  clear h2 h3 h4 c3 hb2 H1 HRN
  (repeat' (first | (go_big_may; fail) | go_values | go_skip | go_guarded | go_step | go_upon | go_back | dsimp only))
  have hcn := create_new (n := 1048576) (by omega)
  have hcr := Create_7 H4.out Stable.nought (fails10_7 hF)
  rw [hcn, errV_zero] at hcr
  have HCR := Lib.hid hcr
  clear hcr hcn cg H4 c3a c3b q1
  (repeat' (first | (go_big_may; fail) | go_values | go_skip | go_guarded | go_step | go_upon | go_back | dsimp only))
  refine HCR.out.mono ?_
  rintro e w5 ⟨rfl, h5⟩
  dsimp only at h5
  have hr5 := read_oSt (cap := 1048576) (t := []) 1
  rw [if_pos rfl] at hr5
  have hrf := Records_fail h5 Stable.nought hF (z := 1) (by rw [hr5]; decide) (by unfold inI64; omega)
  rw [hr5, errV_pos ef (by decide)] at hrf
  have HRF := Lib.hid hrf
  clear hrf hr5 h5 HCR
  (repeat' (first | (go_big_may; fail) | go_values | go_skip | go_guarded | go_step | go_upon | go_back | dsimp only))
  refine HRF.out.mono ?_
  rintro e w6 ⟨rfl, h6⟩
  have cg := (hF.below h6.below).cell (5, 1) (by decide)
  have H6 := Lib.hid h6
  have q5 := fun wz : World => neq_same (⟨(ef 5).1, (ef 5).2, none⟩ : Addr) wz
  clear h6 HRF
  by_cases hr1 : run = 1
  · subst hr1
    (repeat' (first | (go_big_may; fail) | go_values | go_skip | go_guarded | go_step | go_upon | go_back | dsimp only))
    have htx := texts_calls ss (.slice a ss.length cap) w6 (RD.out.below H6.out.below) (by omega) (k0 := 0) (a0 := 0) (b0 := 0) (by decide)
    have HTX := Lib.hid htx
    clear htx
    refine HTX.out.mono ?_
    rintro e w9 ⟨vt, rfl, ho9, hb9⟩
    have hst9 := (StoreT.stable b (oSt 1048576 [])).both Stable.nought
    have h9 := H6.out.newRowG hst9 hb9 ho9
    clear HTX ho9 hb9
    have hln := headsL_len (cat ss)
    have hrl := risB_len none (headsL (cat ss)).1
    obtain ⟨L, hL⟩ : ∃ L, risB none (headsL (cat ss)).1 = L := ⟨_, rfl⟩
    obtain ⟨T, hT⟩ : ∃ T, cat ss = T := ⟨_, rfl⟩
    have HLT := Lib.hid (And.intro hL hT)
    rw [hL] at h9 hrl
    rw [hT] at hln hcl hrl
    obtain ⟨at9, cp9, rfl, _, _⟩ := own_shape h9.rowG
    have hst9r := (RowG.stable tTx 1 (.slice at9 L.length cp9) L.length (strs L)).both hst9
    have h10 := h9.alloc hst9r (.cells #[.string ⟨T.toArray⟩] 9)
    have hbs : b < w9.heap.size := by
      obtain ⟨mb, blk, val, h1, _⟩ := h9.drop.store
      exact h1.lt b (by simp [fpS])
    have hv : ∀ w', Upd [b] (w9.alloc (.cells #[.string ⟨T.toArray⟩] 9)) w' → RdRow w' (.slice (some ⟨w9.heap.size, 0, none⟩) 1 1) [T].length 1 (strs [T]) := fun w' hu => by
      refine ⟨rfl, _, 1, rfl, Nat.le_refl _, by simp [maxLen], fun j u hj => ?_⟩
      have hb := hu.block w9.heap.size (by simp) (by simp; omega)
      match j with
      | 0 =>
        simp at hj
        subst hj
        refine ⟨_, _, rfl, ?_⟩
        exact cell_at (hb.trans (heap_alloc_new w9 (.cells #[.string ⟨T.toArray⟩] 9))) 0
      | j + 1 => simp at hj
    have hap := Append_7 h10.swap ((RowG.stable tTx 1 (.slice at9 L.length cp9) L.length (strs L)).both Stable.nought) (fails10_7 hF) (z := ((1 : Nat) : Int)) (by unfold inI64; omega) (inv_I1.le _ (I1_oSt _ _) _) hv (by rw [cat_one]; omega)
    have hao := append_oSt (cap := 1048576) (t := []) (s := T) (by simp only [List.length_nil]; omega)
    rw [cat_one, show (((1 : Nat) : Nat) : Int) = 1 from rfl, hao, errV_zero] at hap
    have HAP := Lib.hid hap
    have neqn : ∀ wz : World, (binOp .neq tErr .nilIface .nilIface).run Tryd.prog wz = .ok (.bool false) wz := fun wz => neq_nil wz
    clear hap hao hv h10 h9 H6 hst9r hst9
    rw [hT]
    (repeat' (first | (go_big_may; fail) | go_values | go_skip | go_guarded | go_step | go_upon | go_back | dsimp only))
    refine HAP.out.mono ?_
    rintro e w10 ⟨rfl, h11⟩
    simp only [List.nil_append] at h11
    have hse := Seal_7 h11 ((RowG.stable tTx 1 (.slice at9 L.length cp9) L.length (strs L)).both Stable.nought) (fails10_7 hF) (z := 1) (by unfold inI64; omega)
    rw [seal_oSt, errV_zero] at hse
    have HSE := Lib.hid hse
    clear hse HAP h11
    (repeat' (first | (go_big_may; fail) | go_values | go_skip | go_guarded | go_step | go_upon | go_back | dsimp only))
    refine HSE.out.mono ?_
    rintro e w11 ⟨rfl, h12⟩
    dsimp only at h12
    have HRO := Lib.hid (Records_ok h12 ((RowG.stable tTx 1 (.slice at9 L.length cp9) L.length (strs L)).both Stable.nought) hF (z := 1) (has_cSt 1048576 T) (by unfold inI64; omega))
    clear h12 HSE
    (repeat' (first | (go_big_may; fail) | go_values | go_skip | go_guarded | go_step | go_upon | go_back | dsimp only))
    refine HRO.out.mono ?_
    rintro e w12 ⟨bs, bz, rfl, h13⟩
    have hsq := records1_seqs (W := W) hF (has_cSt 1048576 T) (z := 1) (by unfold inI64; omega) (by omega) bs bz b
    rw [← HLT.out.2, HLT.out.1] at hsq
    have hst13 := (RecsT.stable bs bz b 1 (cSt 1048576 (cat ss))).both ((RowG.stable tTx 1 (.slice at9 L.length cp9) L.length (strs L)).both Stable.nought)
    have hstr : IsStr W (RecsT bs bz b 1 (cSt 1048576 (cat ss))) (.func (.func 18) #[] #[.pointer (some ⟨bs, 0, none⟩), .pointer (some ⟨bz, 0, none⟩)]) L :=
      .inr ⟨_, _, rfl, enters_of Tryd.func18 (by kernel_rfl) rfl, hsq⟩
    have h14 : At W w12 (Both (RecsT bs bz b 1 (cSt 1048576 (cat ss))) (Both (RowG tTx 1 (.slice at9 L.length cp9) L.length (strs L)) Nought)) := by
      rw [HLT.out.2]; exact h13.perm (by unfold RecsT; ac_rfl)
    obtain ⟨hstk, h15⟩ := h14.keepStr (RecsT.stable bs bz b 1 _) ((RowG.stable tTx 1 (.slice at9 L.length cp9) L.length (strs L)).both Stable.nought) hstr.one
    have hR15 := (CellT.stable w12.heap.size #[.func (.func 18) #[] #[.pointer (some ⟨bs, 0, none⟩), .pointer (some ⟨bz, 0, none⟩)]] tStr).both ((RowG.stable tTx 1 (.slice at9 L.length cp9) L.length (strs L)).both Stable.nought)
    have HIS := Lib.hid (fun (w' : World) (h' : At W w' (Both (RecsT bs bz b 1 (cSt 1048576 (cat ss))) (Both (CellT w12.heap.size #[.func (.func 18) #[] #[.pointer (some ⟨bs, 0, none⟩), .pointer (some ⟨bz, 0, none⟩)]] tStr) (Both (RowG tTx 1 (.slice at9 L.length cp9) L.length (strs L)) Nought)))) =>
      is_at hstr (RecsT.stable bs bz b 1 _) hR15 h' (by omega) (fun w'' h'' => RdRow.of_own h''.drop.drop.rowG))
    have H15 := Lib.hid h15
    have c15 := (h15.drop.cellF (o := 0) (u := .func (.func 18) #[] #[.pointer (some ⟨bs, 0, none⟩), .pointer (some ⟨bz, 0, none⟩)]) rfl).1
    have eqn : ∀ wz : World, (binOp .eql tErr .nilIface .nilIface).run Tryd.prog wz = .ok (.bool true) wz := fun wz => eql_nil wz
    clear h13 h14 h15 hstr hsq hst13 hR15 HRO hT
    (repeat' (first | (go_big_may; fail) | go_values | go_skip | go_guarded | go_step | go_upon | go_back | dsimp only))
    clear hstk
    refine (HIS.out _ H15.out).mono ?_
    rintro e w16 ⟨rfl, h16⟩
    have c16 := (h16.drop.cellF (o := 0) (u := .func (.func 18) #[] #[.pointer (some ⟨bs, 0, none⟩), .pointer (some ⟨bz, 0, none⟩)]) rfl).1
    have H16 := Lib.hid h16
    clear h16 H15 c15
    (repeat' (first | (go_big_may; fail) | go_values | go_skip | go_guarded | go_step | go_upon | go_back | dsimp only))
    refine (HIS.out _ H16.out).mono ?_
    rintro e w17 ⟨rfl, h17⟩
    have HB := Lib.hid h17.below
    clear h17 H16 c16
    (repeat' (first | (go_big_may; fail) | go_values | go_skip | go_guarded | go_step | go_upon | go_back | dsimp only))
    go_ret
    exact ⟨rfl, HB.out⟩
  · have hrb : (run == 1) = false := beq_eq_false_iff_ne.2 hr1
    have hrn : (run != 1) = true := by simp [bne, hrb]
    have hr5 := read_oSt (cap := 1048576) (t := []) run
    rw [if_neg hr1] at hr5
    have hrf := Records_fail H6.out Stable.nought hF (z := run) (by rw [hr5]; decide) hrun
    rw [hr5, errV_pos ef (by decide)] at hrf
    have HRF := Lib.hid hrf
    clear hrf hr5 hr1
    (repeat' (first | (go_big_may; fail) | go_values | go_skip | go_guarded | go_step | go_upon | go_back | dsimp only))
    clear q5 cg
    refine HRF.out.mono ?_
    rintro e w7 ⟨rfl, h7⟩
    have hst7 := (StoreT.stable b (oSt 1048576 [])).both Stable.nought
    have h8 := h7.newCell hst7 #[.nilFunc] tStr
    have c8 := h8.cellF (o := 0) (u := .nilFunc) rfl
    have c8a := c8.1
    have c8b := c8.2.1
    have cg := (hF.below h8.below).cell (3, 2) (by decide)
    have q3 := fun wz : World => neq_same (⟨(ef 3).1, (ef 3).2, none⟩ : Addr) wz
    have HCN := Lib.hid (Count_at (Φ := Nought) (v := .nilFunc) (L := []) (.inl ⟨rfl, rfl⟩) Stable.nought ((CellT.stable w7.heap.size #[.nilFunc] tStr).both hst7) (h8.noughtM ((CellT.stable _ _ _).both hst7)) (by simp))
    clear h7 c8 HRF H6 h8
    (repeat' (first | (go_big_may; fail) | go_values | go_skip | go_guarded | go_step | go_upon | go_back | dsimp only))
    refine HCN.out.mono ?_
    rintro e w8 ⟨rfl, h9⟩
    have H6 := Lib.hid h9.drop.drop
    clear h9 HCN cg c8a c8b q3
    generalize w8 = w6 at *
    (repeat' (first | (go_big_may; fail) | go_values | go_skip | go_guarded | go_step | go_upon | go_back | dsimp only))
    have htx := texts_calls ss (.slice a ss.length cap) w6 (RD.out.below H6.out.below) (by omega) (k0 := 0) (a0 := 0) (b0 := 0) (by decide)
    have HTX := Lib.hid htx
    clear htx
    refine HTX.out.mono ?_
    rintro e w9 ⟨vt, rfl, ho9, hb9⟩
    have hst9 := (StoreT.stable b (oSt 1048576 [])).both Stable.nought
    have h9 := H6.out.newRowG hst9 hb9 ho9
    clear HTX ho9 hb9
    have hln := headsL_len (cat ss)
    have hrl := risB_len none (headsL (cat ss)).1
    obtain ⟨L, hL⟩ : ∃ L, risB none (headsL (cat ss)).1 = L := ⟨_, rfl⟩
    obtain ⟨T, hT⟩ : ∃ T, cat ss = T := ⟨_, rfl⟩
    have HLT := Lib.hid (And.intro hL hT)
    rw [hL] at h9 hrl
    rw [hT] at hln hcl hrl
    obtain ⟨at9, cp9, rfl, _, _⟩ := own_shape h9.rowG
    have hst9r := (RowG.stable tTx 1 (.slice at9 L.length cp9) L.length (strs L)).both hst9
    have h10 := h9.alloc hst9r (.cells #[.string ⟨T.toArray⟩] 9)
    have hbs : b < w9.heap.size := by
      obtain ⟨mb, blk, val, h1, _⟩ := h9.drop.store
      exact h1.lt b (by simp [fpS])
    have hv : ∀ w', Upd [b] (w9.alloc (.cells #[.string ⟨T.toArray⟩] 9)) w' → RdRow w' (.slice (some ⟨w9.heap.size, 0, none⟩) 1 1) [T].length 1 (strs [T]) := fun w' hu => by
      refine ⟨rfl, _, 1, rfl, Nat.le_refl _, by simp [maxLen], fun j u hj => ?_⟩
      have hb := hu.block w9.heap.size (by simp) (by simp; omega)
      match j with
      | 0 =>
        simp at hj
        subst hj
        refine ⟨_, _, rfl, ?_⟩
        exact cell_at (hb.trans (heap_alloc_new w9 (.cells #[.string ⟨T.toArray⟩] 9))) 0
      | j + 1 => simp at hj
    have hap := Append_7 h10.swap ((RowG.stable tTx 1 (.slice at9 L.length cp9) L.length (strs L)).both Stable.nought) (fails10_7 hF) (z := ((1 : Nat) : Int)) (by unfold inI64; omega) (inv_I1.le _ (I1_oSt _ _) _) hv (by rw [cat_one]; omega)
    have hao := append_oSt (cap := 1048576) (t := []) (s := T) (by simp only [List.length_nil]; omega)
    rw [cat_one, show (((1 : Nat) : Nat) : Int) = 1 from rfl, hao, errV_zero] at hap
    have HAP := Lib.hid hap
    have neqn : ∀ wz : World, (binOp .neq tErr .nilIface .nilIface).run Tryd.prog wz = .ok (.bool false) wz := fun wz => neq_nil wz
    clear hap hao hv h10 h9 H6 hst9r hst9
    rw [hT]
    (repeat' (first | (go_big_may; fail) | go_values | go_skip | go_guarded | go_step | go_upon | go_back | dsimp only))
    refine HAP.out.mono ?_
    rintro e w10 ⟨rfl, h11⟩
    simp only [List.nil_append] at h11
    have hse := Seal_7 h11 ((RowG.stable tTx 1 (.slice at9 L.length cp9) L.length (strs L)).both Stable.nought) (fails10_7 hF) (z := 1) (by unfold inI64; omega)
    rw [seal_oSt, errV_zero] at hse
    have HSE := Lib.hid hse
    clear hse HAP h11
    (repeat' (first | (go_big_may; fail) | go_values | go_skip | go_guarded | go_step | go_upon | go_back | dsimp only))
    refine HSE.out.mono ?_
    rintro e w11 ⟨rfl, h12⟩
    dsimp only at h12
    have HRO := Lib.hid (Records_ok h12 ((RowG.stable tTx 1 (.slice at9 L.length cp9) L.length (strs L)).both Stable.nought) hF (z := 1) (has_cSt 1048576 T) (by unfold inI64; omega))
    clear h12 HSE
    (repeat' (first | (go_big_may; fail) | go_values | go_skip | go_guarded | go_step | go_upon | go_back | dsimp only))
    refine HRO.out.mono ?_
    rintro e w12 ⟨bs, bz, rfl, h13⟩
    have hsq := records1_seqs (W := W) hF (has_cSt 1048576 T) (z := 1) (by unfold inI64; omega) (by omega) bs bz b
    rw [← HLT.out.2, HLT.out.1] at hsq
    have hst13 := (RecsT.stable bs bz b 1 (cSt 1048576 (cat ss))).both ((RowG.stable tTx 1 (.slice at9 L.length cp9) L.length (strs L)).both Stable.nought)
    have hstr : IsStr W (RecsT bs bz b 1 (cSt 1048576 (cat ss))) (.func (.func 18) #[] #[.pointer (some ⟨bs, 0, none⟩), .pointer (some ⟨bz, 0, none⟩)]) L :=
      .inr ⟨_, _, rfl, enters_of Tryd.func18 (by kernel_rfl) rfl, hsq⟩
    have h14 : At W w12 (Both (RecsT bs bz b 1 (cSt 1048576 (cat ss))) (Both (RowG tTx 1 (.slice at9 L.length cp9) L.length (strs L)) Nought)) := by
      rw [HLT.out.2]; exact h13.perm (by unfold RecsT; ac_rfl)
    obtain ⟨hstk, h15⟩ := h14.keepStr (RecsT.stable bs bz b 1 _) ((RowG.stable tTx 1 (.slice at9 L.length cp9) L.length (strs L)).both Stable.nought) hstr.one
    have hR15 := (CellT.stable w12.heap.size #[.func (.func 18) #[] #[.pointer (some ⟨bs, 0, none⟩), .pointer (some ⟨bz, 0, none⟩)]] tStr).both ((RowG.stable tTx 1 (.slice at9 L.length cp9) L.length (strs L)).both Stable.nought)
    have HIS := Lib.hid (fun (w' : World) (h' : At W w' (Both (RecsT bs bz b 1 (cSt 1048576 (cat ss))) (Both (CellT w12.heap.size #[.func (.func 18) #[] #[.pointer (some ⟨bs, 0, none⟩), .pointer (some ⟨bz, 0, none⟩)]] tStr) (Both (RowG tTx 1 (.slice at9 L.length cp9) L.length (strs L)) Nought)))) =>
      is_at hstr (RecsT.stable bs bz b 1 _) hR15 h' (by omega) (fun w'' h'' => RdRow.of_own h''.drop.drop.rowG))
    have H15 := Lib.hid h15
    have c15 := (h15.drop.cellF (o := 0) (u := .func (.func 18) #[] #[.pointer (some ⟨bs, 0, none⟩), .pointer (some ⟨bz, 0, none⟩)]) rfl).1
    have eqn : ∀ wz : World, (binOp .eql tErr .nilIface .nilIface).run Tryd.prog wz = .ok (.bool true) wz := fun wz => eql_nil wz
    clear h13 h14 h15 hstr hsq hst13 hR15 HRO hT
    (repeat' (first | (go_big_may; fail) | go_values | go_skip | go_guarded | go_step | go_upon | go_back | dsimp only))
    clear hstk
    refine (HIS.out _ H15.out).mono ?_
    rintro e w16 ⟨rfl, h16⟩
    have c16 := (h16.drop.cellF (o := 0) (u := .func (.func 18) #[] #[.pointer (some ⟨bs, 0, none⟩), .pointer (some ⟨bz, 0, none⟩)]) rfl).1
    have H16 := Lib.hid h16
    clear h16 H15 c15
    (repeat' (first | (go_big_may; fail) | go_values | go_skip | go_guarded | go_step | go_upon | go_back | dsimp only))
    refine (HIS.out _ H16.out).mono ?_
    rintro e w17 ⟨rfl, h17⟩
    have HB := Lib.hid h17.below
    clear h17 H16 c16
    (repeat' (first | (go_big_may; fail) | go_values | go_skip | go_guarded | go_step | go_upon | go_back | dsimp only))
    go_ret
    exact ⟨rfl, HB.out⟩
end Go.Proofs.YtiimpnhjnodgpaaDoor
