/- streams.Records: the records of a run, up to the first that does not rise, as a stream. -/
import Derived.Test.YtgeabmmicofanaaGreatDoorBuSpLaw40
import Derived.Test.YtgeabmmicofanaaGreatDoorBuSpLaw46
import Derived.Test.YtgeabmmicofanaaGreatDoorBuSpLaw42
import Derived.Test.YtgeabmmicofanaaGreatDoorBuSpLaw05
set_option linter.unusedSimpArgs false
set_option linter.unusedVariables false
namespace Go.Proofs.YtgeabmmicofanaaGreatDoor
open Go.RowKit
attribute [local go_sem] Oper.semAt_some

/-- How many records are left to a reader of the text T. -/
def rdHeads (T : List UInt8) (w : World) (k : Nat) : Nat :=
  match w.cell? ⟨k, 3, none⟩, w.cell? ⟨k, 5, none⟩, w.cell? ⟨k, 6, none⟩ with
  | some (.int _ p), some (.string s), some .nilIface => (headsL (s.data.toList ++ T.drop p.toNat)).1.length
  | _, _, _ => 0
abbrev tSpt : TypeId := 24
theorem rdHeads_eq {W w : World} {R : Thing} {k b : Nat} {ef : Nat → Nat × Nat} {y : RdD} {T : List UInt8} {l : List (List UInt8)} {aft : Nat} (h : At W w (Both (RdT k b ef y) R)) (hs : RSim T y l aft) : rdHeads T w k = l.length := by
  have f := h.rd
  unfold rdHeads
  rw [f.c3, f.c5, f.c6]
  rcases hs.left with ⟨h1, er, h2, _⟩ | ⟨h1, h2, _⟩
  · rw [h1, errV_zero]
    simp only [Int.toNat_natCast]
    rw [h2]
  · rw [h1, errV_pos ef (by decide), h2]; rfl
theorem headsL_lenN : ∀ (n : Nat) (T : List UInt8), T.length ≤ n → (headsL T).1.length ≤ T.length
  | 0, T, h => by
    have : T = [] := List.eq_nil_of_length_eq_zero (by omega)
    rw [this, headsL_nil]; simp
  | n + 1, T, h => by
    by_cases h0 : T = []
    · rw [h0, headsL_nil]; simp
    · by_cases hz : (nextAt T 0).2.2 = 0
      · have hk := nextAt_ok hz
        have hl := List.length_pos_iff.2 h0
        rw [headsL_ok h0 hz]
        have ih := headsL_lenN n (T.drop (nextAt T 0).2.1.toNat) (by rw [List.length_drop]; omega)
        rw [List.length_drop] at ih
        simp only [List.length_cons]
        omega
      · rw [headsL_err h0 hz]; simp
theorem headsL_len (T : List UInt8) : (headsL T).1.length ≤ T.length := headsL_lenN _ T (Nat.le_refl _)
/-- The memory of Records: the boxed store and run, and the store. -/
abbrev RecsT (bs bz b : Nat) (z : Int) (S : St) : Thing := Both (CellT bs #[.pointer (some ⟨b, 0, none⟩)] tSpt) (Both (CellT bz #[.int .i64 z] tInt) (StoreT b S))
theorem RecsT.stable (bs bz b : Nat) (z : Int) (S : St) : Stable (RecsT bs bz b z S) := (CellT.stable _ _ _).both ((CellT.stable _ _ _).both (StoreT.stable _ _))
def lastQ (k : Nat) (H : List (List UInt8)) (x : List UInt8) : Prop := k ≠ 0 → H[k - 1]? = some x
set_option maxRecDepth 100000 in
set_option maxHeartbeats 4000000 in
theorem records1_seqs {W : World} {ef : Nat → Nat × Nat} (hF : Fails W ef fails10) {S : St} {z : Nat} {T : List UInt8} (hT : HasT S z T) (hz : inI64 z) (hl : T.length ≤ 67108864) (bs bz b : Nat) :
    Seqs Tryz.prog encS 55 #[.pointer (some ⟨bs, 0, none⟩), .pointer (some ⟨bz, 0, none⟩)] (risB none (headsL T).1) W (RecsT bs bz b z S) := by
  intro l J Jx hJ hJx hY w R hR h0
  obtain ⟨H, hH⟩ : ∃ H, H = (headsL T).1 := ⟨_, rfl⟩
  obtain ⟨aft, haft⟩ : ∃ aft : Nat, aft = if (headsL T).2 = 0 then 0 else 11 := ⟨_, rfl⟩
  have hrs := RSim.start T z 512
  rw [← hH, ← haft] at hrs
  rw [← hH] at hY ⊢
  have c0 := (h0.swap.toR.cellF (o := 0) (u := .pointer (some ⟨b, 0, none⟩)) rfl).1
  have c1 := (h0.swap.toR.drop.toR.cellF (o := 0) (u := .int .i64 z) rfl).1
  have hrd := hT.read (a := 0) (m := 0) (by omega)
  have hsz : sizeC S z = 0 ∧ sizeN S z = T.length := by
    obtain ⟨p, hp, hpT⟩ := hT
    unfold sizeC sizeN; rw [hp]; simp [hpT]
  have h1 : At W w (Both (StoreT b S) (Both (J []) (Both (CellT bs #[.pointer (some ⟨b, 0, none⟩)] tSpt) (Both (CellT bz #[.int .i64 z] tInt) R)))) := by
    exact h0.perm (by unfold RecsT; ac_rfl)
  have hfr := From_ok h1 ((hJ []).both ((CellT.stable _ _ _).both ((CellT.stable _ _ _).both hR))) hF (n := 512) (r := z) (by decide) hz hrd.1 hsz.1
  rw [hsz.2] at hfr
  have HFR := Lib.hid hfr
  have neqn : ∀ wz : World, (binOp .neq tErr .nilIface .nilIface).run Tryz.prog wz = .ok (.bool false) wz := fun wz => neq_nil wz
  have HY := Lib.hid hY
  have HS0 := Lib.hid hrs
  clear hfr h1 hrd hsz h0 hY hH haft hrs
  (refine (callsIn_wide (n := 0)).1 (callsIn_of_wp Tryz.func55 rfl trivial ?_ rfl); simp only [Tryz.ntmps55, List.size_toArray, List.length_cons, List.length_nil, Nat.reduceAdd, Nat.reduceSub, Array.replicate_succ, Array.replicate_zero, List.push_toArray, List.append_toArray, List.nil_append, List.cons_append])
  (repeat' (first | (gi_big_may; fail) | go_values | gi_guarded | gi_step | gi_upon | gi_back | dsimp only))
  refine ⟨trivial, rfl, ?_⟩
  gi_at_call 54
  refine callsIn_wide.2 (HFR.out.mono ?_)
  rintro e w1 ⟨kr, rfl, h2⟩
  have hst := (StoreT.stable b S).both ((hJ []).both ((CellT.stable bs #[.pointer (some ⟨b, 0, none⟩)] tSpt).both ((CellT.stable bz #[.int .i64 z] tInt).both hR)))
  have hnx := Next_at h2 ((hJ []).both ((CellT.stable bs #[.pointer (some ⟨b, 0, none⟩)] tSpt).both ((CellT.stable bz #[.int .i64 z] tInt).both hR))) hF hz (Nat.zero_le _) (by dsimp only; omega) (Nat.le_refl _)
  obtain ⟨n1, n2, n3, n4⟩ := next_any (S := S) (T.length - 0 + 1) ⟨z, 512, 0, T.length, [], 0⟩ H aft (by dsimp only; omega) hT (by show 1 ≤ 512; decide) HS0.out
  dsimp only at hnx
  rw [n1] at hnx
  generalize (nextL (T.length - 0 + 1) S ⟨z, 512, 0, T.length, [], 0⟩).1 = y1 at *
  have HNX := Lib.hid hnx
  have HS1 := Lib.hid (And.intro n2 (And.intro n3 n4))
  clear hnx n1 n2 n3 n4 HFR h2 c0 c1 HS0
  (repeat' (first | (gi_big_may; fail) | go_values | gi_guarded | gi_step | gi_upon | gi_back | dsimp only))
  refine ⟨trivial, rfl, ?_⟩
  gi_at_call 56
  refine callsIn_wide.2 (HNX.out.mono ?_)
  rintro e w2 ⟨rfl, h3⟩
  have H3 := Lib.hid h3
  clear h3 HNX
  have hlq : lastQ 0 H [] := fun h => absurd rfl h
  (repeat' (first | (gi_big_may; fail) | go_values | gi_guarded | gi_step | gi_upon | gi_back | dsimp only))
  gi_loopw [6, 7, 8, 9] (fun v6 v7 v8 v9 wr => ∃ (k : Nat) (y : RdD) (last : List UInt8), v6 = .string ⟨last.toArray⟩ ∧ v7 = .bool (decide (k = 0)) ∧ v8 = .string ⟨(saysL (H.drop k) aft).1.toArray⟩ ∧ v9 = .bool (saysL (H.drop k) aft).2.1 ∧ RisAt H k ∧ lastQ k H last ∧ y.run = z ∧ y.block = 512 ∧ RSim T y (H.drop k).tail aft ∧
    At W wr (Both (RdT kr b ef y) (Both (StoreT b S) (Both (J (H.take k)) (Both (CellT bs #[.pointer (some ⟨b, 0, none⟩)] tSpt) (Both (CellT bz #[.int .i64 z] tInt) R)))))) (fun _ _ _ v9 wr => rdHeads T wr kr + (match v9 with | .bool true => 1 | _ => 0))
  case atStart => exact ⟨0, y1, [], rfl, rfl, rfl, rfl, RisAt.start _, hlq, HS1.out.2.1, HS1.out.2.2, HS1.out.1, H3.out⟩
  case round =>
    obtain ⟨k, y, last, rfl, rfl, rfl, rfl, hat, hla, hyr, hyb, hys, h4⟩ := hrel
    have hme := rdHeads_eq h4 hys
    have HAT := Lib.hid hat
    have HLA := Lib.hid hla
    have HY4 := Lib.hid (And.intro hyr (And.intro hyb hys))
    have H4 := Lib.hid h4
    have HME := Lib.hid hme
    clear hat hla hyr hyb hys h4 hme H3 hlq HS1
    by_cases hlt : k < H.length
    · obtain ⟨x, hx⟩ : ∃ x, H[k]? = some x := ⟨_, List.getElem?_eq_getElem hlt⟩
      have hd : H.drop k = x :: H.drop (k + 1) := by rw [List.drop_eq_getElem_cons hlt, ← Option.some.inj (hx.symm.trans (List.getElem?_eq_getElem hlt))]
      have ht : H.take (k + 1) = H.take k ++ [x] := by rw [List.take_add_one, hx]; rfl
      have hys := HY4.out.2.2
      rw [hd] at hys ⊢
      have HX := Lib.hid hx
      have HD := Lib.hid hd
      have HT := Lib.hid ht
      have HYS := Lib.hid hys
      clear hx hd ht hys
      simp only [saysL]
      rcases Nat.eq_zero_or_pos k with h0 | h0
      · have hup := HAT.out.up HX.out (by rw [if_pos h0]; rfl)
        have hb0 : decide (k = 0) = true := by simpa using h0
        clear h0
        obtain ⟨fn, tmps, assign, body, hy, hRd⟩ := HY.out (H.take k) x (by rw [← HT.out]; exact hup.pre) wr (Both (RdT kr b ef y) R) ((RdT.stable _ _ _ _).both hR) (H4.out.perm (by unfold RecsT; ac_rfl))
        have HUP := Lib.hid hup
        unfold encS at hy
        clear hup
        (repeat' (first | (gi_big_may; fail) | go_values | gi_guarded | gi_step | gi_upon | gi_back | dsimp only))
        refine ⟨rfl, hRd.mono ?_⟩
        rintro e w5 (⟨rfl, h5⟩ | ⟨rfl, h5⟩)
        · have hR6 := (hJ (H.take k ++ [x])).both ((CellT.stable bs #[.pointer (some ⟨b, 0, none⟩)] tSpt).both ((CellT.stable bz #[.int .i64 z] tInt).both hR))
          have h6 : At W w5 (Both (RdT kr b ef y) (Both (StoreT b S) (Both (J (H.take k ++ [x])) (Both (CellT bs #[.pointer (some ⟨b, 0, none⟩)] tSpt) (Both (CellT bz #[.int .i64 z] tInt) R))))) := h5.perm (by unfold RecsT; ac_rfl)
          have q1 := HYS.out.fin
          have q2 := HYS.out.pos
          have q3 := HYS.out.buf
          have hnx := Next_at h6 hR6 hF (by rw [HY4.out.1]; exact hz) (by omega) (by omega) q3
          obtain ⟨n1, n2, n3, n4⟩ := next_any (S := S) (y.fin - y.pos + 1) y (H.drop (k + 1)) aft (by omega) (by rw [HY4.out.1]; exact hT) (by rw [HY4.out.2.1]; decide) HYS.out
          rw [n1] at hnx
          rw [HY4.out.1] at n3
          rw [HY4.out.2.1] at n4
          generalize (nextL (y.fin - y.pos + 1) S y).1 = y2 at *
          have HNX := Lib.hid hnx
          have HS2 := Lib.hid (And.intro n2 (And.intro n3 n4))
          clear hnx n1 n2 n3 n4 h5 h6 q1 q2 q3 hRd hy
          (repeat' (first | (gi_big_may; fail) | go_values | gi_guarded | gi_step | gi_upon | gi_back | dsimp only))
          refine ⟨trivial, rfl, ?_⟩
          gi_at_call 56
          refine callsIn_wide.2 (HNX.out.mono ?_)
          rintro e w6 ⟨rfl, h7⟩
          have H7 := Lib.hid h7
          have HM7 := Lib.hid (rdHeads_eq h7 HS2.out.1)
          clear h7 HNX
          (repeat' (first | (gi_big_may; fail) | go_values | gi_guarded | gi_step | gi_upon | gi_back | dsimp only))
          go_roundw
          case rel => exact ⟨k + 1, y2, x, rfl, (by simp), rfl, rfl, HUP.out, (fun _ => HX.out), HS2.out.2.1, HS2.out.2.2, HS2.out.1, (by rw [HT.out]; exact H7.out)⟩
          case measure =>
            rw [HM7.out, HME.out, HD.out]
            cases hdd : H.drop (k + 1) with
            | nil => simp [saysL]
            | cons a l => simp [saysL]
        · (repeat' (first | (gi_big_may; fail) | go_values | gi_guarded | gi_step | gi_upon | gi_back | dsimp only))
          refine bodyPost_ret (results_none rfl _ _ _) rfl ?_
          exact ⟨⟨_, rfl⟩, .inr ⟨_, (by rw [← HT.out]; exact HUP.out.pre), (h5.perm (by unfold RecsT; ac_rfl) : At W w5 (Both (RdT kr b ef y) (Both (Jx (H.take k ++ [x])) (Both (RecsT bs bz b z S) R)))).drop⟩⟩
      · have hb0 : decide (k = 0) = false := by simp; omega
        have hlast := HLA.out (by omega)
        have hq : (if k = 0 then none else H[k - 1]?) = some last := by rw [if_neg (by omega), hlast]
        clear h0 hlast
        cases hlx : Op.bytesLess last x with
        | true =>
          have hup := HAT.out.up HX.out (by rw [hq]; exact hlx)
          have hgt : (Op.bytesLess x last || x == last) = false := by
            have h1 : Op.bytesLess x last = false := LtW.not hlx
            have h2 : ¬ x = last := fun e => LtW.ne hlx e.symm
            simp [h1, h2]
          clear hq hlx
          obtain ⟨fn, tmps, assign, body, hy, hRd⟩ := HY.out (H.take k) x (by rw [← HT.out]; exact hup.pre) wr (Both (RdT kr b ef y) R) ((RdT.stable _ _ _ _).both hR) (H4.out.perm (by unfold RecsT; ac_rfl))
          have HUP := Lib.hid hup
          unfold encS at hy
          clear hup
          (repeat' (first | (gi_big_may; fail) | go_values | gi_guarded | gi_step | gi_upon | gi_back | dsimp only))
          refine ⟨rfl, hRd.mono ?_⟩
          rintro e w5 (⟨rfl, h5⟩ | ⟨rfl, h5⟩)
          · have hR6 := (hJ (H.take k ++ [x])).both ((CellT.stable bs #[.pointer (some ⟨b, 0, none⟩)] tSpt).both ((CellT.stable bz #[.int .i64 z] tInt).both hR))
            have h6 : At W w5 (Both (RdT kr b ef y) (Both (StoreT b S) (Both (J (H.take k ++ [x])) (Both (CellT bs #[.pointer (some ⟨b, 0, none⟩)] tSpt) (Both (CellT bz #[.int .i64 z] tInt) R))))) := h5.perm (by unfold RecsT; ac_rfl)
            have q1 := HYS.out.fin
            have q2 := HYS.out.pos
            have q3 := HYS.out.buf
            have hnx := Next_at h6 hR6 hF (by rw [HY4.out.1]; exact hz) (by omega) (by omega) q3
            obtain ⟨n1, n2, n3, n4⟩ := next_any (S := S) (y.fin - y.pos + 1) y (H.drop (k + 1)) aft (by omega) (by rw [HY4.out.1]; exact hT) (by rw [HY4.out.2.1]; decide) HYS.out
            rw [n1] at hnx
            rw [HY4.out.1] at n3
            rw [HY4.out.2.1] at n4
            generalize (nextL (y.fin - y.pos + 1) S y).1 = y2 at *
            have HNX := Lib.hid hnx
            have HS2 := Lib.hid (And.intro n2 (And.intro n3 n4))
            clear hnx n1 n2 n3 n4 h5 h6 q1 q2 q3 hRd hy
            (repeat' (first | (gi_big_may; fail) | go_values | gi_guarded | gi_step | gi_upon | gi_back | dsimp only))
            refine ⟨trivial, rfl, ?_⟩
            gi_at_call 56
            refine callsIn_wide.2 (HNX.out.mono ?_)
            rintro e w6 ⟨rfl, h7⟩
            have H7 := Lib.hid h7
            have HM7 := Lib.hid (rdHeads_eq h7 HS2.out.1)
            clear h7 HNX
            (repeat' (first | (gi_big_may; fail) | go_values | gi_guarded | gi_step | gi_upon | gi_back | dsimp only))
            go_roundw
            case rel => exact ⟨k + 1, y2, x, rfl, (by simp), rfl, rfl, HUP.out, (fun _ => HX.out), HS2.out.2.1, HS2.out.2.2, HS2.out.1, (by rw [HT.out]; exact H7.out)⟩
            case measure =>
              rw [HM7.out, HME.out, HD.out]
              cases hdd : H.drop (k + 1) with
              | nil => simp [saysL]
              | cons a l => simp [saysL]
          · (repeat' (first | (gi_big_may; fail) | go_values | gi_guarded | gi_step | gi_upon | gi_back | dsimp only))
            refine bodyPost_ret (results_none rfl _ _ _) rfl ?_
            exact ⟨⟨_, rfl⟩, .inr ⟨_, (by rw [← HT.out]; exact HUP.out.pre), (h5.perm (by unfold RecsT; ac_rfl) : At W w5 (Both (RdT kr b ef y) (Both (Jx (H.take k ++ [x])) (Both (RecsT bs bz b z S) R)))).drop⟩⟩
        | false =>
          have HST := Lib.hid (HAT.out.stop HX.out (by rw [hq]; exact hlx))
          have hgt : (Op.bytesLess x last || x == last) = true := by
            by_cases e : x = last
            · simp [e]
            · simp [bl_total hlx (fun q => e q.symm)]
          clear hq hlx
          (repeat' (first | (gi_big_may; fail) | go_values | gi_guarded | gi_step | gi_upon | gi_back | dsimp only))
          go_end0
          have h5 := H4.out.drop
          rw [← HST.out] at h5
          exact ⟨⟨_, rfl⟩, .inl (h5.perm (by unfold RecsT; ac_rfl))⟩
    · have HDN := Lib.hid (HAT.out.done hlt)
      have hd : H.drop k = [] := List.drop_eq_nil_of_le (by omega)
      rw [hd]
      simp only [saysL]
      (repeat' (first | (gi_big_may; fail) | go_values | gi_guarded | gi_step | gi_upon | gi_back | dsimp only))
      go_end0
      have h5 := H4.out.drop
      rw [← HDN.out.1] at h5
      exact ⟨⟨_, rfl⟩, .inl (h5.perm (by unfold RecsT; ac_rfl))⟩
theorem results_cell_slot {P : Program} {fn : Func} {p q : Tmp} {ty : TypeId} (h : fn.results = #[.cell p ty, .tmp q]) (tmps : Array Value) (w : World) (g : Nat) (t : TypeId) (cs : Array Value) (fr : Nat × Nat) (d : TypeDesc) (v : Value)
    (hp : tmps.getD p undef = .pointer (some ⟨g, 0, none⟩)) (hq : tmps.getD q undef = v) (hg : w.heap[g]? = some (.cells cs t fr))
    (hu : P.underlying ty = some d) (hd : (match d with | .struct _ | .array _ _ => true | _ => false) = true) (hi : (P.info? ty).map (·.size) = some cs.size) :
    (results fn tmps).run P w = .ok (.tuple #[.agg cs, v]) w := by
  have hp' : tmps[p]?.getD undef = .pointer (some ⟨g, 0, none⟩) := by simpa using hp
  have hq' : tmps[q]?.getD undef = v := by simpa using hq
  simp [results, h, hp', hq', asAddr, run_loadVar_row w g t ty cs fr d hg hu hd hi]
section
variable {W w : World} {R : Thing} {b : Nat} {ef : Nat → Nat × Nat} {S : St}
set_option maxRecDepth 100000 in
set_option maxHeartbeats 1600000 in
theorem Records_ok (h : At W w (Both (StoreT b S) R)) (hR : Stable R) (hF : Fails W ef fails10) {z : Nat} {T : List UInt8} (hT : HasT S z T) (hz : inI64 z) :
    Calls Tryz.prog 25 #[.pointer (some ⟨b, 0, none⟩), .int .i64 z] w fun e w' => ∃ bs bz, e = .returned (.tuple #[.agg #[.func (.func 55) #[] #[.pointer (some ⟨bs, 0, none⟩), .pointer (some ⟨bz, 0, none⟩)]], .nilIface]) ∧
      At W w' (Both (CellT bs #[.pointer (some ⟨b, 0, none⟩)] tSpt) (Both (CellT bz #[.int .i64 z] tInt) (Both (StoreT b S) R))) := by
  have hs0 := (StoreT.stable b S).both hR
  have h1 := h.newCell hs0 #[.pointer (some ⟨b, 0, none⟩)] tSpt
  have hs1 := (CellT.stable w.heap.size #[.pointer (some ⟨b, 0, none⟩)] tSpt).both hs0
  have h2 := h1.newCell hs1 #[.int .i64 z] tInt
  rw [show (w.alloc (.cells #[.pointer (some ⟨b, 0, none⟩)] tSpt)).heap.size = w.heap.size + 1 from by simp] at h2
  have hs2 := (CellT.stable (w.heap.size + 1) #[.int .i64 z] tInt).both hs1
  have h3 := h2.newCell hs2 #[.nilFunc] tStr
  rw [show ((w.alloc (.cells #[.pointer (some ⟨b, 0, none⟩)] tSpt)).alloc (.cells #[.int .i64 z] tInt)).heap.size = w.heap.size + 1 + 1 from by simp] at h3
  have hrd := hT.read (a := 0) (m := 0) (by omega)
  have hsz : sizeC S z = 0 ∧ sizeN S z = T.length := by
    obtain ⟨p, hp, hpT⟩ := hT
    unfold sizeC sizeN; rw [hp]; simp [hpT]
  have h4 : At W _ (Both (StoreT b S) (Both (CellT (w.heap.size + 1 + 1) #[.nilFunc] tStr) (Both (CellT (w.heap.size + 1) #[.int .i64 z] tInt) (Both (CellT w.heap.size #[.pointer (some ⟨b, 0, none⟩)] tSpt) R)))) := h3.perm (by ac_rfl)
  have hfr := From_ok h4 ((CellT.stable _ _ _).both ((CellT.stable _ _ _).both ((CellT.stable _ _ _).both hR))) hF (n := 512) (r := z) (by decide) hz hrd.1 hsz.1
  have c0 := (h3.drop.drop.cellF (o := 0) (u := .pointer (some ⟨b, 0, none⟩)) rfl).1
  have c1 := (h3.drop.cellF (o := 0) (u := .int .i64 z) rfl).1
  have HFR := Lib.hid hfr
  have neqn : ∀ wz : World, (binOp .neq tErr .nilIface .nilIface).run Tryz.prog wz = .ok (.bool false) wz := fun wz => neq_nil wz
  clear hfr h1 h2 h3 h4 hrd hsz h
  go_enter Tryz.func25, Tryz.ntmps25
  (repeat' (first | (go_big_may; fail) | go_values | go_skip | go_guarded | go_step | go_upon | go_back | dsimp only))
  refine HFR.out.mono ?_
  rintro e w1 ⟨kr, rfl, h5⟩
  have h6 : At W w1 (Both (CellT (w.heap.size + 1 + 1) #[.nilFunc] tStr) (Both (CellT w.heap.size #[.pointer (some ⟨b, 0, none⟩)] tSpt) (Both (CellT (w.heap.size + 1) #[.int .i64 z] tInt) (Both (StoreT b S) R)))) := h5.drop.perm (by ac_rfl)
  have c6 := h6.cellF (o := 0) (u := .nilFunc) rfl
  have c6a := c6.1
  have c6b := c6.2.1
  have h7 := h6.setCell ((CellT.stable _ _ _).both ((CellT.stable _ _ _).both hs0)) 0 (.func (.func 55) #[] #[.pointer (some ⟨w.heap.size, 0, none⟩), .pointer (some ⟨w.heap.size + 1, 0, none⟩)])
  have H7 := Lib.hid h7
  clear h5 h6 h7 c6 HFR c0 c1
  (repeat' (first | (go_big_may; fail) | go_values | go_skip | go_guarded | go_step | go_upon | go_back | dsimp only))
  refine bodyPost_ret (results_cell_slot rfl _ _ (w.heap.size + 1 + 1) tStr #[.func (.func 55) #[] #[.pointer (some ⟨w.heap.size, 0, none⟩), .pointer (some ⟨w.heap.size + 1, 0, none⟩)]] (0, 0) _ _ rfl rfl H7.out.cell.1 Tryz.underlying40 rfl (by kernel_rfl)) rfl ?_
  exact ⟨_, _, rfl, H7.out.drop⟩
end
end Go.Proofs.YtgeabmmicofanaaGreatDoor
