/- streams: Union's iterator walked. · streams: Union walked. · streams: what Of's sisters make, whatever memory the streams stand in that they are made of. · streams: several streams at hand; what the calls that make one more leave. -/
import Derived.Test.YtgeabmmicofanaaGreatDoorBuSpLaw32
import Derived.Test.YtgeabmmicofanaaGreatDoorBuSpLaw36
import Derived.Test.YtgeabmmicofanaaGreatDoorBuSpLaw05
set_option linter.unusedSimpArgs false
set_option linter.unusedVariables false
namespace Go.Proofs.YtgeabmmicofanaaGreatDoor
open Go.RowKit
attribute [local go_sem] Oper.semAt_some

abbrev tStrs : TypeId := 26
abbrev tCurs : TypeId := 75
/-- Functions of streams, and what they give. -/
def IsStrs (W : World) (Φ : Thing) (vs : List Value) (Ls : List (List (List UInt8))) : Prop := vs.length = Ls.length ∧ ∀ (i : Nat) (v : Value) (L : List (List UInt8)), vs[i]? = some v → Ls[i]? = some L → IsStr W Φ v L
/-- What a peek at the heap tells. -/
def pk (L : List cu.Cur) : cu.Cur × Bool := if L = [] then (default, false) else (cu.firstR cu.ltB L, true)
abbrev UniT (kl : Nat) (vl : Value) (vs : List Value) (Φ : Thing) : Thing := Both (CellT kl #[vl] tStrs) (Both (RowG tStr 1 vl vs.length vs) Φ)
theorem UniT.stable (kl : Nat) (vl : Value) (vs : List Value) {Φ : Thing} (h : Stable Φ) : Stable (UniT kl vl vs Φ) := (CellT.stable _ _ _).both ((RowG.stable _ _ _ _ _).both h)
section
variable {W w : World} {A C D X H R : Thing}
theorem At.uniOut (h : At W w (Both H (Both A (Both (Both C (Both D X)) R)))) : At W w (Both H (Both X (Both A (Both C (Both D R))))) := by
  have h1 : At W w (Both H (Both A (Both C (Both D (Both X R))))) := h.impl fun _ q => Both.mono (fun _ _ q => Both.mono (fun _ _ q => Both.mono (fun _ _ q => Both.toR q) (Both.toR q)) q) q
  exact h1.pull5.swap
theorem At.uniIn (h : At W w (Both H (Both X (Both A (Both C (Both D R)))))) : At W w (Both H (Both A (Both (Both C (Both D X)) R))) := by
  have h1 : At W w (Both H (Both A (Both C (Both D (Both X R))))) := by
    refine h.impl fun _ q => Both.mono (fun _ _ q => ?_) q
    exact Both.mono (fun _ _ q => Both.mono (fun _ _ q => Both.assoc q) (Both.assoc q)) (Both.assoc q)
  exact h1.impl fun _ q => Both.mono (fun _ _ q => Both.mono (fun _ _ q => Both.toL (Both.mono (fun _ _ q => Both.toL q) q)) q) q
end
section
variable {W w : World} {R : Thing} {b : Nat} {L : List cu.Cur} {n : Nat}
theorem At.heapLive (h : At W w (Both (cu.HeapT b L n) R)) : ∀ c ∈ L, cu.Live w c := by
  obtain ⟨_, fp, ⟨f, g, h1, _⟩, _⟩ := h
  exact cu.HeapT.live h1
theorem At.heapSum (h : At W w (Both (cu.HeapT b L n) R)) : cu.heapSum w b = (L.map cu.Cur.n).sum := by
  obtain ⟨_, fp, ⟨f, g, h1, _⟩, _⟩ := h
  exact cu.heapSum_of h1
theorem sum_flat (h : ∀ c ∈ L, cu.Live w c) : (L.map cu.Cur.n).sum = (cu.flatC L).length := by
  induction L with
  | nil => rfl
  | cons c L ih =>
    obtain ⟨_, _, _, h2, _⟩ := h c (by simp)
    have := ih fun c hc => h c (by simp [hc])
    simp only [List.map_cons, List.sum_cons, cu.flatC, List.flatMap_cons, List.length_append] at this ⊢
    rw [this, h2]
theorem Peek_pk (h : At W w (Both (cu.HeapT b L n) R)) (hR : Stable R) : Calls Tryz.prog 40 #[.pointer (some ⟨b, 0, none⟩)] w fun e w' => e = .returned (cu.itB (pk L)) ∧ At W w' (Both (cu.HeapT b L n) R) :=
  (cu.Peek_at h hR).mono fun _ _ ⟨h1, h2, _⟩ => ⟨h1, h2⟩
theorem tail_v {c : cu.Cur} {g i : Nat} (h : c.a = some ⟨g, i, none⟩) : (cu.tailC c).v = .agg #[.slice (some ⟨g, i + 1, none⟩) (c.n - 1) (c.c - 1)] := by simp [cu.tailC, h]
end
/-- Between two rounds of the second loop. -/
def UniI (U : List (List UInt8)) (b k9 : Nat) (pre : List (List UInt8)) (any : Bool) (last : List UInt8) (L : List cu.Cur) (n : Nat) (J UT : Thing) (R : Thing) (W w : World) : Prop :=
  cu.UInv U pre any last L ∧ L.length ≤ 274877906944 ∧ n + (L.map cu.Cur.n).sum ≤ 549755813888 ∧ At W w (Both (cu.HeapT b L n) (Both (CellT k9 #[.slice (pk L).1.a (pk L).1.n (pk L).1.c] tCurs) (Both J (Both UT R))))
set_option maxRecDepth 100000 in
set_option maxHeartbeats 4000000 in
theorem union1_seqs {W : World} {Φ : Thing} {vs : List Value} {Ls : List (List (List UInt8))} (hs : IsStrs W Φ vs Ls) (hΦ : Stable Φ) (hLs : ∀ L ∈ Ls, RisesL L) (hn : Ls.length ≤ 274877906944) (ht : Ls.flatten.length ≤ 274877906944) (kl : Nat) (vl : Value) :
    Seqs Tryz.prog encS 35 #[.pointer (some ⟨kl, 0, none⟩)] (cu.unionL Ls) W (UniT kl vl vs Φ) := by
  intro l J Jx hJ hJx hY w R hR h0
  have hU := UniT.stable kl vl vs hΦ
  have hst := (hJ []).both (hU.both hR)
  obtain ⟨ao, cap, rfl, hc1, hc2⟩ := own_shape h0.drop.toR.drop.toR.rowG
  have hnew := cu.New_at h0 hst
  have HN := Lib.hid hnew
  have HS := Lib.hid hs
  have HLS := Lib.hid hLs
  have HY := Lib.hid hY
  clear hnew hs hLs hY h0
  unfold maxLen at hc2
  (refine (callsIn_wide (n := 0)).1 (callsIn_of_wp Tryz.func35 rfl trivial ?_ rfl); simp only [Tryz.ntmps35, List.size_toArray, List.length_cons, List.length_nil, Nat.reduceAdd, Nat.reduceSub, Array.replicate_succ, Array.replicate_zero, List.push_toArray, List.append_toArray, List.nil_append, List.cons_append])
  (repeat' (first | (gi_big_may; (refine ⟨trivial, rfl, ?_⟩; gi_at_call 36; refine callsIn_wide.2 (HN.out.mono ?_); rintro e w1 ⟨b, rfl, h1⟩; have c1 := (h1.drop.drop.toR.cellF (o := 0) (u := .slice ao vs.length cap) rfl).1; have H1 := Lib.hid h1; clear h1 HN)) | go_values | gi_guarded | gi_step | gi_upon | gi_back | dsimp only))
  gi_loopw [15] (fun i wr => ∃ (k : Nat) (L : List cu.Cur) (n : Nat), k ≤ vs.length ∧ i = .int .i64 k ∧ cu.LoadC Ls k L n ∧ At W wr (Both (cu.HeapT b L n) (Both (J []) (Both (UniT kl (.slice ao vs.length cap) vs Φ) R)))) (fun i _ => vs.length - (intOf i).toNat)
  case atStart => exact ⟨0, [], 0, Nat.zero_le _, rfl, cu.LoadC.start, H1.out⟩
  case round =>
    obtain ⟨k, L, n, hk, rfl, hlo, h2⟩ := hrel
    have h3 := h2.uniOut
    by_cases hlt : k < vs.length
    · obtain ⟨g, cp, he, _⟩ := own_cut h3.pull5.rowG (by omega)
      cases he
      have hkL : k < Ls.length := by rw [← HS.out.1]; exact hlt
      have hst3 := (cu.HeapT.stable b L n).both (hΦ.both ((hJ []).both ((CellT.stable kl #[.slice (some ⟨g, 0, none⟩) vs.length cap] tStrs).both ((RowG.stable tStr 1 (.slice (some ⟨g, 0, none⟩) vs.length cap) vs.length vs).both hR))))
      have cx := (h3.pull5.rowCell (j := k) (u := vs[k]) (List.getElem?_eq_getElem hlt)).1
      have hsk := HS.out.2 k vs[k] Ls[k] (List.getElem?_eq_getElem hlt) (List.getElem?_eq_getElem hkL)
      have hLk : (Ls[k]).length ≤ 274877906944 := by
        have h9 := cu.take_flat hkL
        have h10 := congrArg (fun x : List (List (List UInt8)) => x.flatten.length) (List.take_append_drop (k + 1) Ls)
        simp only [List.flatten_append, List.length_append, h9] at h10
        omega
      generalize vs[k] = v at *
      have hRH := (cu.HeapT.stable b L n).both ((hJ []).both ((CellT.stable kl #[.slice (some ⟨g, 0, none⟩) vs.length cap] tStrs).both ((RowG.stable tStr 1 (.slice (some ⟨g, 0, none⟩) vs.length cap) vs.length vs).both hR)))
      obtain ⟨hst4, h4⟩ := h3.swap.keepStr hΦ hRH hsk.one
      have HLA := Lib.hid (laid_at hsk hΦ hRH h4.swap.drop (by omega))
      clear h2 h3 h4 hsk H1
      (repeat' (first | (gi_big_may; fail) | go_values | gi_guarded | gi_step | gi_upon | gi_back | dsimp only))
      refine ⟨trivial, rfl, ?_⟩
      gi_at_call 38
      refine callsIn_wide.2 (HLA.out.mono ?_)
      rintro e w2 ⟨u, rfl, h5⟩
      obtain ⟨ao2, cap2, rfl, hcp1, hcp2⟩ := own_shape h5.rowG
      unfold maxLen at hcp2
      have hR3 : Stable (Both (J []) (Both (CellT kl #[.slice (some ⟨g, 0, none⟩) vs.length cap] tStrs) (Both (RowG tStr 1 (.slice (some ⟨g, 0, none⟩) vs.length cap) vs.length vs) R))) := (hJ []).both ((CellT.stable _ _ _).both ((RowG.stable _ _ _ _ _).both hR))
      by_cases hLe : Ls[k] = []
      · have H6 := Lib.hid (h5.drop.swap)
        have hlo2 := hlo.skip hkL hLe
        simp only [hLe, List.length_nil]
        (repeat' (first | (gi_big_may; fail) | go_values | gi_guarded | gi_step | gi_upon | gi_back | dsimp only))
        go_roundw
        case rel => exact ⟨k + 1, L, n, hlt, by go_num, hlo2, H6.out.uniIn⟩
        case measure => simp [intOf]; omega
      · have h6 := h5.pull3
        have hlo2 := hlo.push (c := ⟨ao2, (Ls[k]).length, cap2, Ls[k]⟩) hkL rfl hLe (HLS.out _ (List.getElem_mem hkL))
        have hLl := hlo.len
        have hLn := hlo.num
        have HPU := Lib.hid (cu.Push_at (x := ⟨ao2, (Ls[k]).length, cap2, Ls[k]⟩) h6 (hΦ.both hR3) hLe (by omega) (by omega))
        have hpos : (0 : Int) < ((Ls[k]).length : Int) := by have := List.length_pos_iff.2 hLe; omega
        have hlo3 := Lib.hid hlo2
        clear hlo2 h6 h5 hLe hLk hlo hLn hLl
        generalize Ls[k] = Lk at *
        (repeat' (first | (gi_big_may; (refine ⟨trivial, rfl, ?_⟩; gi_at_call 39; refine callsIn_wide.2 (HPU.out.mono ?_); rintro e w3 ⟨rfl, h7⟩; have H7 := Lib.hid h7; clear h7)) | go_values | gi_guarded | gi_step | gi_upon | gi_back | dsimp only))
        go_roundw
        case rel => exact ⟨k + 1, _, _, hlt, by go_num, hlo3.out, H7.out.uniIn⟩
        case measure => simp [intOf]; omega
    · obtain rfl : k = vs.length := by omega
      have hinv0 : cu.UInv (cu.unionL Ls) [] false [] L := by
        rw [HS.out.1] at hlo
        exact hlo.inv
      have hL0 := hlo.len
      have hN0 := hlo.num
      have hlv := sum_flat h2.heapLive
      rw [hlo.flat, HS.out.1, List.take_of_length_le (Nat.le_refl _)] at hlv
      have hlen := HS.out.1
      have HPE := Lib.hid (Peek_pk h2 ((hJ []).both (hU.both hR)))
      have HB0 := Lib.hid (show L.length ≤ 274877906944 ∧ n + (L.map cu.Cur.n).sum ≤ 549755813888 by omega)
      have HI0 := Lib.hid hinv0
      clear hinv0 hlo hL0 hN0 hlv h2 h3 hlen H1
      (repeat' (first | (gi_big_may; fail) | go_values | gi_guarded | gi_step | gi_upon | gi_back | dsimp only))
      refine ⟨trivial, rfl, ?_⟩
      gi_at_call 40
      refine callsIn_wide.2 (HPE.out.mono ?_)
      rintro e w4 ⟨rfl, h4⟩
      have H4 := Lib.hid (h4.newCell ((cu.HeapT.stable b L n).both ((hJ []).both (hU.both hR))) #[.slice (pk L).1.a (pk L).1.n (pk L).1.c] tCurs).swap
      clear h4 HPE
      (repeat' (first | (gi_big_may; fail) | go_values | gi_guarded | gi_step | gi_upon | gi_back | dsimp only))
      gi_loopw [7, 8, 9, 10] (fun x7 x8 x9 x10 wr => ∃ (pre : List (List UInt8)) (any : Bool) (last : List UInt8) (L : List cu.Cur) (n k9 : Nat), x7 = .string ⟨last.toArray⟩ ∧ x8 = .bool any ∧ x9 = .pointer (some ⟨k9, 0, none⟩) ∧ x10 = .bool (pk L).2 ∧ UniI (cu.unionL Ls) b k9 pre any last L n (J pre) (UniT kl (.slice ao vs.length cap) vs Φ) R W wr) (fun _ _ _ _ wr => cu.heapSum wr b)
      case atStart => exact ⟨[], false, [], L, n, w4.heap.size, rfl, rfl, rfl, rfl, HI0.out, HB0.out.1, HB0.out.2, H4.out⟩
      case round =>
        clear H4 HI0 HB0
        obtain ⟨pre, any, last, L, n, k9, rfl, rfl, rfl, rfl, hinv, hb1, hb2, h5⟩ := hrel
        by_cases hL : L = []
        · subst hL
          obtain rfl := hinv.done
          have HE := Lib.hid h5.drop.drop
          simp only [show (pk []).2 = false from rfl]
          clear h5 hb2 hinv
          (repeat' (first | (gi_big_may; fail) | go_values | gi_guarded | gi_step | gi_upon | gi_back | dsimp only))
          go_end0
          exact ⟨⟨_, rfl⟩, .inl HE.out⟩
        · have hpk : pk L = (cu.firstR cu.ltB L, true) := by unfold pk; rw [if_neg hL]
          rw [hpk] at h5 ⊢
          obtain ⟨g, i, hca, hcn, hcm, hck⟩ := (h5.heapLive _ (cu.firstR_mem hL)).head
          have HS0 := Lib.hid h5.heapSum
          have HLE := Lib.hid (hinv.emit hL)
          have HCL := Lib.hid (show (cu.firstR cu.ltB L).left.length = (cu.firstR cu.ltB L).n by
            obtain ⟨_, _, _, h9, _⟩ := h5.heapLive _ (cu.firstR_mem hL)
            exact h9.symm)
          have HCA := Lib.hid hca
          have HLC := Lib.hid (h5.heapLive _ (cu.firstR_mem hL))
          simp only [hca] at h5
          obtain ⟨cN, hcN⟩ : ∃ x, (cu.firstR cu.ltB L).n = x := ⟨_, rfl⟩
          obtain ⟨cC, hcC⟩ : ∃ x, (cu.firstR cu.ltB L).c = x := ⟨_, rfl⟩
          have hcc : cN ≤ cC ∧ cC ≤ 9223372036854775807 := by
            obtain ⟨_, _, _, _, _, h9, h10, _⟩ := h5.heapLive _ (cu.firstR_mem hL)
            unfold maxLen at h10
            omega
          obtain ⟨hcc1, hcc2⟩ := hcc
          rw [hcN, hcC] at h5
          rw [hcN] at hcn hcm HCL
          have HCN := Lib.hid hcN
          have HCC := Lib.hid hcC
          have c5 := (h5.drop.cellF (o := 0) (u := .slice (some ⟨g, i, none⟩) cN cC) rfl).1
          have hi0 : (0 : Int) < cN := by omega
          obtain ⟨kw, hkw⟩ : ∃ x, (cu.firstR cu.ltB L).key = x := ⟨_, rfl⟩
          rw [hkw] at hck HLE
          have HKW := Lib.hid hkw
          have HTN := Lib.hid (show (cu.tailC (cu.firstR cu.ltB L)).n = cN - 1 by rw [← HCN.out]; rfl)
          have HSL := Lib.hid (show ((cu.leftR cu.ltB L).map cu.Cur.n).sum + cN = (L.map cu.Cur.n).sum by rw [← HCN.out]; exact cu.sum_left hL)
          clear hca hcN hcC hkw hpk hcm
          cases any with
          | false =>
            obtain ⟨hp, hinv2⟩ := HLE.out (fun h => by cases h)
            obtain ⟨fn, tmps, assign, body, hy, hRd⟩ := HY.out pre kw hp wr _ ((cu.HeapT.stable b L n).both ((CellT.stable k9 #[.slice (some ⟨g, i, none⟩) cN cC] tCurs).both hR)) (h5.pull3.impl fun _ q => Both.mono (fun _ _ q => (Both.mono (fun _ _ q => q.assoc) q).assoc) q)
            unfold encS at hy
            rw [← HKW.out] at hinv2
            clear hinv HLE
            (repeat' (first | (gi_big_may; fail) | go_values | gi_guarded | gi_step | gi_upon | gi_back | dsimp only))
            refine ⟨rfl, hRd.mono ?_⟩
            rintro e w5 (⟨rfl, h3⟩ | ⟨rfl, h3⟩)
            · have h5 := h3.pull4.pull4
              have c5 := (h5.drop.cellF (o := 0) (u := .slice (some ⟨g, i, none⟩) cN cC) rfl).1
              clear h3 hRd hy hck
              by_cases h1 : 1 < cN
              · have hI2 := hinv2.next hL
                have HI2 := Lib.hid (hI2.1 (by rw [HCL.out]; exact h1))
                have HB2 := Lib.hid (show (cu.leftR cu.ltB L ++ [cu.tailC (cu.firstR cu.ltB L)]).length ≤ 274877906944 ∧ n + 1 + ((cu.leftR cu.ltB L ++ [cu.tailC (cu.firstR cu.ltB L)]).map cu.Cur.n).sum ≤ 549755813888 by
                  have e1 := cu.sum_left hL
                  have e2 := cu.leftR_length (lt := cu.ltB) hL
                  have e3 : (cu.tailC (cu.firstR cu.ltB L)).n = cN - 1 := by rw [← HCN.out]; rfl
                  rw [HCN.out] at e1
                  simp only [List.length_append, List.length_singleton, List.map_append, List.map_cons, List.map_nil, List.sum_append, List.sum_cons, List.sum_nil, e3]
                  omega)
                have hre := cu.Replace_at h5 ((CellT.stable k9 #[.slice (some ⟨g, i, none⟩) cN cC] tCurs).both ((hJ _).both (hU.both hR))) hL (by rw [HCN.out]; exact h1) (by omega) (by omega)
                rw [tail_v HCA.out, HCN.out, HCC.out] at hre
                have HRE := Lib.hid hre
                have c5 := (h5.drop.cellF (o := 0) (u := .slice (some ⟨g, i, none⟩) cN cC) rfl).1
                have HSM := Lib.hid (show True ∧ cN > 1 from ⟨trivial, h1⟩)
                have hi1 : (1 : Int) < cN := by omega
                clear hre h5 hI2 hinv2
                (repeat' (first | (gi_big_may; fail) | go_values | gi_guarded | gi_step | gi_upon | gi_back | dsimp only))
                refine ⟨trivial, rfl, ?_⟩
                gi_at_call 41
                refine callsIn_wide.2 (HRE.out.mono ?_)
                rintro e w6 ⟨rfl, h6⟩
                clear HRE
                have h7 := h6.newCell ((cu.HeapT.stable b (cu.leftR cu.ltB L ++ [cu.tailC (cu.firstR cu.ltB L)]) (n + 1)).both ((CellT.stable k9 #[.slice (some ⟨g, i, none⟩) cN cC] tCurs).both ((hJ _).both (hU.both hR)))) #[.slice (some ⟨g, i, none⟩) cN cC] tCurs
                have c6 := (h6.drop.cellF (o := 0) (u := .slice (some ⟨g, i, none⟩) cN cC) rfl).1
                have HPE := Lib.hid (Peek_pk h7.swap ((CellT.stable w6.heap.size #[.slice (some ⟨g, i, none⟩) cN cC] tCurs).both ((CellT.stable k9 #[.slice (some ⟨g, i, none⟩) cN cC] tCurs).both ((hJ _).both (hU.both hR)))))
                have HS6 := Lib.hid h6.heapSum
                clear h6 h7
                (repeat' (first | (gi_big_may; fail) | go_values | gi_guarded | gi_step | gi_upon | gi_back | dsimp only))
                refine ⟨trivial, rfl, ?_⟩
                gi_at_call 40
                refine callsIn_wide.2 (HPE.out.mono ?_)
                rintro e w7 ⟨rfl, h8⟩
                have h8a := h8.swap
                have c8 := h8a.cellF (o := 0) (u := .slice (some ⟨g, i, none⟩) cN cC) rfl
                have c8a := c8.1
                have c8b := c8.2.1
                have h9 := (h8a.setCell ((cu.HeapT.stable b (cu.leftR cu.ltB L ++ [cu.tailC (cu.firstR cu.ltB L)]) (n + 1)).both ((CellT.stable k9 #[.slice (some ⟨g, i, none⟩) cN cC] tCurs).both ((hJ _).both (hU.both hR)))) 0 (.slice (pk (cu.leftR cu.ltB L ++ [cu.tailC (cu.firstR cu.ltB L)])).1.a (pk (cu.leftR cu.ltB L ++ [cu.tailC (cu.firstR cu.ltB L)])).1.n (pk (cu.leftR cu.ltB L ++ [cu.tailC (cu.firstR cu.ltB L)])).1.c)).swap.pull3.drop
                have H9 := Lib.hid h9
                clear h8 h8a c8 h9 HPE
                generalize w6.heap.size = k9' at *
                (repeat' (first | (gi_big_may; fail) | go_values | gi_guarded | gi_step | gi_upon | gi_back | dsimp only))
                go_roundw
                case rel => exact ⟨_, _, _, (cu.leftR cu.ltB L ++ [cu.tailC (cu.firstR cu.ltB L)]), (n + 1), k9', rfl, rfl, rfl, rfl, (by have q := HI2.out; rw [HKW.out] at q; exact q), HB2.out.1, HB2.out.2, H9.out⟩
                case measure => rw [H9.out.heapSum, HS0.out]; have := HB2.out; have := HSM.out; simp only [List.map_append, List.map_cons, List.map_nil, List.sum_append, List.sum_cons, List.sum_nil, HTN.out]; have := HSL.out; omega
              · have hI2 := hinv2.next hL
                have HI2 := Lib.hid (hI2.2 (by rw [HCL.out]; omega))
                have HB2 := Lib.hid (show (cu.leftR cu.ltB L).length ≤ 274877906944 ∧ n + ((cu.leftR cu.ltB L).map cu.Cur.n).sum ≤ 549755813888 by
                  have e1 := cu.sum_left hL
                  have e2 := cu.leftR_length (lt := cu.ltB) hL
                  omega)
                have hre := cu.Pop_at h5 ((CellT.stable k9 #[.slice (some ⟨g, i, none⟩) cN cC] tCurs).both ((hJ _).both (hU.both hR))) (by omega)
                have HRE := Lib.hid hre
                have c5 := (h5.drop.cellF (o := 0) (u := .slice (some ⟨g, i, none⟩) cN cC) rfl).1
                have HSM := Lib.hid (show True ∧ cN > 0 from ⟨trivial, by omega⟩)
                have hi1 : ¬ (1 : Int) < cN := by omega
                clear hre h5 hI2 hinv2
                (repeat' (first | (gi_big_may; fail) | go_values | gi_guarded | gi_step | gi_upon | gi_back | dsimp only))
                refine ⟨trivial, rfl, ?_⟩
                gi_at_call 42
                refine callsIn_wide.2 (HRE.out.mono ?_)
                rintro e w6 ⟨rfl, h6⟩
                clear HRE
                have h7 := h6.newCell ((cu.HeapT.stable b (cu.leftR cu.ltB L) n).both ((CellT.stable k9 #[.slice (some ⟨g, i, none⟩) cN cC] tCurs).both ((hJ _).both (hU.both hR)))) #[.slice (some ⟨g, i, none⟩) cN cC] tCurs
                have c6 := (h6.drop.cellF (o := 0) (u := .slice (some ⟨g, i, none⟩) cN cC) rfl).1
                have HPE := Lib.hid (Peek_pk h7.swap ((CellT.stable w6.heap.size #[.slice (some ⟨g, i, none⟩) cN cC] tCurs).both ((CellT.stable k9 #[.slice (some ⟨g, i, none⟩) cN cC] tCurs).both ((hJ _).both (hU.both hR)))))
                have HS6 := Lib.hid h6.heapSum
                clear h6 h7
                (repeat' (first | (gi_big_may; fail) | go_values | gi_guarded | gi_step | gi_upon | gi_back | dsimp only))
                refine ⟨trivial, rfl, ?_⟩
                gi_at_call 40
                refine callsIn_wide.2 (HPE.out.mono ?_)
                rintro e w7 ⟨rfl, h8⟩
                have h8a := h8.swap
                have c8 := h8a.cellF (o := 0) (u := .slice (some ⟨g, i, none⟩) cN cC) rfl
                have c8a := c8.1
                have c8b := c8.2.1
                have h9 := (h8a.setCell ((cu.HeapT.stable b (cu.leftR cu.ltB L) n).both ((CellT.stable k9 #[.slice (some ⟨g, i, none⟩) cN cC] tCurs).both ((hJ _).both (hU.both hR)))) 0 (.slice (pk (cu.leftR cu.ltB L)).1.a (pk (cu.leftR cu.ltB L)).1.n (pk (cu.leftR cu.ltB L)).1.c)).swap.pull3.drop
                have H9 := Lib.hid h9
                clear h8 h8a c8 h9 HPE
                generalize w6.heap.size = k9' at *
                (repeat' (first | (gi_big_may; fail) | go_values | gi_guarded | gi_step | gi_upon | gi_back | dsimp only))
                go_roundw
                case rel => exact ⟨_, _, _, (cu.leftR cu.ltB L), n, k9', rfl, rfl, rfl, rfl, (by have q := HI2.out; rw [HKW.out] at q; exact q), HB2.out.1, HB2.out.2, H9.out⟩
                case measure => rw [H9.out.heapSum, HS0.out]; have := HB2.out; have := HSM.out; have := HSL.out; omega
            · (repeat' (first | (gi_big_may; fail) | go_values | gi_guarded | gi_step | gi_upon | gi_back | dsimp only))
              refine bodyPost_ret (results_none rfl _ _ _) rfl ?_
              exact ⟨⟨_, rfl⟩, .inr ⟨_, hp, h3.pull3.drop.pull3.drop⟩⟩
          | true =>
            by_cases hw : kw = last
            · subst hw
              have hinv2 := hinv
              rw [← HKW.out] at hinv2
              by_cases h1 : 1 < cN
              · have hI2 := hinv2.next hL
                have HI2 := Lib.hid (hI2.1 (by rw [HCL.out]; exact h1))
                have HB2 := Lib.hid (show (cu.leftR cu.ltB L ++ [cu.tailC (cu.firstR cu.ltB L)]).length ≤ 274877906944 ∧ n + 1 + ((cu.leftR cu.ltB L ++ [cu.tailC (cu.firstR cu.ltB L)]).map cu.Cur.n).sum ≤ 549755813888 by
                  have e1 := cu.sum_left hL
                  have e2 := cu.leftR_length (lt := cu.ltB) hL
                  have e3 : (cu.tailC (cu.firstR cu.ltB L)).n = cN - 1 := by rw [← HCN.out]; rfl
                  rw [HCN.out] at e1
                  simp only [List.length_append, List.length_singleton, List.map_append, List.map_cons, List.map_nil, List.sum_append, List.sum_cons, List.sum_nil, e3]
                  omega)
                have hre := cu.Replace_at h5 ((CellT.stable k9 #[.slice (some ⟨g, i, none⟩) cN cC] tCurs).both ((hJ _).both (hU.both hR))) hL (by rw [HCN.out]; exact h1) (by omega) (by omega)
                rw [tail_v HCA.out, HCN.out, HCC.out] at hre
                have HRE := Lib.hid hre
                have c5 := (h5.drop.cellF (o := 0) (u := .slice (some ⟨g, i, none⟩) cN cC) rfl).1
                have HSM := Lib.hid (show True ∧ cN > 1 from ⟨trivial, h1⟩)
                have hi1 : (1 : Int) < cN := by omega
                clear hre h5 hI2 hinv2
                (repeat' (first | (gi_big_may; fail) | go_values | gi_guarded | gi_step | gi_upon | gi_back | dsimp only))
                refine ⟨trivial, rfl, ?_⟩
                gi_at_call 41
                refine callsIn_wide.2 (HRE.out.mono ?_)
                rintro e w6 ⟨rfl, h6⟩
                clear HRE
                have h7 := h6.newCell ((cu.HeapT.stable b (cu.leftR cu.ltB L ++ [cu.tailC (cu.firstR cu.ltB L)]) (n + 1)).both ((CellT.stable k9 #[.slice (some ⟨g, i, none⟩) cN cC] tCurs).both ((hJ _).both (hU.both hR)))) #[.slice (some ⟨g, i, none⟩) cN cC] tCurs
                have c6 := (h6.drop.cellF (o := 0) (u := .slice (some ⟨g, i, none⟩) cN cC) rfl).1
                have HPE := Lib.hid (Peek_pk h7.swap ((CellT.stable w6.heap.size #[.slice (some ⟨g, i, none⟩) cN cC] tCurs).both ((CellT.stable k9 #[.slice (some ⟨g, i, none⟩) cN cC] tCurs).both ((hJ _).both (hU.both hR)))))
                have HS6 := Lib.hid h6.heapSum
                clear h6 h7
                (repeat' (first | (gi_big_may; fail) | go_values | gi_guarded | gi_step | gi_upon | gi_back | dsimp only))
                refine ⟨trivial, rfl, ?_⟩
                gi_at_call 40
                refine callsIn_wide.2 (HPE.out.mono ?_)
                rintro e w7 ⟨rfl, h8⟩
                have h8a := h8.swap
                have c8 := h8a.cellF (o := 0) (u := .slice (some ⟨g, i, none⟩) cN cC) rfl
                have c8a := c8.1
                have c8b := c8.2.1
                have h9 := (h8a.setCell ((cu.HeapT.stable b (cu.leftR cu.ltB L ++ [cu.tailC (cu.firstR cu.ltB L)]) (n + 1)).both ((CellT.stable k9 #[.slice (some ⟨g, i, none⟩) cN cC] tCurs).both ((hJ _).both (hU.both hR)))) 0 (.slice (pk (cu.leftR cu.ltB L ++ [cu.tailC (cu.firstR cu.ltB L)])).1.a (pk (cu.leftR cu.ltB L ++ [cu.tailC (cu.firstR cu.ltB L)])).1.n (pk (cu.leftR cu.ltB L ++ [cu.tailC (cu.firstR cu.ltB L)])).1.c)).swap.pull3.drop
                have H9 := Lib.hid h9
                clear h8 h8a c8 h9 HPE
                generalize w6.heap.size = k9' at *
                (repeat' (first | (gi_big_may; fail) | go_values | gi_guarded | gi_step | gi_upon | gi_back | dsimp only))
                go_roundw
                case rel => exact ⟨_, _, _, (cu.leftR cu.ltB L ++ [cu.tailC (cu.firstR cu.ltB L)]), (n + 1), k9', rfl, rfl, rfl, rfl, (by have q := HI2.out; rw [HKW.out] at q; exact q), HB2.out.1, HB2.out.2, H9.out⟩
                case measure => rw [H9.out.heapSum, HS0.out]; have := HB2.out; have := HSM.out; simp only [List.map_append, List.map_cons, List.map_nil, List.sum_append, List.sum_cons, List.sum_nil, HTN.out]; have := HSL.out; omega
              · have hI2 := hinv2.next hL
                have HI2 := Lib.hid (hI2.2 (by rw [HCL.out]; omega))
                have HB2 := Lib.hid (show (cu.leftR cu.ltB L).length ≤ 274877906944 ∧ n + ((cu.leftR cu.ltB L).map cu.Cur.n).sum ≤ 549755813888 by
                  have e1 := cu.sum_left hL
                  have e2 := cu.leftR_length (lt := cu.ltB) hL
                  omega)
                have hre := cu.Pop_at h5 ((CellT.stable k9 #[.slice (some ⟨g, i, none⟩) cN cC] tCurs).both ((hJ _).both (hU.both hR))) (by omega)
                have HRE := Lib.hid hre
                have c5 := (h5.drop.cellF (o := 0) (u := .slice (some ⟨g, i, none⟩) cN cC) rfl).1
                have HSM := Lib.hid (show True ∧ cN > 0 from ⟨trivial, by omega⟩)
                have hi1 : ¬ (1 : Int) < cN := by omega
                clear hre h5 hI2 hinv2
                (repeat' (first | (gi_big_may; fail) | go_values | gi_guarded | gi_step | gi_upon | gi_back | dsimp only))
                refine ⟨trivial, rfl, ?_⟩
                gi_at_call 42
                refine callsIn_wide.2 (HRE.out.mono ?_)
                rintro e w6 ⟨rfl, h6⟩
                clear HRE
                have h7 := h6.newCell ((cu.HeapT.stable b (cu.leftR cu.ltB L) n).both ((CellT.stable k9 #[.slice (some ⟨g, i, none⟩) cN cC] tCurs).both ((hJ _).both (hU.both hR)))) #[.slice (some ⟨g, i, none⟩) cN cC] tCurs
                have c6 := (h6.drop.cellF (o := 0) (u := .slice (some ⟨g, i, none⟩) cN cC) rfl).1
                have HPE := Lib.hid (Peek_pk h7.swap ((CellT.stable w6.heap.size #[.slice (some ⟨g, i, none⟩) cN cC] tCurs).both ((CellT.stable k9 #[.slice (some ⟨g, i, none⟩) cN cC] tCurs).both ((hJ _).both (hU.both hR)))))
                have HS6 := Lib.hid h6.heapSum
                clear h6 h7
                (repeat' (first | (gi_big_may; fail) | go_values | gi_guarded | gi_step | gi_upon | gi_back | dsimp only))
                refine ⟨trivial, rfl, ?_⟩
                gi_at_call 40
                refine callsIn_wide.2 (HPE.out.mono ?_)
                rintro e w7 ⟨rfl, h8⟩
                have h8a := h8.swap
                have c8 := h8a.cellF (o := 0) (u := .slice (some ⟨g, i, none⟩) cN cC) rfl
                have c8a := c8.1
                have c8b := c8.2.1
                have h9 := (h8a.setCell ((cu.HeapT.stable b (cu.leftR cu.ltB L) n).both ((CellT.stable k9 #[.slice (some ⟨g, i, none⟩) cN cC] tCurs).both ((hJ _).both (hU.both hR)))) 0 (.slice (pk (cu.leftR cu.ltB L)).1.a (pk (cu.leftR cu.ltB L)).1.n (pk (cu.leftR cu.ltB L)).1.c)).swap.pull3.drop
                have H9 := Lib.hid h9
                clear h8 h8a c8 h9 HPE
                generalize w6.heap.size = k9' at *
                (repeat' (first | (gi_big_may; fail) | go_values | gi_guarded | gi_step | gi_upon | gi_back | dsimp only))
                go_roundw
                case rel => exact ⟨_, _, _, (cu.leftR cu.ltB L), n, k9', rfl, rfl, rfl, rfl, (by have q := HI2.out; rw [HKW.out] at q; exact q), HB2.out.1, HB2.out.2, H9.out⟩
                case measure => rw [H9.out.heapSum, HS0.out]; have := HB2.out; have := HSM.out; have := HSL.out; omega
            · obtain ⟨hp, hinv2⟩ := HLE.out (fun _ => hw)
              have hw2 : (kw == last) = false := beq_eq_false_iff_ne.2 hw
              have hw3 : (kw != last) = true := by simp [bne, hw2]
              obtain ⟨fn, tmps, assign, body, hy, hRd⟩ := HY.out pre kw hp wr _ ((cu.HeapT.stable b L n).both ((CellT.stable k9 #[.slice (some ⟨g, i, none⟩) cN cC] tCurs).both hR)) (h5.pull3.impl fun _ q => Both.mono (fun _ _ q => (Both.mono (fun _ _ q => q.assoc) q).assoc) q)
              unfold encS at hy
              rw [← HKW.out] at hinv2
              clear hinv HLE
              (repeat' (first | (gi_big_may; fail) | go_values | gi_guarded | gi_step | gi_upon | gi_back | dsimp only))
              refine ⟨rfl, hRd.mono ?_⟩
              rintro e w5 (⟨rfl, h3⟩ | ⟨rfl, h3⟩)
              · have h5 := h3.pull4.pull4
                have c5 := (h5.drop.cellF (o := 0) (u := .slice (some ⟨g, i, none⟩) cN cC) rfl).1
                clear h3 hRd hy hck
                by_cases h1 : 1 < cN
                · have hI2 := hinv2.next hL
                  have HI2 := Lib.hid (hI2.1 (by rw [HCL.out]; exact h1))
                  have HB2 := Lib.hid (show (cu.leftR cu.ltB L ++ [cu.tailC (cu.firstR cu.ltB L)]).length ≤ 274877906944 ∧ n + 1 + ((cu.leftR cu.ltB L ++ [cu.tailC (cu.firstR cu.ltB L)]).map cu.Cur.n).sum ≤ 549755813888 by
                    have e1 := cu.sum_left hL
                    have e2 := cu.leftR_length (lt := cu.ltB) hL
                    have e3 : (cu.tailC (cu.firstR cu.ltB L)).n = cN - 1 := by rw [← HCN.out]; rfl
                    rw [HCN.out] at e1
                    simp only [List.length_append, List.length_singleton, List.map_append, List.map_cons, List.map_nil, List.sum_append, List.sum_cons, List.sum_nil, e3]
                    omega)
                  have hre := cu.Replace_at h5 ((CellT.stable k9 #[.slice (some ⟨g, i, none⟩) cN cC] tCurs).both ((hJ _).both (hU.both hR))) hL (by rw [HCN.out]; exact h1) (by omega) (by omega)
                  rw [tail_v HCA.out, HCN.out, HCC.out] at hre
                  have HRE := Lib.hid hre
                  have c5 := (h5.drop.cellF (o := 0) (u := .slice (some ⟨g, i, none⟩) cN cC) rfl).1
                  have HSM := Lib.hid (show True ∧ cN > 1 from ⟨trivial, h1⟩)
                  have hi1 : (1 : Int) < cN := by omega
                  clear hre h5 hI2 hinv2
                  (repeat' (first | (gi_big_may; fail) | go_values | gi_guarded | gi_step | gi_upon | gi_back | dsimp only))
                  refine ⟨trivial, rfl, ?_⟩
                  gi_at_call 41
                  refine callsIn_wide.2 (HRE.out.mono ?_)
                  rintro e w6 ⟨rfl, h6⟩
                  clear HRE
                  have h7 := h6.newCell ((cu.HeapT.stable b (cu.leftR cu.ltB L ++ [cu.tailC (cu.firstR cu.ltB L)]) (n + 1)).both ((CellT.stable k9 #[.slice (some ⟨g, i, none⟩) cN cC] tCurs).both ((hJ _).both (hU.both hR)))) #[.slice (some ⟨g, i, none⟩) cN cC] tCurs
                  have c6 := (h6.drop.cellF (o := 0) (u := .slice (some ⟨g, i, none⟩) cN cC) rfl).1
                  have HPE := Lib.hid (Peek_pk h7.swap ((CellT.stable w6.heap.size #[.slice (some ⟨g, i, none⟩) cN cC] tCurs).both ((CellT.stable k9 #[.slice (some ⟨g, i, none⟩) cN cC] tCurs).both ((hJ _).both (hU.both hR)))))
                  have HS6 := Lib.hid h6.heapSum
                  clear h6 h7
                  (repeat' (first | (gi_big_may; fail) | go_values | gi_guarded | gi_step | gi_upon | gi_back | dsimp only))
                  refine ⟨trivial, rfl, ?_⟩
                  gi_at_call 40
                  refine callsIn_wide.2 (HPE.out.mono ?_)
                  rintro e w7 ⟨rfl, h8⟩
                  have h8a := h8.swap
                  have c8 := h8a.cellF (o := 0) (u := .slice (some ⟨g, i, none⟩) cN cC) rfl
                  have c8a := c8.1
                  have c8b := c8.2.1
                  have h9 := (h8a.setCell ((cu.HeapT.stable b (cu.leftR cu.ltB L ++ [cu.tailC (cu.firstR cu.ltB L)]) (n + 1)).both ((CellT.stable k9 #[.slice (some ⟨g, i, none⟩) cN cC] tCurs).both ((hJ _).both (hU.both hR)))) 0 (.slice (pk (cu.leftR cu.ltB L ++ [cu.tailC (cu.firstR cu.ltB L)])).1.a (pk (cu.leftR cu.ltB L ++ [cu.tailC (cu.firstR cu.ltB L)])).1.n (pk (cu.leftR cu.ltB L ++ [cu.tailC (cu.firstR cu.ltB L)])).1.c)).swap.pull3.drop
                  have H9 := Lib.hid h9
                  clear h8 h8a c8 h9 HPE
                  generalize w6.heap.size = k9' at *
                  (repeat' (first | (gi_big_may; fail) | go_values | gi_guarded | gi_step | gi_upon | gi_back | dsimp only))
                  go_roundw
                  case rel => exact ⟨_, _, _, (cu.leftR cu.ltB L ++ [cu.tailC (cu.firstR cu.ltB L)]), (n + 1), k9', rfl, rfl, rfl, rfl, (by have q := HI2.out; rw [HKW.out] at q; exact q), HB2.out.1, HB2.out.2, H9.out⟩
                  case measure => rw [H9.out.heapSum, HS0.out]; have := HB2.out; have := HSM.out; simp only [List.map_append, List.map_cons, List.map_nil, List.sum_append, List.sum_cons, List.sum_nil, HTN.out]; have := HSL.out; omega
                · have hI2 := hinv2.next hL
                  have HI2 := Lib.hid (hI2.2 (by rw [HCL.out]; omega))
                  have HB2 := Lib.hid (show (cu.leftR cu.ltB L).length ≤ 274877906944 ∧ n + ((cu.leftR cu.ltB L).map cu.Cur.n).sum ≤ 549755813888 by
                    have e1 := cu.sum_left hL
                    have e2 := cu.leftR_length (lt := cu.ltB) hL
                    omega)
                  have hre := cu.Pop_at h5 ((CellT.stable k9 #[.slice (some ⟨g, i, none⟩) cN cC] tCurs).both ((hJ _).both (hU.both hR))) (by omega)
                  have HRE := Lib.hid hre
                  have c5 := (h5.drop.cellF (o := 0) (u := .slice (some ⟨g, i, none⟩) cN cC) rfl).1
                  have HSM := Lib.hid (show True ∧ cN > 0 from ⟨trivial, by omega⟩)
                  have hi1 : ¬ (1 : Int) < cN := by omega
                  clear hre h5 hI2 hinv2
                  (repeat' (first | (gi_big_may; fail) | go_values | gi_guarded | gi_step | gi_upon | gi_back | dsimp only))
                  refine ⟨trivial, rfl, ?_⟩
                  gi_at_call 42
                  refine callsIn_wide.2 (HRE.out.mono ?_)
                  rintro e w6 ⟨rfl, h6⟩
                  clear HRE
                  have h7 := h6.newCell ((cu.HeapT.stable b (cu.leftR cu.ltB L) n).both ((CellT.stable k9 #[.slice (some ⟨g, i, none⟩) cN cC] tCurs).both ((hJ _).both (hU.both hR)))) #[.slice (some ⟨g, i, none⟩) cN cC] tCurs
                  have c6 := (h6.drop.cellF (o := 0) (u := .slice (some ⟨g, i, none⟩) cN cC) rfl).1
                  have HPE := Lib.hid (Peek_pk h7.swap ((CellT.stable w6.heap.size #[.slice (some ⟨g, i, none⟩) cN cC] tCurs).both ((CellT.stable k9 #[.slice (some ⟨g, i, none⟩) cN cC] tCurs).both ((hJ _).both (hU.both hR)))))
                  have HS6 := Lib.hid h6.heapSum
                  clear h6 h7
                  (repeat' (first | (gi_big_may; fail) | go_values | gi_guarded | gi_step | gi_upon | gi_back | dsimp only))
                  refine ⟨trivial, rfl, ?_⟩
                  gi_at_call 40
                  refine callsIn_wide.2 (HPE.out.mono ?_)
                  rintro e w7 ⟨rfl, h8⟩
                  have h8a := h8.swap
                  have c8 := h8a.cellF (o := 0) (u := .slice (some ⟨g, i, none⟩) cN cC) rfl
                  have c8a := c8.1
                  have c8b := c8.2.1
                  have h9 := (h8a.setCell ((cu.HeapT.stable b (cu.leftR cu.ltB L) n).both ((CellT.stable k9 #[.slice (some ⟨g, i, none⟩) cN cC] tCurs).both ((hJ _).both (hU.both hR)))) 0 (.slice (pk (cu.leftR cu.ltB L)).1.a (pk (cu.leftR cu.ltB L)).1.n (pk (cu.leftR cu.ltB L)).1.c)).swap.pull3.drop
                  have H9 := Lib.hid h9
                  clear h8 h8a c8 h9 HPE
                  generalize w6.heap.size = k9' at *
                  (repeat' (first | (gi_big_may; fail) | go_values | gi_guarded | gi_step | gi_upon | gi_back | dsimp only))
                  go_roundw
                  case rel => exact ⟨_, _, _, (cu.leftR cu.ltB L), n, k9', rfl, rfl, rfl, rfl, (by have q := HI2.out; rw [HKW.out] at q; exact q), HB2.out.1, HB2.out.2, H9.out⟩
                  case measure => rw [H9.out.heapSum, HS0.out]; have := HB2.out; have := HSM.out; have := HSL.out; omega
              · (repeat' (first | (gi_big_may; fail) | go_values | gi_guarded | gi_step | gi_upon | gi_back | dsimp only))
                refine bodyPost_ret (results_none rfl _ _ _) rfl ?_
                exact ⟨⟨_, rfl⟩, .inr ⟨_, hp, h3.pull3.drop.pull3.drop⟩⟩
end Go.Proofs.YtgeabmmicofanaaGreatDoor
namespace Go.Proofs.YtgeabmmicofanaaGreatDoor
open Go.RowKit

theorem info_St : (Tryz.prog.info? tStr).map (fun i => (i.zero, i.size, i.bytes)) = some (some (.agg #[.nilFunc]), 1, 8) := by kernel_rfl
set_option maxHeartbeats 800000 in
theorem CloneS_calls (vs : List Value) (v : Value) (w : World) (hv : RdRow w v vs.length 1 vs) (hone : ∀ u ∈ vs, u.oneCell' = true) (hlen : vs.length ≤ 1099511627776) :
    Calls Tryz.prog 34 #[v] w fun e w' => ∃ v', e = .returned v' ∧ w'.ownsRow w.heap.size tStr 1 v' vs.length vs ∧ Below w.heap.size w w' := by
  obtain ⟨a, cap, rfl, hc1, hc2⟩ := hv.shape
  cases a with
  | none =>
    have hz : vs = [] := by
      cases vs with
      | nil => rfl
      | cons x vs =>
        obtain ⟨_, a, cp, e, _, _, hc⟩ := hv
        obtain ⟨b, off, e1, _⟩ := hc 0 x rfl
        cases e
        cases e1
    subst hz
    clear hv
    have heq : ∀ wz : World, (binOp .eql 26 (.slice none 0 cap) (.slice none 0 0)).run Tryz.prog wz = .ok (.bool true) wz := fun wz => by kernel_rfl
    simp only [List.length_nil]
    go_enter Tryz.func34, Tryz.ntmps34
    (repeat' (first | (go_big_may; fail) | go_values | go_skip | go_guarded | go_step | go_upon | go_back | dsimp only))
    go_ret
    exact ⟨_, rfl, World.ownsRow_nil _ _ _ _, Below.refl _ _⟩
  | some a =>
    have heq : ∀ wz : World, (binOp .eql 26 (.slice (some a) vs.length cap) (.slice none 0 0)).run Tryz.prog wz = .ok (.bool false) wz := fun wz => by kernel_rfl
    have hba : Below w.heap.size w (w.alloc (.cells #[] tStr)) := (Below.refl _ _).alloc (Nat.le_refl _) _
    have HV := Lib.hid (hv.below hba)
    have h0 : (w.alloc (.cells #[] tStr)).ownsRow w.heap.size tStr 1 (.slice (some ⟨w.heap.size, 0, none⟩) 0 0) 0 [] := by
      refine ⟨rfl, .inr ⟨w.heap.size, 0, #[], rfl, Nat.le_refl _, heap_alloc_new w _, Nat.le_refl _, by simp [maxLen], rfl, rfl⟩⟩
    clear hv
    go_enter Tryz.func34, Tryz.ntmps34
    (repeat' (first | (go_big_may; (at_builtin; go_must (refine wpList_append_rd rfl _ _ 26 tStr rfl Tryz.underlying26 info_St rfl (by decide) rfl h0 rfl HV.out hone (by simp) (by unfold maxLen; omega) (by omega) ?_); intro v1 w1 hown1 hgrow1 _)) | go_values | go_skip | go_guarded | go_step | go_upon | go_back | dsimp only))
    go_ret
    exact ⟨_, rfl, by simpa using hown1, grownOwn hba (by simp) h0 hgrow1⟩
end Go.Proofs.YtgeabmmicofanaaGreatDoor
namespace Go.Proofs.YtgeabmmicofanaaGreatDoor
open Go.RowKit

/-- What a call that makes a stream leaves: memory N of its own, and a stream u: K says what of. -/
def MkU (W : World) (R : Thing) (K : Thing → Value → Prop) (e : Ending) (w' : World) : Prop := ∃ N u, Stable N ∧ u.oneCell' = true ∧ e = .returned (.agg #[u]) ∧ K N u ∧ At W w' (Both N R)
theorem IsStr.perm {W : World} {Φ Φ' : Thing} {v : Value} {L : List (List UInt8)} (h : IsStr W Φ v L) (e : Φ = Φ') : IsStr W Φ' v L := e ▸ h
section
variable {W w : World} {R : Thing}
set_option maxRecDepth 100000 in
set_option maxHeartbeats 2000000 in
theorem FromU_at {v : Value} (hR : Stable R) (h : At W w R) (z : List UInt8) :
    Calls Tryz.prog 18 #[.agg #[v], .string ⟨z.toArray⟩] w (MkU W R fun N u => ∀ Φ L, Stable Φ → IsStr W Φ v L → IsStr W (Both N Φ) u (notBelow z L)) := by
  have hs0 := hR
  have h1 := h.newCell hs0 #[.string ⟨z.toArray⟩] tTx
  have h0 := h.newCell hs0 #[v] tStr
  have h1 := h0.newCell ((CellT.stable _ _ _).both hs0) #[.string ⟨z.toArray⟩] tTx
  rw [show (w.alloc (.cells #[v] tStr)).heap.size = w.heap.size + 1 from by simp] at h1
  have hst1 := (CellT.stable (w.heap.size + 1) #[.string ⟨z.toArray⟩] tTx).both ((CellT.stable w.heap.size #[v] tStr).both hs0)
  have h2 := h1.newCell hst1 #[.func (.func 45) #[] #[.pointer (some ⟨w.heap.size, 0, none⟩), .pointer (some ⟨w.heap.size + 1, 0, none⟩)]] tStr
  rw [show ((w.alloc (.cells #[v] tStr)).alloc (.cells #[.string ⟨z.toArray⟩] tTx)).heap.size = w.heap.size + 1 + 1 from by simp] at h2
  have H2 := Lib.hid h2
  clear h0 h1 h h2
  go_enter Tryz.func18, Tryz.ntmps18
  (repeat' (first | (go_big_may; fail) | go_values | go_skip | go_guarded | go_step | go_upon | go_back | dsimp only))
  (try simp only [Exit.inBlock, Exit.then])
  refine bodyPost_ret (results_cell_row rfl _ _ (w.heap.size + 1 + 1) tStr #[.func (.func 45) #[] #[.pointer (some ⟨w.heap.size, 0, none⟩), .pointer (some ⟨w.heap.size + 1, 0, none⟩)]] (0, 0) _ rfl H2.out.cell.1 Tryz.underlying40 rfl (by kernel_rfl)) rfl ?_
  refine ⟨Both (CellT w.heap.size #[v] tStr) (CellT (w.heap.size + 1) #[.string ⟨z.toArray⟩] tTx), _, (CellT.stable _ _ _).both (CellT.stable _ _ _), rfl, rfl, fun Φ L hΦ hs => ?_, ?_⟩
  · exact .inr ⟨_, _, rfl, enters_of Tryz.func45 (by kernel_rfl) rfl, (from1_seqs hs hΦ w.heap.size (w.heap.size + 1) z).impl (fun _ _ q => Both.toL q) (fun _ _ q => Both.toR q)⟩
  · exact H2.out.drop.perm (by ac_rfl)
set_option maxRecDepth 100000 in
set_option maxHeartbeats 2000000 in
theorem siftU_at {vs vt : Value} (hR : Stable R) (h : At W w R) (b : Bool) :
    Calls Tryz.prog 43 #[.agg #[vs], .agg #[vt], .bool b] w (MkU W R fun N u => ∀ Φ L M, Stable Φ → RisesL L → RisesL M → M.length ≤ 1099511627776 → IsStr W Φ vs L → IsStr W Φ vt M → IsStr W (Both N Φ) u (siftL M b L)) := by
  have hs0 := hR
  have h0 := h.newCell hs0 #[vs] tStr
  have h1 := h0.newCell ((CellT.stable _ _ _).both hs0) #[vt] tStr
  rw [show (w.alloc (.cells #[vs] tStr)).heap.size = w.heap.size + 1 from by simp] at h1
  have hst1 := (CellT.stable (w.heap.size + 1) #[vt] tStr).both ((CellT.stable w.heap.size #[vs] tStr).both hs0)
  have h2 := h1.newCell hst1 #[.bool b] tBo
  rw [show ((w.alloc (.cells #[vs] tStr)).alloc (.cells #[vt] tStr)).heap.size = w.heap.size + 1 + 1 from by simp] at h2
  have hst2 := (CellT.stable (w.heap.size + 1 + 1) #[.bool b] tBo).both hst1
  have h3 := h2.newCell hst2 #[.func (.func 66) #[] #[.pointer (some ⟨w.heap.size + 1, 0, none⟩), .pointer (some ⟨w.heap.size, 0, none⟩), .pointer (some ⟨w.heap.size + 1 + 1, 0, none⟩)]] tStr
  rw [show (((w.alloc (.cells #[vs] tStr)).alloc (.cells #[vt] tStr)).alloc (.cells #[.bool b] tBo)).heap.size = w.heap.size + 1 + 1 + 1 from by simp] at h3
  have H3 := Lib.hid h3
  clear h0 h1 h h2 h3
  go_enter Tryz.func43, Tryz.ntmps43
  (repeat' (first | (go_big_may; fail) | go_values | go_skip | go_guarded | go_step | go_upon | go_back | dsimp only))
  (try simp only [Exit.inBlock, Exit.then])
  refine bodyPost_ret (results_cell_row rfl _ _ (w.heap.size + 1 + 1 + 1) tStr #[.func (.func 66) #[] #[.pointer (some ⟨w.heap.size + 1, 0, none⟩), .pointer (some ⟨w.heap.size, 0, none⟩), .pointer (some ⟨w.heap.size + 1 + 1, 0, none⟩)]] (0, 0) _ rfl H3.out.cell.1 Tryz.underlying40 rfl (by kernel_rfl)) rfl ?_
  refine ⟨Both (CellT (w.heap.size + 1) #[vt] tStr) (Both (CellT w.heap.size #[vs] tStr) (CellT (w.heap.size + 1 + 1) #[.bool b] tBo)), _, (CellT.stable _ _ _).both ((CellT.stable _ _ _).both (CellT.stable _ _ _)), rfl, rfl, fun Φ L M hΦ hL hM hn hs ht => ?_, ?_⟩
  · exact .inr ⟨_, _, rfl, enters_of Tryz.func66 (by kernel_rfl) rfl,
      (sift1_seqs hs ht hΦ hL hM hn (w.heap.size + 1) w.heap.size (w.heap.size + 1 + 1) b).impl (fun _ _ q => Both.toL (Both.mono (fun _ _ q => Both.toL q) q)) (fun _ _ q => Both.mono (fun _ _ q => Both.toR q) (Both.toR q))⟩
  · exact H3.out.drop.perm (by ac_rfl)
set_option maxRecDepth 100000 in
set_option maxHeartbeats 2000000 in
theorem MinusU_at {vs vt : Value} (hR : Stable R) (h : At W w R) :
    Calls Tryz.prog 14 #[.agg #[vs], .agg #[vt]] w (MkU W R fun N u => ∀ Φ L M, Stable Φ → RisesL L → RisesL M → M.length ≤ 1099511627776 → IsStr W Φ vs L → IsStr W Φ vt M → IsStr W (Both N Φ) u (minusL L M)) := by
  have hs0 := hR
  have h0 := (h.alloc hs0 (.cells #[vs] tStr)).alloc hs0 (.cells #[vt] tStr)
  have h1 := h0.newCell hs0 #[.nilFunc] tStr
  rw [show ((w.alloc (.cells #[vs] tStr)).alloc (.cells #[vt] tStr)).heap.size = w.heap.size + 1 + 1 from by simp] at h1
  have hR1 := (CellT.stable (w.heap.size + 1 + 1) #[.nilFunc] tStr).both hR
  have HC := Lib.hid (siftU_at (vs := vs) (vt := vt) hR1 h1 false)
  clear h0 h1 h
  go_enter Tryz.func14, Tryz.ntmps14
  (repeat' (first | (go_big_may; fail) | go_values | go_skip | go_guarded | go_step | go_upon | go_back | dsimp only))
  refine HC.out.mono ?_
  rintro e w2 ⟨N, u, hN, hu1, rfl, hq, h2⟩
  have h3 := h2.swap
  have c3 := h3.cellF (o := 0) (u := .nilFunc) rfl
  have hst := store_one (P := Tryz.prog) hu1 c3.1 c3.2.1
  have h4 := h3.setCell (hN.both hR) 0 u
  have HQ := Lib.hid hq
  have H4 := Lib.hid h4
  clear h2 h3 c3 h4 hq HC
  generalize w.heap.size + 1 + 1 = kr at *
  (repeat' (first | (go_big_may; fail) | go_values | go_skip | go_guarded | go_step | go_upon | go_back | dsimp only))
  (try simp only [Exit.inBlock, Exit.then])
  refine bodyPost_ret (results_cell_row rfl _ _ kr tStr #[u] (0, 0) _ rfl H4.out.cell.1 Tryz.underlying40 rfl (by kernel_rfl)) rfl ?_
  exact ⟨N, u, hN, hu1, rfl, fun Φ L M hΦ hL hM hn hs ht => sift_minus M L ▸ HQ.out Φ L M hΦ hL hM hn hs ht, H4.out.drop⟩
set_option maxRecDepth 100000 in
set_option maxHeartbeats 2000000 in
theorem CommonU_at {vs vt : Value} (hR : Stable R) (h : At W w R) :
    Calls Tryz.prog 16 #[.agg #[vs], .agg #[vt]] w (MkU W R fun N u => ∀ Φ L M, Stable Φ → RisesL L → RisesL M → M.length ≤ 1099511627776 → IsStr W Φ vs L → IsStr W Φ vt M → IsStr W (Both N Φ) u (commonW L M)) := by
  have hs0 := hR
  have h0 := (h.alloc hs0 (.cells #[vs] tStr)).alloc hs0 (.cells #[vt] tStr)
  have h1 := h0.newCell hs0 #[.nilFunc] tStr
  rw [show ((w.alloc (.cells #[vs] tStr)).alloc (.cells #[vt] tStr)).heap.size = w.heap.size + 1 + 1 from by simp] at h1
  have hR1 := (CellT.stable (w.heap.size + 1 + 1) #[.nilFunc] tStr).both hR
  have HC := Lib.hid (siftU_at (vs := vs) (vt := vt) hR1 h1 true)
  clear h0 h1 h
  go_enter Tryz.func16, Tryz.ntmps16
  (repeat' (first | (go_big_may; fail) | go_values | go_skip | go_guarded | go_step | go_upon | go_back | dsimp only))
  refine HC.out.mono ?_
  rintro e w2 ⟨N, u, hN, hu1, rfl, hq, h2⟩
  have h3 := h2.swap
  have c3 := h3.cellF (o := 0) (u := .nilFunc) rfl
  have hst := store_one (P := Tryz.prog) hu1 c3.1 c3.2.1
  have h4 := h3.setCell (hN.both hR) 0 u
  have HQ := Lib.hid hq
  have H4 := Lib.hid h4
  clear h2 h3 c3 h4 hq HC
  generalize w.heap.size + 1 + 1 = kr at *
  (repeat' (first | (go_big_may; fail) | go_values | go_skip | go_guarded | go_step | go_upon | go_back | dsimp only))
  (try simp only [Exit.inBlock, Exit.then])
  refine bodyPost_ret (results_cell_row rfl _ _ kr tStr #[u] (0, 0) _ rfl H4.out.cell.1 Tryz.underlying40 rfl (by kernel_rfl)) rfl ?_
  exact ⟨N, u, hN, hu1, rfl, fun Φ L M hΦ hL hM hn hs ht => sift_common M L ▸ HQ.out Φ L M hΦ hL hM hn hs ht, H4.out.drop⟩
set_option maxRecDepth 100000 in
set_option maxHeartbeats 2000000 in
theorem UnionU_at {v : Value} {vs : List Value} (hone : ∀ u ∈ vs, u.oneCell' = true) (hvl : vs.length ≤ 1099511627776) (hR : Stable R) (h : At W w R) (hrd : RdRow w v vs.length 1 vs) :
    Calls Tryz.prog 12 #[v] w (MkU W R fun N u => ∀ Φ Ls, Stable Φ → (∀ L ∈ Ls, RisesL L) → Ls.length ≤ 274877906944 → Ls.flatten.length ≤ 274877906944 → IsStrs W Φ vs Ls → IsStr W (Both N Φ) u (cu.unionL Ls)) := by
  have hs0 := hR
  have h1 := h.newCell hs0 #[.nilFunc] tStr
  have hs1 := (CellT.stable w.heap.size #[.nilFunc] tStr).both hs0
  have HCL := Lib.hid (CloneS_calls vs v _ (hrd.below ((Below.refl _ _).alloc (Nat.le_refl _) (.cells #[.nilFunc] tStr))) hone hvl)
  have H1 := Lib.hid h1
  clear h h1 hrd
  go_enter Tryz.func12, Tryz.ntmps12
  (repeat' (first | (go_big_may; fail) | go_values | go_skip | go_guarded | go_step | go_upon | go_back | dsimp only))
  refine HCL.out.mono ?_
  rintro e w1 ⟨v1, rfl, ho, hb1⟩
  obtain ⟨ao, cap, rfl, _, _⟩ := own_shape ho
  have h2 := H1.out.newRowG hs1 hb1 ho
  have h3 := h2.newCell ((RowG.stable _ _ _ _ _).both hs1) #[.slice ao vs.length cap] tStrs
  have h4 := h3.pull3
  have c4 := h4.cellF (o := 0) (u := .nilFunc) rfl
  have g4 := c4.1
  have f4 := c4.2.1
  have h5 := h4.setCell ((CellT.stable w1.heap.size #[.slice ao vs.length cap] tStrs).both ((RowG.stable tStr 1 (.slice ao vs.length cap) vs.length vs).both hs0)) 0 (.func (.func 35) #[] #[.pointer (some ⟨w1.heap.size, 0, none⟩)])
  have H5 := Lib.hid h5
  clear h2 h3 h4 c4 h5 HCL ho hb1 H1
  generalize w.heap.size = kr at *
  (repeat' (first | (go_big_may; fail) | go_values | go_skip | go_guarded | go_step | go_upon | go_back | dsimp only))
  (try simp only [Exit.inBlock, Exit.then])
  refine bodyPost_ret (results_cell_row rfl _ _ kr tStr #[.func (.func 35) #[] #[.pointer (some ⟨w1.heap.size, 0, none⟩)]] (0, 0) _ rfl H5.out.cell.1 Tryz.underlying40 rfl (by kernel_rfl)) rfl ?_
  refine ⟨Both (CellT w1.heap.size #[.slice ao vs.length cap] tStrs) (RowG tStr 1 (.slice ao vs.length cap) vs.length vs), _, (CellT.stable _ _ _).both (RowG.stable _ _ _ _ _), rfl, rfl, fun Φ Ls hΦ hLs hn ht hs => ?_, ?_⟩
  · exact .inr ⟨_, _, rfl, enters_of Tryz.func35 (by kernel_rfl) rfl, (union1_seqs hs hΦ hLs hn ht w1.heap.size (.slice ao vs.length cap)).impl (fun _ _ q => Both.toL q) (fun _ _ q => Both.toR q)⟩
  · exact H5.out.drop.perm (by ac_rfl)
end
end Go.Proofs.YtgeabmmicofanaaGreatDoor
namespace Go.Proofs.YtgeabmmicofanaaGreatDoor
open Go.RowKit

/-- Streams' functions, and what each gives. -/
def Envs (W : World) (Φ : Thing) (es : List (Value × List (List UInt8))) : Prop := ∀ e ∈ es, IsStr W Φ e.1 e.2
theorem Envs.nil (W : World) (Φ : Thing) : Envs W Φ [] := fun _ h => by simp at h
theorem Envs.get {W : World} {Φ : Thing} {es : List (Value × List (List UInt8))} (h : Envs W Φ es) (u : Value) (L : List (List UInt8)) (hm : (u, L) ∈ es) : IsStr W Φ u L := h (u, L) hm
theorem Envs.frame {W : World} {Φ N : Thing} {es : List (Value × List (List UInt8))} (h : Envs W Φ es) (hΦ : Stable Φ) (hN : Stable N) : Envs W (Both N Φ) es := fun e he => (h e he).frame hΦ hN
theorem Envs.cons {W : World} {Φ : Thing} {es : List (Value × List (List UInt8))} {u : Value} {L : List (List UInt8)} (h : Envs W Φ es) (hu : IsStr W Φ u L) : Envs W Φ ((u, L) :: es) := fun e he => by
  rcases List.mem_cons.1 he with rfl | he
  · exact hu
  · exact h e he
section
variable {W w : World} {Φ R : Thing} {es : List (Value × List (List UInt8))}
theorem rd_new (w : World) (cs : Array Value) (T : TypeId) (n : Nat) (h : cs.size = n) (hn : n ≤ maxLen) : RdRow (w.alloc (.cells cs T)) (.slice (some ⟨w.heap.size, 0, none⟩) n n) n 1 cs.toList := by
  refine ⟨by simpa using h, _, _, rfl, Nat.le_refl _, hn, fun j u hu => ⟨_, _, rfl, ?_⟩⟩
  rw [World.cell?_alloc_at _ _ _ _ (by simp)]
  simpa using hu
end
theorem unionL_rises (Ls : List (List (List UInt8))) : RisesL (cu.unionL Ls) := ofL_rises _
theorem mem_unionL {Ls : List (List (List UInt8))} {x : List UInt8} : x ∈ cu.unionL Ls ↔ ∃ L ∈ Ls, x ∈ L := by
  unfold cu.unionL; rw [ofL_mem, List.mem_flatten]
theorem unionL_two {a b : List (List UInt8)} (ha : RisesL a) (hb : RisesL b) : cu.unionL [a, b] = mergeL a b :=
  RisesL.ext (unionL_rises _) (mergeL_rises ha hb) fun x => by rw [mem_unionL, mergeL_mem]; simp
end Go.Proofs.YtgeabmmicofanaaGreatDoor
