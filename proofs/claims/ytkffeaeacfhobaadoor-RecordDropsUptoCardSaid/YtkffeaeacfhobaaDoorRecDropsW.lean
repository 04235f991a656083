/- RecordDrops walked. -/
import Derived.Test.YtkffeaeacfhobaaDoorRecDropP
import Derived.Test.YtkffeaeacfhobaaDoorRecCode
import Derived.Test.YtkffeaeacfhobaaDoorRecWakes
import Derived.Test.YtkffeaeacfhobaaDoorCards
import Derived.Test.YtkffeaeacfhobaaDoorTie
import Derived.Deep.DeepHandedRow
import Derived.Deep.DeepWitnessRowRef
import Derived.LaidMore
import Derived.LaidEql
import Derived.Test.YtkffeaeacfhobaaDoorRecOpen
import Derived.Test.YtkffeaeacfhobaaDoorStill
import Derived.Deep.RegionHeld3
namespace Go.Proofs.YtkffeaeacfhobaaDoor
open Go.RowKit

theorem block_num (B : Int) : ∃ b : Nat, 1 ≤ b ∧ b ≤ 64 ∧ 1 + (max 0 B).tmod 64 = (b : Int) ∧ IntKind.i64.wrap (1 + (max 0 B).tmod 64) = (b : Int) := by
  have h0 : (0 : Int) ≤ (max 0 B).tmod 64 := Int.tmod_nonneg _ (Int.le_max_left _ _)
  have h1 : (max 0 B).tmod 64 < 64 := Int.tmod_lt_of_pos _ (by decide)
  refine ⟨(1 + (max 0 B).tmod 64).toNat, by omega, by omega, by omega, ?_⟩
  rw [IntKind.wrap_i64] <;> omega

theorem At.turn2 {W w : World} {A B C D E : Thing} (h : At W w (Both A (Both B (Both C (Both D E))))) : At W w (Both C (Both D (Both A (Both B E)))) :=
  h.pull3.impl fun _ q => Both.mono (fun _ _ h => (Both.mono (fun _ _ h => h.assoc) h).assoc) q
theorem code_any {W w : World} {ef : Nat → Nat × Nat} (hF : Fails W ef fails11) (hb : Below W.heap.size W w) {d : Nat} (hd : okC d) :
    Calls Tryd.prog 20 #[errV ef d] w fun e w' => e = .returned (.int .i64 d) ∧ w = w' := code6_calls (hF.below hb) hd
theorem put_len {r : List UInt8} {m : Nat} (h : r.length ≤ m) (hm : m ≤ 1048576) : (frameL [r]).length ≤ 1048600 := by
  simp [frameL]
  have h1 : (uintL r.length).length ≤ 10 := uintL_length10 (by omega)
  omega
theorem goodInv : Inv GoodS := ⟨fun _ h _ => h.le, fun _ z t h => h.append z t⟩
theorem len_sum6 {r : List UInt8} : ∀ {ss : List (List UInt8)}, r ∈ ss → r.length ≤ sumLen ss
  | s :: ss, h => by
    have e : sumLen (s :: ss) = s.length + sumLen ss := by simp [sumLen]
    rw [e]
    rcases List.mem_cons.1 h with rfl | h
    · omega
    · have := len_sum6 h; omega
theorem run_one : inI64 ((1 : Nat) : Int) := by unfold inI64; omega
section
variable {W w : World} {ef : Nat → Nat × Nat} {X : Thing} {k kr sb rb bl : Nat} {S : St} {x y : WrD}
theorem dPut (hF : Fails W ef fails11) (hbl : 1 ≤ bl ∧ bl ≤ 64) (hO : One S) (hW : OkW bl x) {r : List UInt8} (hr : r.length ≤ 1048576) (h : At W w (Both (WrT k sb ef x) (Both (StoreT sb S) X))) (hX : Stable X) {v : Value} (hrd : RdRow w v [r].length 1 (strs [r])) :
    Calls Tryd.prog 8 #[.pointer (some ⟨k, 0, none⟩), v] w fun e w' => e = .returned (errV ef (putP S x [r]).2.2) ∧ At W w' (Both (WrT k sb ef (putP S x [r]).2.1) (Both (StoreT sb (putP S x [r]).1) X)) := by
  have hl := put_len hr (Nat.le_refl _)
  have hs := hW.small
  have hk := hW.block
  exact Put_at goodInv h hX hF hO.1 (by omega) (by omega) (by rw [hW.run]; exact run_one) hrd (by omega)
theorem dPut6 (hbl : 1 ≤ bl ∧ bl ≤ 64) (hO : One S) (hW : OkW bl x) (hS : WSim x y) {r : List UInt8} (hr : r.length ≤ 1048576) (h : At W w (Both (RwT kr y) (Both (RefT rb S) X))) (hX : Stable X) {v : Value} (hrd : RdRow w v [r].length 1 (strs [r])) :
    Calls Tryd.prog 22 #[.pointer (some ⟨rb, 0, none⟩), .pointer (some ⟨kr, 0, none⟩), v] w fun e w' => e = .returned (.int .i64 (putP S x [r]).2.2) ∧ ∃ y', WSim (putP S x [r]).2.1 y' ∧ At W w' (Both (RwT kr y') (Both (RefT rb (putP S x [r]).1) X)) := by
  obtain ⟨s1, s2, s3⟩ := putP_sim (S := S) hS [r]
  have hl := put_len hr (Nat.le_refl _)
  have hs := hW.small
  have hk := hW.block
  have hp := rPut_at h hX hO.1 (by rw [hS.block]; omega) (by rw [hS.block]; omega) (by rw [hS.run, hW.run]; exact run_one) hrd (fun e => by rw [hS.buf (by rw [← hS.dead]; exact e)]; omega)
  rw [s1, s2] at hp
  exact hp.mono fun e w' ⟨he, y', hy, h'⟩ => ⟨he, y', s3.trans hy, h'⟩
theorem dClose (hF : Fails W ef fails11) (hO : GoodS S) (hr : x.run = 1) (hs : x.buf.length ≤ 100000) (h : At W w (Both (WrT k sb ef x) (Both (StoreT sb S) X))) (hX : Stable X) :
    Calls Tryd.prog 9 #[.pointer (some ⟨k, 0, none⟩)] w fun e w' => e = .returned (.tuple #[.int .i64 (closeP S x).2.2.1, errV ef (closeP S x).2.2.2]) ∧ At W w' (Both (WrT k sb ef (closeP S x).2.1) (Both (StoreT sb (closeP S x).1) X)) :=
  Close_at goodInv h hX hF hO (by rw [hr]; exact run_one) (by omega)
theorem dClose6 (hO : GoodS S) (hr : x.run = 1) (hs : x.buf.length ≤ 100000) (hS : WSim x y) (h : At W w (Both (RwT kr y) (Both (RefT rb S) X))) (hX : Stable X) :
    Calls Tryd.prog 23 #[.pointer (some ⟨rb, 0, none⟩), .pointer (some ⟨kr, 0, none⟩)] w fun e w' => e = .returned (.tuple #[.int .i64 (closeP S x).2.2.1, .int .i64 (closeP S x).2.2.2]) ∧ ∃ y', WSim (closeP S x).2.1 y' ∧ At W w' (Both (RwT kr y') (Both (RefT rb (closeP S x).1) X)) := by
  obtain ⟨s1, s2, s3⟩ := closeP_sim (S := S) hS
  have hp := rClose_at h hX hO (by rw [hS.run, hr]; exact run_one) (fun e => by rw [hS.buf (by rw [← hS.dead]; exact e)]; omega)
  rw [s1, s2] at hp
  exact hp.mono fun e w' ⟨he, y', hy, h'⟩ => ⟨he, y', s3.trans hy, h'⟩
end
set_option maxRecDepth 100000 in
set_option maxHeartbeats 12800000 in
theorem recordDrops_walk (W : World) (ef : Nat → Nat × Nat) (hF : Fails W ef fails11) (ss : List (List UInt8)) (rv : Value) (rd : RdRow W rv ss.length 1 (strs ss)) (hlen : ss.length + sumLen ss + 1 ≤ 1048576) (B n c : Int) (_ : inI64 B) (hn : inI64 n) (hc : inI64 c) :
    Calls Tryd.prog 4 #[.agg #[rv, .int .i64 B, .int .i64 n, .int .i64 c]] W fun e w' => e = .returned (.bool true) ∧ Below W.heap.size W w' := by
  have HF := Lib.hid hF
  have HRD := Lib.hid rd
  have HLN := Lib.hid hlen
  have HN := Lib.hid hn
  have HC := Lib.hid hc
  obtain ⟨av, cv, hv, _, _⟩ := rd.shape
  subst hv
  obtain ⟨bl, hb1, hb2, hb3, _⟩ := block_num B
  have hb4 : IntKind.i64.wrap (bl : Int) = (bl : Int) := by rw [IntKind.wrap_i64] <;> omega
  have HBL := Lib.hid (And.intro hb1 hb2)
  have H0 := Lib.hid ((At.nought (Below.refl W.heap.size W)).newCell Stable.nought #[.slice av ss.length cv, .int .i64 B, .int .i64 n, .int .i64 c] 46)
  have HST0 := Lib.hid ((CellT.stable W.heap.size #[.slice av ss.length cv, .int .i64 B, .int .i64 n, .int .i64 c] 46).both Stable.nought)
  clear hF rd hlen hn hc hb1 hb2
  go_enter Tryd.func4, Tryd.ntmps4
  (repeat' (first | (go_big_may; fail) | go_values | go_skip | go_guarded | go_step | go_upon | go_back | dsimp only))
  generalize W.heap.size = bx at *
  refine (wakes_calls _).mono ?_
  rintro e w1 ⟨rfl, hb⟩
  have H1 := Lib.hid (H0.out.mono HST0.out hb)
  clear hb H0
  have hx1 := H1.out.cell.1
  have x0 := cell_at hx1 0
  have x1 := cell_at hx1 1
  have x2 := cell_at hx1 2
  have x3 := cell_at hx1 3
  have hlx := lt_of_heap hx1
  clear hx1
  (repeat' (first | (go_big_may; fail) | go_values | go_skip | go_guarded | go_step | go_upon | go_back | dsimp only))
  go_cut [3, 4, 5] (fun v3 v4 v5 wx => v3 = .slice av ss.length cv ∧ v4 = .int .i64 n ∧ v5 = .int .i64 bl ∧ At W wx (Both (CellT bx #[.slice av ss.length cv, .int .i64 B, .int .i64 n, .int .i64 c] 46) Nought))
  case first =>
    refine wp_only ?_
    rename_i J K' hJ hK
    have HJ := Lib.hid hJ
    have HK := Lib.hid hK
    clear hJ hK
    have hcg := And.intro x0 (And.intro x1 x2)
    have H2 := Lib.hid (H1.out.mono HST0.out (show Below w1.heap.size w1 w1.drew from ⟨rfl, rfl, rfl, Nat.le_refl _, fun _ _ => rfl⟩))
    go_region_held3 (fun wx => wx.cell? ⟨bx, 0, none⟩ = some (.slice av ss.length cv) ∧ wx.cell? ⟨bx, 1, none⟩ = some (.int .i64 B) ∧ wx.cell? ⟨bx, 2, none⟩ = some (.int .i64 n)) (first | assumption | go_keep) (fail)
    all_goals (refine HK.out _ _ ?_; have hJ := HJ.out; go_meet)
    all_goals exact ⟨rfl, rfl, rfl, H2.out⟩
  case rest =>
  obtain ⟨e3, e4, e5, h2⟩ := hcut
  subst e3 e4 e5
  have H2 := Lib.hid h2
  clear h2 H1 x0 x1 x2 x3 hlx hb3 hb4
  (repeat' (first | (go_big_may; fail) | go_values | go_skip | go_guarded | go_step | go_upon | go_back | dsimp only))
  go_cut [6, 7] (fun v6 v7 wx => ∃ sb rb, v6 = .pointer (some ⟨sb, 0, none⟩) ∧ v7 = .pointer (some ⟨rb, 0, none⟩) ∧ At W wx (Both (StoreT sb (newSt c)) (Both (RefT rb (newSt c)) Nought)))
  case first =>
    refine wp_only ?_
    rename_i J K' hJ hK
    have HJ := Lib.hid hJ
    have HK := Lib.hid hK
    clear hJ hK
    have hnew := fun (w' : World) (hb : Below wc.heap.size wc w') => New_at (H2.out.mono HST0.out hb) HST0.out HC.out
    have hrnew := fun (w' : World) (hb : Below wc.heap.size wc w') => rNew_at (H2.out.mono HST0.out hb) HST0.out HC.out
    have hnew2 := fun (rb : Nat) (w3 : World) (h3 : At W w3 (Both (RefT rb (newSt c)) (Both (CellT bx #[.slice av ss.length cv, .int .i64 B, .int .i64 n, .int .i64 c] 46) Nought))) (w' : World) (hb : Below w3.heap.size w3 w') => New_at (h3.mono ((RefT.stable _ _).both HST0.out) hb) ((RefT.stable _ _).both HST0.out) HC.out
    have hrnew2 := fun (sb : Nat) (w3 : World) (h3 : At W w3 (Both (StoreT sb (newSt c)) (Both (CellT bx #[.slice av ss.length cv, .int .i64 B, .int .i64 n, .int .i64 c] 46) Nought))) (w' : World) (hb : Below w3.heap.size w3 w') => rNew_at (h3.mono ((StoreT.stable _ _).both HST0.out) hb) ((StoreT.stable _ _).both HST0.out) HC.out
    have HNEW := Lib.hid hnew
    have HRNEW := Lib.hid hrnew
    have HNEW2 := Lib.hid hnew2
    have HRNEW2 := Lib.hid hrnew2
    have hx2 := H2.out.cell.1
    have hcg := cell_at hx2 3
    have hlx := lt_of_heap hx2
    clear hnew hrnew hnew2 hrnew2 hx2
    go_region_held3 (fun wx => wx.cell? ⟨bx, 3, none⟩ = some (.int .i64 c)) (first | assumption | go_keep) ((first
      | ((refine Calls.mono (HRNEW2.out _ _ H3n.out _ (by exact ⟨rfl, rfl, rfl, Nat.le_refl _, fun _ _ => rfl⟩)) ?_); rintro e w4 ⟨rfl, h4⟩; have cg4 := cell_at h4.drop.drop.cell.1 3; have hl4 := lt_of_heap h4.drop.drop.cell.1; have H4 := Lib.hid h4.swap; clear h4)
      | ((refine Calls.mono (HNEW2.out _ _ H3r.out _ (by exact ⟨rfl, rfl, rfl, Nat.le_refl _, fun _ _ => rfl⟩)) ?_); rintro e w4 ⟨rfl, h4⟩; have cg4 := cell_at h4.drop.drop.cell.1 3; have hl4 := lt_of_heap h4.drop.drop.cell.1; have H4 := Lib.hid h4; clear h4)
      | (go_at_call 7; (refine Calls.mono (HNEW.out _ (by exact ⟨rfl, rfl, rfl, Nat.le_refl _, fun _ _ => rfl⟩)) ?_); rintro e w3 ⟨rfl, h3⟩; have cg3 := cell_at h3.drop.cell.1 3; have hl3 := lt_of_heap h3.drop.cell.1; have H3n := Lib.hid h3; clear h3)
      | (go_at_call 16; (refine Calls.mono (HRNEW.out _ (by exact ⟨rfl, rfl, rfl, Nat.le_refl _, fun _ _ => rfl⟩)) ?_); rintro e w3 ⟨rfl, h3⟩; have cg3 := cell_at h3.drop.cell.1 3; have hl3 := lt_of_heap h3.drop.cell.1; have H3r := Lib.hid h3; clear h3)))
    all_goals (refine HK.out _ _ ?_; have hJ := HJ.out; go_meet)
    all_goals exact ⟨_, _, rfl, rfl, H4.out.pull3.drop⟩
  case rest =>
  obtain ⟨sb, rb, e6, e7, h3⟩ := hcut
  subst e6 e7
  have H3 := Lib.hid h3
  clear h3 H2
  (repeat' (first | (go_big_may; fail) | go_values | go_skip | go_guarded | go_step | go_upon | go_back | dsimp only))
  refine (Break_at H3.out ((RefT.stable _ _).both Stable.nought) HN.out).mono ?_
  rintro e w4 ⟨rfl, h4⟩
  have H4 := Lib.hid h4.swap
  clear h4 H3
  (repeat' (first | (go_big_may; fail) | go_values | go_skip | go_guarded | go_step | go_upon | go_back | dsimp only))
  refine (rBreak_at H4.out ((StoreT.stable _ _).both Stable.nought) HN.out).mono ?_
  rintro e w5 ⟨rfl, h5⟩
  have H5 := Lib.hid h5.swap
  clear h5 H4
  (repeat' (first | (go_big_may; fail) | go_values | go_skip | go_guarded | go_step | go_upon | go_back | dsimp only))
  have HG0 := Lib.hid ((GoodS.new c).brk HN.out)
  have HO := Lib.hid (create_one (c := c) HN.out)
  have HNO := Lib.hid (create_none (c := c) (n := n))
  generalize breakS (newSt c) n = S0 at *
  obtain ⟨hbl1, hbl2⟩ := HBL.out
  by_cases hcr : (createP S0).2.2 = 0
  · obtain ⟨hone, hrun⟩ := HO.out hcr
    have ho := Open_ok H5.out ((RefT.stable _ _).both Stable.nought) HF.out ⟨hbl1, by omega⟩ hcr
    rw [hrun] at ho
    have hro := fun (k : Nat) (w6 : World) (h6 : At W w6 (Both (WrT k sb ef ⟨1, bl, [], 0⟩) (Both (StoreT sb (createP S0).1) (Both (RefT rb S0) Nought)))) => rOpen_ok h6.pull3 ((WrT.stable _ _ _ _).both ((StoreT.stable _ _).both Stable.nought)) HG0.out ⟨hbl1, by omega⟩ hcr
    rw [hrun] at hro
    have HRO := Lib.hid hro
    have HON := Lib.hid hone
    generalize (createP S0).1 = S1 at *
    clear hcr hrun hro hone HO HNO HG0
    refine ho.mono ?_
    rintro e w6 ⟨k, rfl, h6⟩
    have H6 := Lib.hid h6
    clear h6 ho H5
    (repeat' (first | (go_big_may; fail) | go_values | go_skip | go_guarded | go_step | go_upon | go_back | dsimp only))
    refine (HRO.out k w6 H6.out).mono ?_
    rintro e w7 ⟨kr, rfl, h7⟩
    have H7 := Lib.hid h7
    clear h7 HRO
    (repeat' (first | (go_big_may; fail) | go_values | go_skip | go_guarded | go_step | go_upon | go_back | dsimp only))
    have hcode := code_any HF.out H7.out.below okC_zero
    rw [errV_zero] at hcode
    refine hcode.mono ?_
    rintro e w8 ⟨rfl, rfl⟩
    clear hcode
    (repeat' (first | (go_big_may; fail) | go_values | go_skip | go_guarded | go_step | go_upon | go_back | dsimp only))
    have HSS := Lib.hid ((WrT.stable k sb ef ⟨1, bl, [], 0⟩).both (StoreT.stable sb S1))
    clear HSS HST0
    go_loopw [74] (fun vi wr => ∃ (i : Nat) (S : St) (x y : WrD), vi = .int .i64 i ∧ i ≤ ss.length ∧ One S ∧ OkW bl x ∧ WSim x y ∧ At W wr (Both (RwT kr y) (Both (RefT rb S) (Both (WrT k sb ef x) (Both (StoreT sb S) Nought))))) (fun vi _ => ss.length - (intOf vi).toNat)
    case atStart => exact ⟨0, S1, ⟨1, bl, [], 0⟩, ⟨1, bl, [], 0⟩, rfl, Nat.zero_le _, HON.out, ⟨rfl, rfl, okC_zero, by show ¬ (0 : Nat) = 13; decide, fun _ => by show 0 < bl; omega, by show 0 ≤ _; omega⟩, WSim.refl _, H7.out⟩
    case round =>
      obtain ⟨i, S, x, y, rfl, hi, hO, hW, hS, h1⟩ := hrel
      clear HON H7 H6
      have H := Lib.hid h1
      by_cases hlt : i < ss.length
      · obtain ⟨r, hr⟩ : ∃ r, ss[i]? = some r := ⟨_, List.getElem?_eq_getElem hlt⟩
        obtain ⟨b, off, cp, hsl, hcell⟩ := (HRD.out.below h1.below).str hr
        cases hsl
        have hrl : r.length ≤ 1048576 := by
          have h2 := len_sum6 (List.mem_of_getElem? hr)
          have h3 := HLN.out
          omega
        have hlb : ss.length ≤ 1048576 := by have := HLN.out; omega
        have hi0 : (0 : Int) ≤ i := by omega
        have hi1 : (i : Int) < ss.length := by omega
        have hput := fun (w' : World) (v : Value) (h : At W w' (Both (WrT k sb ef x) (Both (StoreT sb S) (Both (RwT kr y) (Both (RefT rb S) Nought))))) (hrd : RdRow w' v [r].length 1 (strs [r])) => dPut HF.out ⟨hbl1, hbl2⟩ hO hW hrl h ((RwT.stable _ _).both ((RefT.stable _ _).both Stable.nought)) hrd
        have hput6 := fun (w' : World) (v : Value) (X : Thing) (hX : Stable X) (h : At W w' (Both (RwT kr y) (Both (RefT rb S) X))) (hrd : RdRow w' v [r].length 1 (strs [r])) => dPut6 ⟨hbl1, hbl2⟩ hO hW hS hrl h hX hrd
        obtain ⟨hO2, hW2, hc2⟩ := putP_keep ⟨hbl1, by omega⟩ hO hW r
        generalize hP : putP S x [r] = P at *
        obtain ⟨S2, x2, d⟩ := P
        dsimp only at hput hput6 hO2 hW2 hc2
        have hst := (RwT.stable kr y).both ((RefT.stable rb S).both ((WrT.stable k sb ef x).both ((StoreT.stable sb S).both Stable.nought)))
        have h2 := (h1.alloc hst (.cells #[.string ⟨r.toArray⟩] 9)).turn2
        have hp := hput _ _ h2 (RdRow_new (w := wr) (T := 9) #[.string ⟨r.toArray⟩] 1 1 rfl (by simp [maxLen]))
        have hcode := fun (w' : World) (hb : Below W.heap.size W w') => code_any HF.out hb hc2
        generalize errV ef d = dv at *
        have HP := Lib.hid hp
        have HP6 := Lib.hid hput6
        have HCO := Lib.hid hcode
        have HO2 := Lib.hid hO2
        have HW2 := Lib.hid hW2
        clear hp hput hput6 hcode hO2 hW2 h2 hst hP hc2 hO hW hS h1 hr hrl
        (repeat' (first | (go_big_may; fail) | go_values | go_skip | go_guarded | go_step | go_upon | go_back | dsimp only))
        refine HP.out.mono ?_
        rintro e w3 ⟨rfl, h3⟩
        have H3 := Lib.hid h3
        clear h3 HP H hcell
        (repeat' (first | (go_big_may; fail) | go_values | go_skip | go_guarded | go_step | go_upon | go_back | dsimp only))
        refine (HCO.out _ H3.out.below).mono ?_
        rintro e w4 ⟨rfl, rfl⟩
        have h4 := (H3.out.alloc ((WrT.stable _ _ _ _).both ((StoreT.stable _ _).both ((RwT.stable _ _).both ((RefT.stable _ _).both Stable.nought)))) (.cells #[.string ⟨r.toArray⟩] 9)).turn2
        have hp6 := HP6.out _ _ _ ((WrT.stable _ _ _ _).both ((StoreT.stable _ _).both Stable.nought)) h4 (RdRow_new (w := w3) (T := 9) #[.string ⟨r.toArray⟩] 1 1 rfl (by simp [maxLen]))
        have HP6b := Lib.hid hp6
        clear h4 hp6 HP6 HCO
        (repeat' (first | (go_big_may; fail) | go_values | go_skip | go_guarded | go_step | go_upon | go_back | dsimp only))
        refine HP6b.out.mono ?_
        rintro e w5 ⟨rfl, y', hy, h5⟩
        have H5 := Lib.hid h5
        have HY := Lib.hid hy
        clear h5 hy HP6b
        (repeat' (first | (go_big_may; fail) | go_values | go_skip | go_guarded | go_step | go_upon | go_back | dsimp only))
        go_roundw
        case rel => exact ⟨i + 1, S2, x2, y', by go_num, by omega, HO2.out, HW2.out, HY.out, H5.out⟩
        case measure => simp [intOf]; omega
      · have hi1 : ¬ (i : Int) < ss.length := by omega
        obtain ⟨c1, c2, c3, c4, c5, c6, c7⟩ := closeP_keep hO hW
        have hcl := dClose HF.out hO.1 hW.run hW.small h1.turn2 ((RwT.stable kr y).both ((RefT.stable rb S).both Stable.nought))
        have hcl6 := fun (w' : World) (X : Thing) (hX : Stable X) (h : At W w' (Both (RwT kr y) (Both (RefT rb S) X))) => dClose6 hO.1 hW.run hW.small hS h hX
        generalize closeP S x = P at *
        obtain ⟨S2, x2, nr, d⟩ := P
        dsimp only at c1 c2 c3 c4 c5 c6 c7 hcl hcl6
        have HCL := Lib.hid hcl
        have HCL6 := Lib.hid hcl6
        have HO2 := Lib.hid c1
        have HR2 := Lib.hid c2
        have HB2 := Lib.hid c3
        have HOK := Lib.hid c4
        have H13 := Lib.hid c5
        have HDD := Lib.hid c6
        have HSM := Lib.hid c7
        have hcode := fun (w' : World) (hb : Below W.heap.size W w') => code_any HF.out hb c4
        have HCO := Lib.hid hcode
        clear hcl hcl6 c1 c2 c3 c4 c5 c6 c7 hcode hO hW hS h1 H
        by_cases hd : d = 0
        · subst hd
          have hdd : x2.dead = 13 := HDD.out.trans (if_pos rfl)
          have HD13 := Lib.hid hdd
          rw [errV_zero] at HCL HCO
          clear hdd
          (repeat' (first | (go_big_may; fail) | go_values | go_skip | go_guarded | go_step | go_upon | go_back | dsimp only))
          refine HCL.out.mono ?_
          rintro e w3 ⟨rfl, h3⟩
          have H3 := Lib.hid h3.turn2
          clear h3 HCL
          (repeat' (first | (go_big_may; fail) | go_values | go_skip | go_guarded | go_step | go_upon | go_back | dsimp only))
          refine (HCL6.out _ _ ((WrT.stable _ _ _ _).both ((StoreT.stable _ _).both Stable.nought)) H3.out).mono ?_
          rintro e w4 ⟨rfl, y', hy, h4⟩
          have H4 := Lib.hid h4
          clear h4 HCL6 H3 hy
          (repeat' (first | (go_big_may; fail) | go_values | go_skip | go_guarded | go_step | go_upon | go_back | dsimp only))
          refine (HCO.out _ H4.out.below).mono ?_
          rintro e w5 ⟨rfl, rfl⟩
          clear HCO
          have hcl2 := dClose HF.out HO2.out.1 HR2.out HSM.out H4.out.turn2 ((RwT.stable kr y').both ((RefT.stable rb S2).both Stable.nought))
          rw [closeP_dead (by rw [HD13.out]; decide), HD13.out] at hcl2
          dsimp only at hcl2
          rw [errV_pos ef (show (13 : Nat) ≠ 0 by decide)] at hcl2
          have HCL2 := Lib.hid hcl2
          clear hcl2
          (repeat' (first | (go_big_may; fail) | go_values | go_skip | go_guarded | go_step | go_upon | go_back | dsimp only))
          refine HCL2.out.mono ?_
          rintro e w6 ⟨rfl, h6⟩
          have H6 := Lib.hid h6
          have cg6 := (HF.out.below h6.below).cell (13, 1) (by decide)
          clear h6 HCL2 H4
          have q1 := fun wz : World => neq_nil wz
          have q2 := fun wz : World => eql_nil wz
          have q3 := fun wz : World => neq_same (⟨(ef 13).1, (ef 13).2, none⟩ : Addr) wz
          have hdr := Drop_at H6.out ((RwT.stable kr y').both ((RefT.stable rb S2).both Stable.nought)) HF.out (HO2.out.1.le) (by rw [HR2.out]; exact run_one) (.inr ⟨1, by rw [HD13.out]; decide⟩)
          rw [show dropP S2 x2 = (S2, x2) from if_pos HD13.out] at hdr
          have HDR := Lib.hid hdr
          clear hdr H6
          (repeat' (first | (go_big_may; fail) | go_values | go_skip | go_guarded | go_step | go_upon | go_back | dsimp only))
          refine HDR.out.mono ?_
          rintro e w7 ⟨rfl, h7⟩
          have H7 := Lib.hid h7.drop
          clear h7 HDR cg6
          (repeat' (first | (go_big_may; fail) | go_values | go_skip | go_guarded | go_step | go_upon | go_back | dsimp only))
          refine (Live_at H7.out ((RwT.stable kr y').both ((RefT.stable rb S2).both Stable.nought))).mono ?_
          rintro e w8 ⟨v8, rfl, h8⟩
          have hk1 : S2.keys.length = 1 := by
            obtain ⟨r2, hr2⟩ := HO2.out.2
            unfold St.keys
            rw [hr2]
            rfl
          have h8r := h8.row
          rw [hk1] at h8r
          obtain ⟨aol, capl, hvl, _, _⟩ := own_shape h8r
          subst hvl
          have H8 := Lib.hid h8
          clear h8 h8r hk1
          (repeat' (first | (go_big_may; fail) | go_values | go_skip | go_guarded | go_step | go_upon | go_back | dsimp only))
          go_ret
          exact ⟨rfl, H8.out.below⟩
        · have hdd : x2.dead = d := HDD.out.trans (if_neg hd)
          have HDE := Lib.hid hdd
          have HDN := Lib.hid hd
          rw [errV_pos ef hd] at HCL HCO
          clear hdd
          (repeat' (first | (go_big_may; fail) | go_values | go_skip | go_guarded | go_step | go_upon | go_back | dsimp only))
          refine HCL.out.mono ?_
          rintro e w3 ⟨rfl, h3⟩
          have H3 := Lib.hid h3.turn2
          clear h3 HCL
          (repeat' (first | (go_big_may; fail) | go_values | go_skip | go_guarded | go_step | go_upon | go_back | dsimp only))
          refine (HCL6.out _ _ ((WrT.stable _ _ _ _).both ((StoreT.stable _ _).both Stable.nought)) H3.out).mono ?_
          rintro e w4 ⟨rfl, y', hy, h4⟩
          have H4 := Lib.hid h4
          clear h4 HCL6 H3 hy
          (repeat' (first | (go_big_may; fail) | go_values | go_skip | go_guarded | go_step | go_upon | go_back | dsimp only))
          refine (HCO.out _ H4.out.below).mono ?_
          rintro e w5 ⟨rfl, rfl⟩
          clear HCO
          have hcl2 := dClose HF.out HO2.out.1 HR2.out HSM.out H4.out.turn2 ((RwT.stable kr y').both ((RefT.stable rb S2).both Stable.nought))
          rw [closeP_dead (by rw [HDE.out]; exact HDN.out), HDE.out, errV_pos ef HDN.out] at hcl2
          have HCL2 := Lib.hid hcl2
          clear hcl2
          (repeat' (first | (go_big_may; fail) | go_values | go_skip | go_guarded | go_step | go_upon | go_back | dsimp only))
          refine HCL2.out.mono ?_
          rintro e w6 ⟨rfl, h6⟩
          have H6 := Lib.hid h6
          clear h6 HCL2 H4
          have q1 := run_neq_iface_nil2 ⟨(ef d).1, (ef d).2, none⟩
          have q2 : ∀ wz : World, (binOp .eql tErr (.iface tES (.pointer (some ⟨(ef d).1, (ef d).2, none⟩))) .nilIface).run Tryd.prog wz = .ok (.bool false) wz := fun wz => by
            have := eql_errV ef HDN.out wz
            rwa [errV_pos ef HDN.out] at this
          have q3 := fun wz : World => neq_same (⟨(ef d).1, (ef d).2, none⟩ : Addr) wz
          have hst := (WrT.stable k sb ef x2).both ((StoreT.stable sb S2).both ((RwT.stable kr y').both ((RefT.stable rb S2).both Stable.nought)))
          have hl97 : x2.buf.length + (frameL [[97]]).length ≤ 1099511627776 := by
            have h1 := HSM.out
            have h2 := put_len (r := [97]) (m := 1) (Nat.le_refl _) (by omega)
            omega
          have hp := Put_at (ss := [[97]]) goodInv (H6.out.alloc hst (.cells #[.string ⟨#[97]⟩] 9)) ((RwT.stable kr y').both ((RefT.stable rb S2).both Stable.nought)) HF.out HO2.out.1 (by rw [HB2.out]; omega) (by rw [HB2.out]; omega) (by rw [HR2.out]; exact run_one) (RdRow_new (w := w6) (T := 9) #[.string ⟨#[97]⟩] 1 1 rfl (by simp [maxLen])) hl97
          rw [putP_dead (by rw [HDE.out]; exact HDN.out), HDE.out, errV_pos ef HDN.out] at hp
          have HP := Lib.hid hp
          clear hp hst H6 hl97
          (repeat' (first | (go_big_may; fail) | go_values | go_skip | go_guarded | go_step | go_upon | go_back | dsimp only))
          refine HP.out.mono ?_
          rintro e w7 ⟨rfl, h7⟩
          have H7 := Lib.hid h7
          have hdr := Drop_at h7 ((RwT.stable kr y').both ((RefT.stable rb S2).both Stable.nought)) HF.out (HO2.out.1.le) (by rw [HR2.out]; exact run_one) (by rw [HDE.out]; exact HOK.out)
          rw [show dropP S2 x2 = ((removeP S2 x2.run).1, { x2 with dead := 13 }) from if_neg (by rw [HDE.out]; exact H13.out), HR2.out] at hdr
          have hrem := remove_one HO2.out
          have hgr := HO2.out.1.remove ((1 : Nat) : Int)
          dsimp only at hdr
          generalize (removeP S2 ((1 : Nat) : Int)).1 = S3 at *
          obtain ⟨x3, hx3⟩ : ∃ x3 : WrD, x3 = ⟨1, x2.block, x2.buf, 13⟩ := ⟨_, rfl⟩
          rw [← hx3] at hdr
          have hx3d : x3.dead = 13 ∧ x3.run = 1 ∧ x3.block = bl ∧ x3.buf.length ≤ 100000 := by
            rw [hx3]
            exact ⟨rfl, rfl, HB2.out, HSM.out⟩
          have HX3 := Lib.hid hx3d
          clear hx3 hx3d
          have HDR := Lib.hid hdr
          have HREM := Lib.hid hrem
          have HGR := Lib.hid hgr
          clear h7 HP hdr hrem hgr
          (repeat' (first | (go_big_may; fail) | go_values | go_skip | go_guarded | go_step | go_upon | go_back | dsimp only))
          refine HDR.out.mono ?_
          rintro e w8 ⟨rfl, h8⟩
          have H8 := Lib.hid h8
          clear h8 HDR H7
          (repeat' (first | (go_big_may; fail) | go_values | go_skip | go_guarded | go_step | go_upon | go_back | dsimp only))
          have hg13 : ∀ w', Below W.heap.size W w' → w'.cell? ⟨1, 0, none⟩ = some (.iface tES (.pointer (some ⟨(ef 13).1, (ef 13).2, none⟩))) := fun w' hb => (HF.out.below hb).cell (13, 1) (by decide)
          have HG13 := Lib.hid hg13
          have hst3 : Stable (Both (WrT k sb ef x3) (Both (StoreT sb S3) (Both (RwT kr y') (Both (RefT rb S2) Nought)))) := (WrT.stable _ _ _ _).both ((StoreT.stable _ _).both ((RwT.stable _ _).both ((RefT.stable _ _).both Stable.nought)))
          have hlive : ∀ w', Below w8.heap.size w8 w' → Calls Tryd.prog 21 #[.pointer (some ⟨sb, 0, none⟩)] w' fun e w'' => ∃ v, e = .returned v ∧ At W w'' (Both (RowT v []) (Both (StoreT sb S3) (Both (WrT k sb ef x3) (Both (RwT kr y') (Both (RefT rb S2) Nought))))) := fun w' hb => by
            have h1 := Live_at (H8.out.mono hst3 hb).swap ((WrT.stable _ _ _ _).both ((RwT.stable _ _).both ((RefT.stable _ _).both Stable.nought)))
            rw [show S3.keys = [] by unfold St.keys; rw [HREM.out.1]; rfl] at h1
            exact h1
          have hused : ∀ (w' : World) (X : Thing), At W w' (Both (StoreT sb S3) X) → Calls Tryd.prog 25 #[.pointer (some ⟨sb, 0, none⟩)] w' fun e w'' => e = .returned (.int .i64 0) ∧ w' = w'' := fun w' X h => by
            have h1 := Used_at h
            rw [HREM.out.2] at h1
            exact h1
          have hput0 : ∀ (w' : World) (X : Thing), Stable X → At W w' (Both (WrT k sb ef x3) (Both (StoreT sb S3) X)) → Calls Tryd.prog 8 #[.pointer (some ⟨k, 0, none⟩), .slice none 0 0] w' fun e w'' => e = .returned (.iface tES (.pointer (some ⟨(ef 13).1, (ef 13).2, none⟩))) ∧ At W w'' (Both (WrT k sb ef x3) (Both (StoreT sb S3) X)) := fun w' X hX h => by
            have h1 := Put_at (ss := []) (v := .slice none 0 0) goodInv h hX HF.out HGR.out (by rw [HX3.out.2.2.1]; omega) (by rw [HX3.out.2.2.1]; omega) (by rw [HX3.out.2.1]; exact run_one) ⟨rfl, none, 0, rfl, Nat.le_refl _, by simp [maxLen], fun j u hu => by simp [strs] at hu⟩ (by show x3.buf.length + 0 ≤ _; have := HX3.out.2.2.2; omega)
            rw [putP_dead (by rw [HX3.out.1]; decide)] at h1
            dsimp only at h1
            rw [HX3.out.1, errV_pos ef (show (13 : Nat) ≠ 0 by decide)] at h1
            exact h1
          have q4 := eql_same (⟨(ef 13).1, (ef 13).2, none⟩ : Addr)
          have HLIVE := Lib.hid hlive
          have HUSED := Lib.hid hused
          have HPUT := Lib.hid hput0
          have hcg := HG13.out _ H8.out.below
          have hlg := World.block_lt_of_cell? _ _ hcg
          clear hg13 hst3 hlive hused hput0 q1 q2 q3
          go_region_held3 (fun wx => wx.cell? ⟨1, 0, none⟩ = some (.iface tES (.pointer (some ⟨(ef 13).1, (ef 13).2, none⟩)))) (first | assumption | go_keep) ((first
            | (go_at_call 8; (refine Calls.mono (HPUT.out _ _ ((RwT.stable _ _).both ((RefT.stable _ _).both Stable.nought)) H9.out.drop.swap) ?_); rintro e w10 ⟨rfl, h10⟩; have cg10 := HG13.out _ h10.below; have hl10 := World.block_lt_of_cell? _ _ cg10; have H10 := Lib.hid h10; clear h10)
            | (go_at_call 25; (refine Calls.mono (HUSED.out _ _ H9.out.drop) ?_); rintro e w11 ⟨rfl, rfl⟩)
            | (go_at_call 21; (refine Calls.mono (HLIVE.out _ (by exact ⟨rfl, rfl, rfl, Nat.le_refl _, fun _ _ => rfl⟩)) ?_); rintro e w9 ⟨v9, rfl, h9⟩; obtain ⟨aol, capl, hvl, _, _⟩ := own_shape h9.row; subst hvl; have cg9 := HG13.out _ h9.below; have hl9 := World.block_lt_of_cell? _ _ cg9; have H9 := Lib.hid h9; clear h9)))
          all_goals
            (repeat' (first | (go_big_may; fail) | go_values | go_skip | go_guarded | go_step | go_upon | go_back | dsimp only))
            go_ret
            exact ⟨rfl, H10.out.below⟩
  · obtain ⟨h9, hru⟩ := HNO.out hcr
    have ho := Open_fail H5.out ((RefT.stable _ _).both Stable.nought) HF.out ⟨hbl1, by omega⟩ hcr
    have hro := fun (w6 : World) (h6 : At W w6 (Both (RefT rb S0) (Both (StoreT sb (createP S0).1) Nought))) => rOpen_fail h6 ((StoreT.stable _ _).both Stable.nought) HG0.out ⟨hbl1, by omega⟩ hcr
    have hk0 : (createP S0).1.keys = [] := by unfold St.keys; rw [hru]; rfl
    rw [h9] at ho hro
    generalize (createP S0).1 = S1 at *
    have hcode := fun (w7 : World) (hb : Below W.heap.size W w7) => code_any HF.out hb (okC_of (c := 9) (by omega))
    generalize errV ef 9 = dv at *
    have HRO := Lib.hid hro
    have HCO := Lib.hid hcode
    have HK0 := Lib.hid hk0
    clear hcr h9 hru hro hcode hk0 HO HNO HG0
    refine ho.mono ?_
    rintro e w6 ⟨rfl, h6⟩
    have H6 := Lib.hid h6.swap
    clear h6 ho H5
    (repeat' (first | (go_big_may; fail) | go_values | go_skip | go_guarded | go_step | go_upon | go_back | dsimp only))
    refine (HRO.out w6 H6.out).mono ?_
    rintro e w7 ⟨rfl, h7⟩
    have H7 := Lib.hid h7.swap
    clear h7 HRO
    (repeat' (first | (go_big_may; fail) | go_values | go_skip | go_guarded | go_step | go_upon | go_back | dsimp only))
    refine (HCO.out _ H7.out.below).mono ?_
    rintro e w8 ⟨rfl, rfl⟩
    (repeat' (first | (go_big_may; fail) | go_values | go_skip | go_guarded | go_step | go_upon | go_back | dsimp only))
    have hli := Live_at H7.out ((RefT.stable _ _).both Stable.nought)
    rw [HK0.out] at hli
    refine hli.mono ?_
    rintro e w9 ⟨v, rfl, h9⟩
    have H9 := Lib.hid h9
    obtain ⟨aol, capl, hvl, _, _⟩ := own_shape h9.row
    subst hvl
    clear h9 hli
    (repeat' (first | (go_big_may; fail) | go_values | go_skip | go_guarded | go_step | go_upon | go_back | dsimp only))
    go_ret
    exact ⟨rfl, H9.out.below⟩
end Go.Proofs.YtkffeaeacfhobaaDoor
