/- dawg.Build walked: the builder from its making to its automaton. -/
import Derived.Test.YtcbdncjknpdnbaaDawgVis
namespace Go.Proofs.Ytcbdncjknpdnbaa
open Go.RowKit
open Go.Maps (Keyed)

theorem mk_mi (w : World) : (Instr.makeMap tMI none).run Try.prog w = .ok (.map (some w.heap.size)) (w.alloc (.map #[] 0)) := by kernel_rfl
theorem mk_km (w : World) : (Instr.makeMap tKM none).run Try.prog w = .ok (.map (some w.heap.size)) (w.alloc (.map #[] 0)) := by kernel_rfl
theorem st_fn (a : Addr) (f : Fn) (x y : Array Value) (m : Mode) (w : World) : (store a (.func f x y) m).run Try.prog w = stored Try.prog w a (.func f x y) m := run_store Try.prog w a _ m rfl
theorem At.swapDrop {W w : World} {A B C : Thing} (h : At W w (Both A (Both B C))) : At W w (Both A C) := h.swap.drop
/-- A slice literal of one cell. -/
theorem At.newLit {W w : World} {Φ : Thing} (h : At W w Φ) (hs : Stable Φ) (e : TypeId) (v : Value) : At W (w.alloc (.cells #[v] e)) (Both (RowG e 1 (.slice (some ⟨w.heap.size, 0, none⟩) 1 1) 1 [v]) Φ) :=
  h.newRowG hs ((Below.refl _ _).alloc (Nat.le_refl _) _) ⟨rfl, .inr ⟨w.heap.size, 1, #[v], rfl, Nat.le_refl _, heap_alloc_new _ _, Nat.le_refl _, by unfold maxLen; omega, rfl, rfl⟩⟩
set_option maxRecDepth 100000 in
set_option maxHeartbeats 1600000 in
theorem number_at {W : World} (bl : Nat → Nat) (ev : Nat → Value) (N : List Nd) (htgt : ∀ i, i < N.length → ∀ e ∈ (nodeAt N i).edges, e.2 < N.length) (hcnt : ∀ i, i < N.length → (nodeAt N i).edges.length ≤ 1099511627776) (hids : ∀ i, i < N.length → (nodeAt N i).id ≤ 1099511627776)
    {k n : Nat} {r : NumS × Nat} (hr : numN N k ([], []) n = some r) (hn : n < N.length) (hlen : r.1.1.length ≤ 1099511627776) (w : World) (R : Thing) (h : At W w (Both (NodesT bl ev N) R)) (hR : Stable R) :
    Calls Try.prog 71 #[ptrN (bl n)] w fun e w' => ∃ ov, e = .returned ov ∧ At W w' (Both (AutG tAS tAE ov r.1.1) (Both (NodesT bl ev N) R)) := by
  have hs0 := (NodesT.stable bl ev N).both hR
  have h1 : At W w (Both (RowG tAS 2 (.slice none 0 0) ([] : List (Sta × Value)).length (([] : List (Sta × Value)).flatMap stc)) (Both (EdsG tAE []) (Both (NodesT bl ev N) R))) := (h.noRows hs0 tAE 2 _ _ _).noRowG ((AllRows.stable _ _ _ _ _ _).both hs0) tAS 2
  have hs1 := (RowG.stable tAS 2 (.slice none 0 0) ([] : List (Sta × Value)).length (([] : List (Sta × Value)).flatMap stc)).both ((AllRows.stable tAE 2 (fun x : Sta × Value => x.2) (fun x => x.1.edges.flatMap edc) (fun x => x.1.edges.length) []).both hs0)
  have h2 := h1.newCell hs1 #[.slice none 0 0] tSl
  have hs2 := (CellT.stable w.heap.size #[.slice none 0 0] tSl).both hs1
  have h3 := h2.newMap hs2 Try.prog tInt
  have z3 : (w.alloc (.cells #[.slice none 0 0] tSl)).heap.size = w.heap.size + 1 := by simp
  rw [z3] at h3
  have hs3 := (MapT.stable Try.prog tInt (w.heap.size + 1) []).both hs2
  have h4 := h3.newCell hs3 #[.map (some (w.heap.size + 1))] tMI
  have z4 : ((w.alloc (.cells #[.slice none 0 0] tSl)).alloc (.map #[] 0)).heap.size = w.heap.size + 2 := by simp
  rw [z4] at h4
  have hs4 := (CellT.stable (w.heap.size + 2) #[.map (some (w.heap.size + 1))] tMI).both hs3
  have h5 := h4.newCell hs4 #[.func (.func 90) #[] #[ptrN (w.heap.size + 2), ptrN w.heap.size, ptrN (w.heap.size + 3)]] tFn
  have z5 : (((w.alloc (.cells #[.slice none 0 0] tSl)).alloc (.map #[] 0)).alloc (.cells #[.map (some (w.heap.size + 1))] tMI)).heap.size = w.heap.size + 3 := by simp
  rw [z5] at h5
  have h6 := h5.pull4.pull3
  have HC := Lib.hid (vis_at (w.heap.size + 2) w.heap.size (w.heap.size + 3) (w.heap.size + 1) bl ev N htgt hcnt hids k _ (.slice none 0 0) [] [] n R r hr hn hlen h6 hR)
  clear h1 h2 h3 h4 h5 h6 hs1 hs2 hs3 hs4 z3 z4 z5 hs0 h htgt hcnt hids
  have hmm := mk_mi
  have hsf := st_fn
  go_enter Try.func71, Try.ntmps71
  (repeat' (first | (go_big_may; fail) | go_values | go_skip | go_guarded | go_step | go_upon | go_back | dsimp only))
  refine HC.out.mono ?_
  rintro e5 w5 ⟨rfl, ov5, ys5, hm5, h7⟩
  obtain ⟨c0, _, _⟩ := h7.drop.cellF (o := 0) (u := ov5) rfl
  have h8 := h7.drop.drop.drop.drop
  rw [List.nil_append] at hm5 h8
  have h9 := At.autG h8
  rw [hm5] at h9
  have H9 := Lib.hid h9
  clear h7 h8 h9 hm5
  (repeat' (first | (go_big_may; fail) | go_values | go_skip | go_guarded | go_step | go_upon | go_back | dsimp only))
  go_ret
  exact ⟨_, rfl, H9.out⟩
theorem ready_calls (kb : Nat) (w : World) (h : w.cell? ⟨kb, 5, none⟩ = some (.int .i64 0)) : Calls Try.prog 67 #[ptrN kb] w fun e w' => e = .returned (.int .i64 0) ∧ w' = w := by
  go_enter Try.func67, Try.ntmps67
  (repeat' (first | (go_big_may; fail) | go_values | go_skip | go_guarded | go_step | go_upon | go_back | dsimp only))
  go_ret
  exact ⟨rfl, rfl⟩
set_option maxRecDepth 100000 in
set_option maxHeartbeats 1600000 in
theorem fresh_at {W w : World} (most : Int) (h : At W w Nought) : Calls Try.prog 50 #[.int .i64 most] w fun e w' => ∃ kb mb bl ev pv, e = .returned (ptrN kb) ∧ At W w' (BdT kb mb bl ev most false pv 0 0 ⟨#[]⟩ freshB Nought) := by
  have H := Lib.hid h
  clear h
  have hmm := mk_km
  go_enter Try.func50, Try.ntmps50
  (repeat' (first | (go_big_may; fail) | go_values | go_skip | go_guarded | go_step | go_upon | go_back | dsimp only))
  go_ret
  have h1 := H.out.noRowG Stable.nought tEg 2
  have hs1 := (RowG.stable tEg 2 (.slice none 0 0) 0 []).both Stable.nought
  have h2 := h1.newCell hs1 #[.bool false, .slice none 0 0, .int .i64 0] tNd
  have hs2 := (CellT.stable w.heap.size #[.bool false, .slice none 0 0, .int .i64 0] tNd).both hs1
  have hN : At W (w.alloc (.cells #[.bool false, .slice none 0 0, .int .i64 0] tNd)) (Both (NodesT (fun _ => w.heap.size) (fun _ => .slice none 0 0) [⟨false, [], 0⟩]) Nought) :=
    h2.impl fun _ q => Both.comm (Both.nought (show Both (NodeT (fun _ => w.heap.size) w.heap.size (.slice none 0 0) ⟨false, [], 0⟩) Nought _ _ from q.assoc'))
  have hsN := (NodesT.stable (fun _ => w.heap.size) (fun _ => .slice none 0 0) [⟨false, [], 0⟩]).both Stable.nought
  have h3 := (hN.newLit hsN tPN (ptrN w.heap.size)).swap
  have z2 : (w.alloc (.cells #[.bool false, .slice none 0 0, .int .i64 0] tNd)).heap.size = w.heap.size + 1 := by simp
  rw [z2] at h3
  have hs3 := (NodesT.stable (fun _ => w.heap.size) (fun _ => .slice none 0 0) [⟨false, [], 0⟩]).both ((RowG.stable tPN 1 (.slice (some ⟨w.heap.size + 1, 0, none⟩) 1 1) 1 [ptrN w.heap.size]).both Stable.nought)
  have h4 := h3.newMap hs3 Try.prog tKy
  have z3 : ((w.alloc (.cells #[.bool false, .slice none 0 0, .int .i64 0] tNd)).alloc (.cells #[ptrN w.heap.size] tPN)).heap.size = w.heap.size + 1 + 1 := by simp
  rw [z3] at h4
  have hs4 := (MapT.stable Try.prog tKy (w.heap.size + 1 + 1) []).both hs3
  have h5 := h4.newCell hs4 (bdC most ⟨#[]⟩ false (.slice (some ⟨w.heap.size + 1, 0, none⟩) 1 1) (w.heap.size + 1 + 1) 0 0) tBd
  have z4 : (((w.alloc (.cells #[.bool false, .slice none 0 0, .int .i64 0] tNd)).alloc (.cells #[ptrN w.heap.size] tPN)).alloc (.map #[] 0)).heap.size = w.heap.size + 1 + 1 + 1 := by simp
  rw [z4] at h5
  exact ⟨w.heap.size + 1 + 1 + 1, w.heap.size + 1 + 1, fun _ => w.heap.size, fun _ => .slice none 0 0, .slice (some ⟨w.heap.size + 1, 0, none⟩) 1 1, rfl, h5⟩

/-! ### Many words -/
theorem fold_inv : ∀ (L : List (List UInt8)) (b : Bd), (∀ r ∈ L, r.length ≤ 255) → BInv b → b.last.length ≤ 255 →
    BInv (L.foldl addP b) ∧ (L.foldl addP b).f.N.length ≤ b.f.N.length + 255 * L.length ∧ (L.foldl addP b).f.known.length ≤ b.f.known.length + 255 * L.length ∧ (L.foldl addP b).last.length ≤ 255
  | [], b, _, h, hl => ⟨h, by simp, by simp, hl⟩
  | w :: L, b, hL, h, hl => by
    obtain ⟨h1, h2, h3⟩ := addP_inv h w
    have hw := hL w (by simp)
    obtain ⟨i1, i2, i3, i4⟩ := fold_inv L (addP b w) (fun r hr => hL r (by simp [hr])) h1 hw
    refine ⟨i1, ?_, ?_, i4⟩
    · rw [List.foldl_cons, List.length_cons]; omega
    · rw [List.foldl_cons, List.length_cons]; omega
theorem fold_last (L : List (List UInt8)) (b : Bd) (w : List UInt8) : ((L ++ [w]).foldl addP b).last = w := by rw [List.foldl_append]; rfl

set_option maxRecDepth 100000 in
set_option maxHeartbeats 1600000 in
theorem Finish_at {W : World} (kb mb : Nat) (bl : Nat → Nat) (ev : Nat → Value) (most : Int) (hmost : 1099511627776 ≤ most) (any : Bool) (pv : Value) (cnt : Int) (lb : ByteArray) {b : Bd} (hI : BInv b) (hl : b.last.length ≤ 255) (hN : b.f.N.length ≤ 549755813888) (hK : b.f.known.length ≤ 549755813888)
    {k : Nat} {r : NumS × Nat} (hr : numN (rootP b).1.N k ([], []) (rootP b).2 = some r) (hlen : r.1.1.length ≤ 1099511627776) (w : World) (R : Thing) (h : At W w (BdT kb mb bl ev most any pv 0 cnt lb b R)) (hR : Stable R) :
    Calls Try.prog 52 #[ptrN kb] w fun e w' => ∃ ov, e = .returned (.tuple #[ov, .int .i64 0]) ∧ At W w' (Both (AutG tAS tAE ov r.1.1) R) := by
  have hpl := hI.len
  obtain ⟨c5, _, _⟩ := h.cellF (o := 5) (u := .int .i64 0) rfl
  have HRD := Lib.hid (ready_calls kb w c5)
  have hst : Stable (BdT kb mb bl ev most any pv 0 cnt lb b R) := (CellT.stable _ _ _).both (FzT.stable ((RowG.stable _ _ _ _ _).both hR))
  have hcut := cut_at kb mb bl ev most lb any pv 0 cnt (path := b.path) (n := 0) (by omega) hI.f (getD_lt hI.pin hI.pos) hI.pe (by omega) (by omega) w R h hR
  have hg := cut_g hI 0 (by omega)
  rw [show b.path.length - 1 - 0 = b.last.length from by omega] at hcut
  rw [Nat.sub_zero] at hg
  generalize hs1 : cutL b.path 0 b.last.length b.f = s1 at *
  have hp0 : b.path.getD 0 0 < s1.N.length := by rw [hg.2.1]; exact getD_lt hI.pin hI.pos 0
  have hfz := freezeP_inv (s := s1) hg.1.f hp0
  have hroot : rootP b = freezeP s1 (b.path.getD 0 0) := by unfold rootP; rw [hs1]
  rw [hroot] at hr
  have hpt : b.path.take (0 + 1) = [b.path.getD 0 0] := by
    cases hb : b.path with
    | nil => rw [hb] at hpl; simp at hpl
    | cons a l => rfl
  generalize hpn : b.path.getD 0 0 = p0 at *
  rw [hpt] at hcut
  have HC := Lib.hid hcut
  have HFI := Lib.hid hfz
  have HG := Lib.hid hg
  have HR := Lib.hid hR
  have HRR := Lib.hid hr
  have hk1 := hg.2.2
  clear h hst hI hcut hfz hg hR hr hpt hroot hpn hs1 c5
  go_enter Try.func52, Try.ntmps52
  (repeat' (first | (go_big_may; fail) | go_values | go_skip | go_guarded | go_step | go_upon | go_back | dsimp only))
  refine HRD.out.mono ?_
  rintro e1 w1 ⟨rfl, rfl⟩
  (repeat' (first | (go_big_may; fail) | go_values | go_skip | go_guarded | go_step | go_upon | go_back | dsimp only))
  refine HC.out.mono ?_
  rintro e2 w2 ⟨rfl, pv2, h2⟩
  obtain ⟨gp, pcap, rfl, _, _, _⟩ := own_cut h2.drop.drop.drop.rowG (by omega)
  obtain ⟨d3, _, _⟩ := h2.cellF (o := 3) (u := .slice (some ⟨gp, 0, none⟩) (0 + 1) pcap) rfl
  have d5 := (h2.drop.drop.drop.rowCell (u := ptrN (bl p0)) (j := 0) rfl).1
  have HF := Lib.hid (freeze_at kb mb bl ev (bdC most lb any (.slice (some ⟨gp, 0, none⟩) (0 + 1) pcap) mb 0 cnt) rfl (s := s1) hp0 HG.out.1.f (by rw [HG.out.2.1]; omega) (by omega) w2 _ h2 ((RowG.stable _ _ _ _ _).both HR.out))
  clear h2
  (repeat' (first | (go_big_may; fail) | go_values | go_skip | go_guarded | go_step | go_upon | go_back | dsimp only))
  refine HF.out.mono ?_
  rintro e3 w3 ⟨rfl, h3⟩
  have hfi := HFI.out
  have hst3 : Stable (Both (CellT kb (bdC most lb any (.slice (some ⟨gp, 0, none⟩) (0 + 1) pcap) mb 0 cnt) tBd) (FzT bl ev mb (freezeP s1 p0).1 (Both (RowG tPN 1 (.slice (some ⟨gp, 0, none⟩) (0 + 1) pcap) (0 + 1) (pathV bl [p0])) R))) := (CellT.stable _ _ _).both (FzT.stable ((RowG.stable _ _ _ _ _).both HR.out))
  have h4 := h3.drew hst3
  have hlen4 := fun ty => h4.drop.mapLen tKM ty tPN Try.underlying152
  rw [List.length_map] at hlen4
  obtain ⟨x4, _, _⟩ := h3.cellF (o := 4) (u := .map (some mb)) rfl
  obtain ⟨x0, _, _⟩ := h3.cellF (o := 0) (u := .int .i64 most) rfl
  obtain ⟨x5, y5, klt⟩ := h3.cellF (o := 5) (u := .int .i64 0) rfl
  obtain ⟨x6, y6, _⟩ := h3.cellF (o := 6) (u := .int .i64 cnt) rfl
  have hsF := FzT.stable (bl := bl) (ev := ev) (mb := mb) (s := (freezeP s1 p0).1) ((RowG.stable tPN 1 (.slice (some ⟨gp, 0, none⟩) (0 + 1) pcap) (0 + 1) (pathV bl [p0])).both HR.out)
  have h5 := ((h4.setCell hsF 5 (.int .i64 182)).setCell hsF 6 (.int .i64 ((freezeP s1 p0).1.known.length : Nat))).pull3
  have hNn : (freezeP s1 p0).1.N.length = b.f.N.length := by rw [hfi.2.1.len, HG.out.2.1]
  have hmk : ¬ most < ((freezeP s1 p0).1.known.length : Int) := by have := hfi.2.2.2; omega
  have HNB := Lib.hid (number_at bl ev (freezeP s1 p0).1.N (fun i hi => hfi.1.tgt i hi) (fun i hi => by have := hfi.1.cnt i hi; omega) (fun i hi => by have := hfi.1.ids i hi; have := hfi.2.2.2; omega) HRR.out (by rw [hfi.2.1.len]; exact hfi.2.2.1) hlen _ _ h5 ((CellT.stable _ _ _).both ((MapT.stable _ _ _ _).both ((RowG.stable _ _ _ _ _).both HR.out))))
  clear h3 h4 h5 hst3 hsF hfi d3 d5
  (repeat' (first | (go_big_may; fail) | go_values | go_skip | go_guarded | go_step | go_upon | go_back | dsimp only))
  (refine region_still_tail 9 (by kernel_rfl) (by kernel_rfl) ?_; simp only [List.take_succ_cons, List.take_zero, List.drop_succ_cons, List.drop_zero]; (iterate 9 (first | ((with_reducible refine still_plain ?_ rfl ?_ ?_); rotate_left; (next => (go_simp; (try with_reducible rfl))); simp only [Act.put, List.setIfInBounds_toArray, List.set_cons_zero, List.set_cons_succ]) | ((with_reducible refine still_skip ?_ ?_); (next => (go_simp; done)); simp only [Act.put, List.setIfInBounds_toArray, List.set_cons_zero, List.set_cons_succ]) | ((with_reducible refine still_val ?_ ?_ ?_ ?_); rotate_left; (next => (go_simp; done)); (next => (go_simp; (try with_reducible rfl))); simp only [Act.put, List.setIfInBounds_toArray, List.set_cons_zero, List.set_cons_succ]))); (with_reducible refine wpStill_nil ?_))
  (repeat' (first | (go_big_may; fail) | go_values | go_skip | go_guarded | go_step | go_upon | go_back | dsimp only))
  refine HNB.out.mono ?_
  rintro e4 w4 ⟨ov, rfl, h6⟩
  have H6 := Lib.hid h6.swapDrop.swapDrop.swapDrop.swapDrop
  clear h6
  (repeat' (first | (go_big_may; fail) | go_values | go_skip | go_guarded | go_step | go_upon | go_back | dsimp only))
  go_ret2
  exact ⟨_, rfl, H6.out⟩

/-! ### Add -/
theorem size_mk (r : List UInt8) : (⟨r.toArray⟩ : ByteArray).size = r.length := by simp [ByteArray.size]
/-- The words rise, as Go compares texts. -/
def Rises (L : List (List UInt8)) : Prop := ∀ j a b, L[j]? = some a → L[j + 1]? = some b → Op.bytesLess (⟨b.toArray⟩ : ByteArray).toList (⟨a.toArray⟩ : ByteArray).toList = false ∧ ((⟨b.toArray⟩ : ByteArray).toList == (⟨a.toArray⟩ : ByteArray).toList) = false
set_option maxRecDepth 100000 in
set_option maxHeartbeats 1600000 in
theorem Add_at {W : World} {v : Value} {L : List (List UInt8)} (hv : RdRow W v L.length 1 (strs L)) (hL : ∀ r ∈ L, r.length ≤ 255) (hn : L.length ≤ 1073741824) (hris : Rises L) (kb mb : Nat) (bl : Nat → Nat) (ev : Nat → Value) (most : Int) (hmost : 1099511627776 ≤ most) (pv : Value)
    (w : World) (h : At W w (BdT kb mb bl ev most false pv 0 0 ⟨#[]⟩ freshB Nought)) :
    Calls Try.prog 51 #[ptrN kb, v] w fun e w' => e = .returned (.int .i64 0) ∧ ∃ bl' ev' pv' any' lb', At W w' (BdT kb mb bl' ev' most any' pv' 0 0 lb' (L.foldl addP freshB) Nought) := by
  obtain ⟨a0, c0, rfl, _, hc0⟩ := hv.shape
  unfold maxLen at hc0
  obtain ⟨c5, _, _⟩ := h.cellF (o := 5) (u := .int .i64 0) rfl
  have HRD := Lib.hid (ready_calls kb w c5)
  have HV := Lib.hid hv
  have HRS := Lib.hid hris
  have H := Lib.hid h
  have HL := Lib.hid hL
  clear hv hris h hL c5
  go_enter Try.func51, Try.ntmps51
  (repeat' (first | (go_big_may; fail) | go_values | go_skip | go_guarded | go_step | go_upon | go_back | dsimp only))
  refine HRD.out.mono ?_
  rintro e1 w1 ⟨rfl, rfl⟩
  (repeat' (first | (go_big_may; fail) | go_values | go_skip | go_guarded | go_step | go_upon | go_back | dsimp only))
  go_loopw [16] (fun vi wr => ∃ (j : Nat) (bl' : Nat → Nat) (ev' : Nat → Value) (pv' : Value) (any' : Bool) (lb' : ByteArray), vi = .int .i64 j ∧ j ≤ L.length ∧ lb'.data.toList = ((L.take j).foldl addP freshB).last ∧ (any' = true → ∃ q r, j = q + 1 ∧ L[q]? = some r ∧ lb' = ⟨r.toArray⟩) ∧
    At W wr (BdT kb mb bl' ev' most any' pv' 0 0 lb' ((L.take j).foldl addP freshB) Nought)) (fun vi _ => L.length - (intOf vi).toNat)
  case atStart => exact ⟨0, bl, ev, pv, false, ⟨#[]⟩, rfl, Nat.zero_le _, rfl, by intro h; (cases h), H.out⟩
  case round =>
    obtain ⟨j, bl', ev', pv', any', lb', rfl, hj, hlb, hany, h2⟩ := hrel
    have hfi := fold_inv (L.take j) freshB (fun r hr => HL.out r (List.mem_of_mem_take hr)) freshB_inv (by decide)
    have htl : (L.take j).length = j := by rw [List.length_take]; omega
    rw [htl] at hfi
    have hf1 : freshB.f.N.length = 1 := rfl
    have hf2 : freshB.f.known.length = 0 := rfl
    rw [hf1, hf2] at hfi
    by_cases hlj : j < L.length
    · obtain ⟨x, hx⟩ : ∃ x, L[j]? = some x := ⟨_, List.getElem?_eq_getElem hlj⟩
      have hlx := HL.out x (List.mem_of_getElem? hx)
      have hadd := add_at kb mb bl' ev' most hmost any' pv' 0 lb' ⟨x.toArray⟩ hlb.symm hfi.1 (by rw [size_mk]; exact hlx) (by have := hfi.2.2.2; rw [← hlb] at this; simpa using this)
        (fun ha => by
          obtain ⟨q, r, rfl, hq, rfl⟩ := hany ha
          exact HRS.out q r x hq hx) (by omega) (by omega) wr Nought h2 Stable.nought
      have hfold : (L.take (j + 1)).foldl addP freshB = addP ((L.take j).foldl addP freshB) x := by
        rw [List.take_add_one, hx, Option.toList_some, List.foldl_append]; rfl
      have HADD := Lib.hid hadd
      have HFO := Lib.hid hfold
      have HXX := Lib.hid hx
      obtain ⟨b, off, cap, hsl, d0⟩ := (HV.out.below h2.below).str hx
      cases hsl
      have hjI : (j : Int) < (L.length : Int) := by omega
      clear hadd hfold hx hfi h2 hany hlb
      (repeat' (first | (go_big_may; fail) | go_values | go_skip | go_guarded | go_step | go_upon | go_back | dsimp only))
      refine HADD.out.mono ?_
      rintro e2 w2 ⟨rfl, bl2, ev2, pv2, h3⟩
      have H3 := Lib.hid h3
      clear h3
      (repeat' (first | (go_big_may; fail) | go_values | go_skip | go_guarded | go_step | go_upon | go_back | dsimp only))
      go_roundw
      case rel => exact ⟨j + 1, bl2, ev2, pv2, true, ⟨x.toArray⟩, by simp, by omega, by rw [HFO.out]; rfl, fun _ => ⟨j, x, rfl, HXX.out, rfl⟩, by rw [HFO.out]; exact H3.out⟩
      case measure => simp [intOf] <;> omega
    · obtain rfl : j = L.length := by omega
      rw [List.take_length] at h2
      have H2 := Lib.hid h2
      clear h2 hany hlb hfi
      (repeat' (first | (go_big_may; fail) | go_values | go_skip | go_guarded | go_step | go_upon | go_back | dsimp only))
      go_ret
      exact ⟨rfl, bl', ev', pv', any', lb', H2.out⟩

set_option maxRecDepth 100000 in
set_option maxHeartbeats 1600000 in
theorem Build_at {W : World} {v : Value} {L : List (List UInt8)} {A : List Sta} (hv : RdRow W v L.length 1 (strs L)) (hL : ∀ r ∈ L, r.length ≤ 255) (hn : L.length ≤ 1073741824) (hris : Rises L) (hb : buildP L = some A) (hA : A.length ≤ 1099511627776) :
    Calls Try.prog 31 #[v] W fun e w' => ∃ ov, e = .returned (.tuple #[ov, .int .i64 0]) ∧ At W w' (Both (AutG tAS tAE ov A) Nought) := by
  have hfi := fold_inv L freshB hL freshB_inv (by decide)
  have hf1 : freshB.f.N.length = 1 := rfl
  have hf2 : freshB.f.known.length = 0 := rfl
  rw [hf1, hf2] at hfi
  obtain ⟨r, hr, hrA⟩ : ∃ r, numN (rootP (L.foldl addP freshB)).1.N ((rootP (L.foldl addP freshB)).1.N.length + 1) ([], []) (rootP (L.foldl addP freshB)).2 = some r ∧ r.1.1 = A := by
    unfold buildP numberP at hb
    dsimp only at hb
    exact Option.map_eq_some_iff.1 hb
  subst hrA
  have HF := Lib.hid (fresh_at (W := W) (w := W) 4611686018427387904 (At.nought (Below.refl _ _)))
  have HAD := Lib.hid (fun kb mb bl ev pv w h => Add_at hv hL hn hris kb mb bl ev 4611686018427387904 (by decide) pv w h)
  have HFI := Lib.hid (fun kb mb bl ev pv any lb w h => Finish_at (W := W) kb mb bl ev 4611686018427387904 (by decide) any pv 0 lb hfi.1 hfi.2.2.2 (by omega) (by omega) hr hA w Nought h Stable.nought)
  clear hv hL hn hris hb hA hfi hr
  go_enter Try.func31, Try.ntmps31
  (repeat' (first | (go_big_may; fail) | go_values | go_skip | go_guarded | go_step | go_upon | go_back | dsimp only))
  refine HF.out.mono ?_
  rintro e1 w1 ⟨kb, mb, bl, ev, pv, rfl, h1⟩
  have HA2 := Lib.hid (HAD.out kb mb bl ev pv w1 h1)
  clear h1
  (repeat' (first | (go_big_may; fail) | go_values | go_skip | go_guarded | go_step | go_upon | go_back | dsimp only))
  refine HA2.out.mono ?_
  rintro e2 w2 ⟨rfl, bl2, ev2, pv2, any2, lb2, h2⟩
  have HA3 := Lib.hid (HFI.out kb mb bl2 ev2 pv2 any2 lb2 w2 h2)
  clear h2
  (repeat' (first | (go_big_may; fail) | go_values | go_skip | go_guarded | go_step | go_upon | go_back | dsimp only))
  refine HA3.out.mono ?_
  rintro e3 w3 ⟨ov, rfl, h3⟩
  have H3 := Lib.hid h3
  clear h3
  (repeat' (first | (go_big_may; fail) | go_values | go_skip | go_guarded | go_step | go_upon | go_back | dsimp only))
  go_ret2
  exact ⟨_, rfl, H3.out⟩
end Go.Proofs.Ytcbdncjknpdnbaa
