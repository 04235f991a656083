/- dawg.Builder.cut walked. · dawg.Builder.add walked. -/
import Derived.Test.YtcbdncjknpdnbaaDawgFz
import Derived.Test.YtcbdncjknpdnbaaDawgP
import Derived.Test.YtcbdncjknpdnbaaCommon
namespace Go.Proofs.Ytcbdncjknpdnbaa
section
open Go.RowKit

theorem egc_set {bl : Nat → Nat} (o : Nat) : ∀ (es : List (UInt8 × Nat)) {l : Nat}, l < es.length → (es.flatMap (egc bl)).set (l * 2 + 1) (ptrN (bl o)) = (es.set l ((es.getD l default).1, o)).flatMap (egc bl)
  | [], _, h => absurd h (Nat.not_lt_zero _)
  | e :: es, 0, _ => rfl
  | e :: es, l + 1, h => by
    have ih := egc_set (bl := bl) o es (l := l) (by simpa using h)
    have e1 : (l + 1) * 2 + 1 = (l * 2 + 1) + 1 + 1 := by omega
    simp only [List.flatMap_cons, List.set_cons_succ, List.getD_cons_succ]
    rw [e1, ← ih]
    rfl
theorem At.rowCut {W w : World} {R : Thing} {e : TypeId} {size g n cap : Nat} {xs : List Value} (h : At W w (Both (RowG e size (.slice (some ⟨g, 0, none⟩) n cap) n xs) R)) {m : Nat} (hm : m ≤ n) :
    At W w (Both (RowG e size (.slice (some ⟨g, 0, none⟩) m cap) m (xs.take (m * size))) R) := by
  refine h.impl fun fp q => Both.monoL (fun w' f q => ?_) q
  obtain ⟨h1, rfl⟩ := q
  refine ⟨?_, rfl⟩
  obtain ⟨hl, hor⟩ := h1
  have hms : m * size ≤ n * size := Nat.mul_le_mul_right _ hm
  rcases hor with ⟨hx, _⟩ | ⟨g', cap', cur, hv, hbg, hg, hnc, hcm, hcs, htake⟩
  · cases hx
  · cases hv
    refine ⟨by rw [List.length_take, hl]; omega, .inr ⟨g, cap, cur, rfl, hbg, hg, by omega, hcm, hcs, ?_⟩⟩
    rw [← htake, List.take_take, Nat.min_eq_left hms]
theorem At.push4 {W w : World} {A B C D E : Thing} (h : At W w (Both D (Both A (Both B (Both C E))))) : At W w (Both A (Both B (Both C (Both D E)))) := h.pull4.pull4.pull4
theorem pathV_get {bl : Nat → Nat} {path : List Nat} {j : Nat} (h : j < path.length) : (pathV bl path)[j]? = some (ptrN (bl (path.getD j 0))) := by
  rw [List.getElem?_map, List.getElem?_eq_getElem h, List.getD_eq_getElem?_getD, List.getElem?_eq_getElem h]; rfl
theorem pathV_take {bl : Nat → Nat} {path : List Nat} {m : Nat} : (pathV bl path).take (m * 1) = pathV bl (path.take m) := by rw [Nat.mul_one]; exact List.map_take.symm

set_option maxRecDepth 100000 in
set_option maxHeartbeats 6400000 in
theorem cut_at {W : World} (kb mb : Nat) (bl : Nat → Nat) (ev : Nat → Value) (most : Int) (last : ByteArray) (any : Bool) (pv : Value) (st cnt : Int) {s : Fz} {path : List Nat} {n : Nat} (hn : n < path.length) (hs : FInv s) (hp : ∀ j, path.getD j 0 < s.N.length)
    (hpe : ∀ i, i + 1 < path.length → 0 < (nodeAt s.N (path.getD i 0)).edges.length) (hN : s.N.length ≤ 1099511627776) (hK : s.known.length + path.length ≤ 1099511627776)
    (w : World) (R : Thing) (h : At W w (Both (CellT kb (bdC most last any pv mb st cnt) tBd) (FzT bl ev mb s (Both (RowG tPN 1 pv path.length (pathV bl path)) R)))) (hR : Stable R) :
    Calls Try.prog 69 #[ptrN kb, .int .i64 n] w fun e w' => e = .returned (.tuple #[]) ∧ ∃ pv', At W w' (Both (CellT kb (bdC most last any pv' mb st cnt) tBd) (FzT bl ev mb (cutL path n (path.length - 1 - n) s) (Both (RowG tPN 1 pv' (n + 1) (pathV bl (path.take (n + 1)))) R))) := by
  obtain ⟨gp, pcap, rfl, _, hpc, hpcm⟩ := own_cut h.drop.drop.drop.rowG (by omega)
  have hpl : path.length ≤ 1099511627776 := by omega
  have hst : ∀ s', Stable (Both (CellT kb (bdC most last any (.slice (some ⟨gp, 0, none⟩) path.length pcap) mb st cnt) tBd) (FzT bl ev mb s' (Both (RowG tPN 1 (.slice (some ⟨gp, 0, none⟩) path.length pcap) path.length (pathV bl path)) R))) :=
    fun s' => (CellT.stable _ _ _).both (FzT.stable ((RowG.stable _ _ _ _ _).both hR))
  obtain ⟨c3, _, hkl⟩ := h.cellF (o := 3) (u := .slice (some ⟨gp, 0, none⟩) path.length pcap) rfl
  have HST := Lib.hid hst
  have H := Lib.hid h
  have HS := Lib.hid hs
  have HP := Lib.hid hp
  have HPE := Lib.hid hpe
  have HR := Lib.hid hR
  clear h hs hp hpe hR hst
  go_enter Try.func69, Try.ntmps69
  (repeat' (first | (go_big_may; fail) | go_values | go_skip | go_guarded | go_step | go_upon | go_back | dsimp only))
  go_loopw [4] (fun vi wr => ∃ (m : Nat) (s' : Fz), vi = .int .i64 m ∧ n ≤ m ∧ m < path.length ∧ (FInv s' ∧ FKeep s s') ∧ s'.known.length + m < s.known.length + path.length ∧ cutL path n (m - n) s' = cutL path n (path.length - 1 - n) s ∧
    At W wr (Both (CellT kb (bdC most last any (.slice (some ⟨gp, 0, none⟩) path.length pcap) mb st cnt) tBd) (FzT bl ev mb s' (Both (RowG tPN 1 (.slice (some ⟨gp, 0, none⟩) path.length pcap) path.length (pathV bl path)) R)))) (fun vi _ => (intOf vi).toNat)
  case atStart => exact ⟨path.length - 1, s, by congr 1; omega, by omega, by omega, ⟨HS.out, FKeep.refl s⟩, by omega, rfl, H.out⟩
  case round =>
    obtain ⟨m, s', rfl, hnm, hmp, hinv, hkm, heq, h3⟩ := hrel
    clear c3
    obtain ⟨c3, _, _⟩ := h3.cellF (o := 3) (u := .slice (some ⟨gp, 0, none⟩) path.length pcap) rfl
    have hsN : s'.N.length = s.N.length := hinv.2.len
    have HEQ := Lib.hid heq
    have HI := Lib.hid hinv
    have H3 := Lib.hid h3
    clear heq hinv
    by_cases hlt : n < m
    · obtain ⟨q, rfl⟩ : ∃ q, m = q + 1 := ⟨m - 1, by omega⟩
      have hu := HP.out q
      have hc := HP.out (q + 1)
      have hpos := HPE.out q hmp
      generalize hun : path.getD q 0 = uN at hu hpos
      generalize hcn : path.getD (q + 1) 0 = cN at hc
      have hedg := HI.out.2.edges uN hu
      have hcntu := HI.out.1.cnt uN (by rw [hsN]; exact hu)
      obtain ⟨l, hl⟩ : ∃ l, (nodeAt s'.N uN).edges.length = l + 1 := ⟨(nodeAt s'.N uN).edges.length - 1, by omega⟩
      have h4 := h3.drew (HST.out s')
      have h5 := h4.pull3.node (i := uN) (by rw [hsN]; exact hu)
      rw [hl] at h5
      obtain ⟨ge, ecap, hge, _, hec, hecm⟩ := own_cut h5.drop.rowG (by omega)
      have facts : ∀ (wx : World) (s2 : Fz), At W wx (Both (CellT kb (bdC most last any (.slice (some ⟨gp, 0, none⟩) path.length pcap) mb st cnt) tBd) (FzT bl ev mb s2 (Both (RowG tPN 1 (.slice (some ⟨gp, 0, none⟩) path.length pcap) path.length (pathV bl path)) R))) → s2.N.length = s.N.length →
          wx.cell? ⟨bl uN, 1, none⟩ = some (.slice (some ⟨ge, 0, none⟩) (l + 1) ecap) ∧ wx.cell? ⟨kb, 3, none⟩ = some (.slice (some ⟨gp, 0, none⟩) path.length pcap) ∧ wx.cell? ⟨gp, q + 1, none⟩ = some (ptrN (bl cN)) := fun wx s2 hx hl2 =>
        ⟨((hx.pull3.node (i := uN) (by rw [hl2]; exact hu)).cellF (o := 1) (u := ev uN) rfl).1.trans (by rw [hge]), (hx.cellF (o := 3) (u := .slice (some ⟨gp, 0, none⟩) path.length pcap) rfl).1, (hx.drop.drop.drop.rowCell (by rw [← hcn]; exact pathV_get hmp)).1⟩
      have hpq := (h3.drop.drop.drop.rowCell (u := ptrN (bl uN)) (by rw [← hun]; exact pathV_get (by omega))).1
      have hfr := freeze_at kb mb bl ev (bdC most last any (.slice (some ⟨gp, 0, none⟩) path.length pcap) mb st cnt) rfl (n := cN) (by rw [hsN]; exact hc) HI.out.1 (by rw [hsN]; exact hN) (by omega) wr.drew _ h4 ((RowG.stable _ _ _ _ _).both HR.out)
      have hfi := freezeP_inv (n := cN) HI.out.1 (by rw [hsN]; exact hc)
      have hse := setLast_inv (up := uN) (o := (freezeP s' cN).2) hfi.1 (by rw [hfi.2.1.len, hsN]; exact hu) (by rw [hfi.2.1.len]; exact hfi.2.2.1)
      have hnext : cutL path n (q - n) ⟨setLast (freezeP s' cN).1.N uN (freezeP s' cN).2, (freezeP s' cN).1.known⟩ = cutL path n (path.length - 1 - n) s := by
        rw [← HEQ.out, show q + 1 - n = (q - n) + 1 from by omega]
        simp only [cutL]
        rw [show n + (q - n) + 1 = q + 1 from by omega, show n + (q - n) = q from by omega, hcn, hun]
      have F0 := facts _ _ h4 hsN
      have hle2 : (nodeAt (freezeP s' cN).1.N uN).edges.length = l + 1 := by rw [hfi.2.1.edges uN (by rw [hsN]; exact hu)]; exact hl
      have hl2N : (freezeP s' cN).1.N.length = s.N.length := by rw [hfi.2.1.len, hsN]
      have step : ∀ (w5 : World), At W w5 (Both (CellT kb (bdC most last any (.slice (some ⟨gp, 0, none⟩) path.length pcap) mb st cnt) tBd) (FzT bl ev mb (freezeP s' cN).1 (Both (RowG tPN 1 (.slice (some ⟨gp, 0, none⟩) path.length pcap) path.length (pathV bl path)) R))) →
          (∃ z, w5.cell? ⟨ge, l * 2 + 1, none⟩ = some z) ∧ w5.frozen? ⟨ge, l * 2 + 1, none⟩ = false ∧ ge < w5.heap.size ∧
          At W (w5.setCell ⟨ge, l * 2 + 1, none⟩ (ptrN (bl (freezeP s' cN).2))) (Both (CellT kb (bdC most last any (.slice (some ⟨gp, 0, none⟩) path.length pcap) mb st cnt) tBd) (FzT bl ev mb ⟨setLast (freezeP s' cN).1.N uN (freezeP s' cN).2, (freezeP s' cN).1.known⟩ (Both (RowG tPN 1 (.slice (some ⟨gp, 0, none⟩) path.length pcap) path.length (pathV bl path)) R))) := by
        intro w5 h6
        have h7 := h6.pull3.node (i := uN) (by rw [hl2N]; exact hu)
        have hge2 := hge
        have hst7 := (HoleT.stable bl ev (freezeP s' cN).1.N uN).both ((CellT.stable kb (bdC most last any (.slice (some ⟨gp, 0, none⟩) path.length pcap) mb st cnt) tBd).both ((MapT.stable Try.prog tKy mb (knV bl (freezeP s' cN).1.known)).both ((RowG.stable tPN 1 (.slice (some ⟨gp, 0, none⟩) path.length pcap) path.length (pathV bl path)).both HR.out)))
        have hxl := flatMap_get (egc_len bl) (nodeAt (freezeP s' cN).1.N uN).edges (i := l) (j := 1) (by omega) (by decide)
        have hset := egc_set (bl := bl) (freezeP s' cN).2 (nodeAt (freezeP s' cN).1.N uN).edges (l := l) (by omega)
        have h8 := h7.swap
        rw [hge, hle2] at h8
        obtain ⟨r1, r2, r3⟩ := h8.rowCell (u := ptrN (bl ((nodeAt (freezeP s' cN).1.N uN).edges.getD l default).2)) hxl
        have h9 := h8.storeG ((CellT.stable _ _ _).both hst7) (l * 2 + 1) (ptrN (bl (freezeP s' cN).2))
        rw [hset] at h9
        refine ⟨⟨_, r1⟩, r2, r3, ?_⟩
        have e1 : (nodeAt (freezeP s' cN).1.N uN).edges.length - 1 = l := by omega
        have h10 := h9.swap
        have e2 : l + 1 = ((nodeAt (freezeP s' cN).1.N uN).edges.set l (((nodeAt (freezeP s' cN).1.N uN).edges.getD l default).1, (freezeP s' cN).2)).length := by rw [List.length_set, hle2]
        rw [← hge] at h10
        rw [e2] at h10
        have h11 := (h10.nodeBack0 (i := uN) (nd := { nodeAt (freezeP s' cN).1.N uN with edges := (nodeAt (freezeP s' cN).1.N uN).edges.set l (((nodeAt (freezeP s' cN).1.N uN).edges.getD l default).1, (freezeP s' cN).2) }) (by rw [hl2N]; exact hu)).push3
        have e3 : setLast (freezeP s' cN).1.N uN (freezeP s' cN).2 = (freezeP s' cN).1.N.set uN { nodeAt (freezeP s' cN).1.N uN with edges := (nodeAt (freezeP s' cN).1.N uN).edges.set l (((nodeAt (freezeP s' cN).1.N uN).edges.getD l default).1, (freezeP s' cN).2) } := by
          unfold setLast
          rw [e1]
        show At W _ (Both _ (Both _ (Both (NodesT bl ev (setLast (freezeP s' cN).1.N uN (freezeP s' cN).2)) _)))
        rw [e3]
        exact h11
      have FACTS := Lib.hid facts
      have STEP := Lib.hid step
      have HFR := Lib.hid hfr
      have HF0 := Lib.hid F0
      have HL2 := Lib.hid (And.intro hl2N (And.intro hse hfi))
      have HNX := Lib.hid hnext
      have HL3 := Lib.hid (show (⟨setLast (freezeP s' cN).1.N uN (freezeP s' cN).2, (freezeP s' cN).1.known⟩ : Fz).N.length = s.N.length from hse.2.len.trans hl2N)
      have HKN := Lib.hid hfi.2.2.2
      have hl0 : (0 : Int) ≤ (l : Int) := by omega
      have hl1 : (l : Int) < ((l + 1 : Nat) : Int) := by omega
      have hl2 : (l : Int) < (l : Int) + 1 := by omega
      have hlw : IntKind.i64.wrap (l : Int) = (l : Int) := by rw [IntKind.wrap_i64] <;> omega
      have hq1 : (0 : Int) ≤ (q : Int) + 1 := by omega
      have hq2 : (q : Int) + 1 < (path.length : Int) := by omega
      clear h4 h5 facts step hfr F0 hge hun hcn hl h3 hnext hfi hse hedg hcntu hle2 hl2N hpos
      obtain ⟨F1, F2, F3⟩ : wr.cell? ⟨bl uN, 1, none⟩ = some (.slice (some ⟨ge, 0, none⟩) (l + 1) ecap) ∧ wr.cell? ⟨kb, 3, none⟩ = some (.slice (some ⟨gp, 0, none⟩) path.length pcap) ∧ wr.cell? ⟨gp, q + 1, none⟩ = some (ptrN (bl cN)) := HF0.out
      (repeat' (first | (go_big_may; fail) | go_values | go_skip | go_guarded | go_step | go_upon | go_back | dsimp only))
      go_region_held3 (fun wx => wx.cell? ⟨bl uN, 1, none⟩ = some (.slice (some ⟨ge, 0, none⟩) (l + 1) ecap) ∧ wx.cell? ⟨kb, 3, none⟩ = some (.slice (some ⟨gp, 0, none⟩) path.length pcap) ∧ wx.cell? ⟨gp, q + 1, none⟩ = some (ptrN (bl cN)))
        (first | exact HF0.out | exact FACTS.out _ _ h5' HL2.out.1 | exact FACTS.out _ ⟨setLast (freezeP s' cN).1.N uN (freezeP s' cN).2, (freezeP s' cN).1.known⟩ H6.out HL3.out)
        ((go_at_call 70; refine HFR.out.mono ?_; rintro e5 w5 ⟨rfl, h5'⟩; obtain ⟨⟨z, z1⟩, z2, z3, h6⟩ := STEP.out w5 h5'; have H6 := Lib.hid h6; clear h6))
      all_goals
        (repeat' (first | (go_big_may; fail) | go_values | go_skip | go_guarded | go_step | go_upon | go_back | dsimp only))
        go_roundw
        case rel => exact ⟨q, ⟨setLast (freezeP s' cN).1.N uN (freezeP s' cN).2, (freezeP s' cN).1.known⟩, by simp, by omega, by omega, ⟨HL2.out.2.1.1, (HI.out.2.trans HL2.out.2.2.2.1).trans HL2.out.2.1.2⟩, by have := HKN.out; dsimp only; omega, HNX.out, H6.out⟩
        case measure => simp [intOf] <;> omega
    · obtain rfl : m = n := by omega
      have h4 := ((h3.setCell (FzT.stable ((RowG.stable _ _ _ _ _).both HR.out)) 3 (.slice (some ⟨gp, 0, none⟩) (m + 1) pcap)).pull4.rowCut (m := m + 1) (by omega)).push4
      rw [pathV_take] at h4
      have H4 := Lib.hid h4
      clear h3 h4
      (repeat' (first | (go_big_may; fail) | go_values | go_skip | go_guarded | go_step | go_upon | go_back | dsimp only))
      go_end0
      refine ⟨rfl, .slice (some ⟨gp, 0, none⟩) (m + 1) pcap, ?_⟩
      have hq := HEQ.out
      rw [Nat.sub_self] at hq
      rw [← hq]
      exact H4.out
end

section
open Go.RowKit

abbrev BdT (kb mb : Nat) (bl : Nat → Nat) (ev : Nat → Value) (most : Int) (any : Bool) (pv : Value) (st cnt : Int) (lb : ByteArray) (b : Bd) (R : Thing) : Thing :=
  Both (CellT kb (bdC most lb any pv mb st cnt) tBd) (FzT bl ev mb b.f (Both (RowG tPN 1 pv b.path.length (pathV bl b.path)) R))
/-- Equal up to n: the nodes' blocks. -/
theorem egc_congr {bl bl' : Nat → Nat} {n : Nat} (h : ∀ i, i < n → bl' i = bl i) : ∀ {es : List (UInt8 × Nat)}, (∀ e ∈ es, e.2 < n) → es.flatMap (egc bl') = es.flatMap (egc bl)
  | [], _ => rfl
  | e :: es, he => by
    simp only [List.flatMap_cons]
    rw [egc_congr h fun e he' => he e (by simp [he']), egc, egc, h e.2 (he e (by simp))]
theorem pathV_congr {bl bl' : Nat → Nat} {n : Nat} (h : ∀ i, i < n → bl' i = bl i) {path : List Nat} (hp : ∀ p ∈ path, p < n) : pathV bl' path = pathV bl path :=
  List.map_congr_left fun p hp' => by rw [h p (hp p hp')]
theorem knV_congr {bl bl' : Nat → Nat} {n : Nat} (h : ∀ i, i < n → bl' i = bl i) {M : List (NdKey × Nat)} (hp : ∀ p ∈ M, p.2 < n) : knV bl' M = knV bl M :=
  List.map_congr_left fun p hp' => by rw [h p.2 (hp p hp')]
theorem two_one' (a b : Value) (ha : a.oneCell' = true) (hb : b.oneCell' = true) : ∀ u ∈ (#[a, b] : Array Value).toList, u.oneCell' = true := by
  intro u hu
  simp at hu
  rcases hu with rfl | rfl
  · exact ha
  · exact hb

/-- 'append(s, x, ..)' behind a draw. -/
theorem wpList_append_to_drew {P : Program} {W w : World} {R : Thing} {ops : Array Oper} {rest : List Oper} {o : Oper} {a : Act} {Q : Exit → Act → World → Prop} (hgd : o.guard = none)
    (s x : Operand) (t e : TypeId) (ho : o.op = .call { callee := .builtin .append, args := #[s, x], argTypes := #[t, t] }) (ht : P.underlying t = some (.slice e))
    {z : Value} {size bytes : Nat} (hinfo : (P.info? e).map (fun i => (i.zero, i.size, i.bytes)) = some (some z, size, bytes)) (hzs : z.cells.size = size) (hsz : 0 < size)
    {v : Value} {n : Nat} {xs : List Value} (hs : a.eval s = v) (hat : At W w (Both (RowG e size v n xs) R)) (hR : Stable R)
    {C : Array Value} {g m c : Nat} (hx : a.eval x = .slice (some ⟨g, 0, none⟩) m c) (hg : g = w.heap.size) (hC : C.size = m * size) (h1 : ∀ u ∈ C.toList, u.oneCell' = true)
    (h63 : n + m ≤ maxLen) (hbytes : (n + m) * bytes ≤ 140737488355328)
    (h : ∀ ao cap w', At W w' (Both (RowG e size (.slice ao (n + m) cap) (n + m) (xs ++ C.toList)) R) → Upd (rowOf v) w.drew w' → wpList P ops Q rest (a.put o.dst (.slice ao (n + m) cap)) w') : wpList P ops Q (o :: rest) a (w.alloc (.cells C e)).drew :=
  wpList_append_to (w := w.drew) hgd s x t e ho ht hinfo hzs hsz hs (hat.drew ((RowG.stable _ _ _ _ _).both hR)) hR hx hg hC h1 h63 hbytes h
theorem one_ptr (b : Nat) : ∀ u ∈ (#[ptrN b] : Array Value).toList, u.oneCell' = true := by
  intro u hu
  simp at hu
  subst hu
  rfl
theorem blT_congr {bl bl2 : Nat → Nat} {ev : Nat → Value} {mb : Nat} {s : Fz} {pv : Value} {path : List Nat} {R : Thing} (h : ∀ i, i < s.N.length → bl2 i = bl i) (hs : FInv s) (hp : ∀ p ∈ path, p < s.N.length) :
    FzT bl ev mb s (Both (RowG tPN 1 pv path.length (pathV bl path)) R) = FzT bl2 ev mb s (Both (RowG tPN 1 pv path.length (pathV bl2 path)) R) := by
  unfold FzT NodesT
  rw [pathV_congr h hp, knV_congr h hs.kn, AllT.congr (g := fun i => NodeT bl2 (bl2 i) (ev i) (nodeAt s.N i)) fun i hi => by
    unfold NodeT
    rw [h i hi, egc_congr h (hs.tgt i hi)]]
theorem At.growT {W w : World} {R : Thing} {bl : Nat → Nat} {ev : Nat → Value} {N : List Nd} {up : Nat} {c : UInt8} {sl : Value} (hu : up < N.length)
    (h : At W w (Both (CellT (bl up) #[.bool (nodeAt N up).final, sl, .int .i64 (nodeAt N up).id] tNd) (Both (RowG tEg 2 sl ((nodeAt N up).edges.length + 1) ((nodeAt N up).edges.flatMap (egc bl) ++ [bv c, ptrN (bl N.length)])) (Both (HoleT bl ev N up) (Both (CellT (bl N.length) #[.bool false, .slice none 0 0, .int .i64 0] tNd) R))))) (hR : Stable R) :
    At W w (Both (NodesT bl (updF (updF ev up sl) N.length (.slice none 0 0)) (growN N up c)) R) := by
  have e1 : (nodeAt N up).edges.flatMap (egc bl) ++ [bv c, ptrN (bl N.length)] = ((nodeAt N up).edges ++ [(c, N.length)]).flatMap (egc bl) := by simp
  have e2 : (nodeAt N up).edges.length + 1 = ((nodeAt N up).edges ++ [(c, N.length)]).length := by simp
  rw [e1, e2] at h
  have h2 := h.nodeBack (nd := { nodeAt N up with edges := (nodeAt N up).edges ++ [(c, N.length)] }) hu
  have h3 := (h2.swap.noRowG ((CellT.stable _ _ _).both ((NodesT.stable _ _ _).both hR)) tEg 2).swap
  have h4 : At W w (Both (Both (CellT (bl N.length) #[.bool false, .slice none 0 0, .int .i64 0] tNd) (RowG tEg 2 (.slice none 0 0) 0 [])) (Both (NodesT bl (updF ev up sl) (N.set up { nodeAt N up with edges := (nodeAt N up).edges ++ [(c, N.length)] })) R)) := h3.impl fun _ q => q.assoc'
  have h5 := h4.pushT
  have hl : (N.set up { nodeAt N up with edges := (nodeAt N up).edges ++ [(c, N.length)] }).length = N.length := by simp
  rw [hl] at h5
  show At W w (Both (AllT _ (growN N up c).length) R)
  rw [growN_len]
  refine h5.congrT fun i hi => ?_
  by_cases he : i = N.length
  · subst he
    rw [putT_same, updF_same, nodeAt_growN_new]
    rfl
  · rw [putT_other he, updF_other he, nodeAt_growN_old (by omega)]

set_option maxRecDepth 100000 in
set_option maxHeartbeats 1600000 in
theorem add_at {W : World} (kb mb : Nat) (bl : Nat → Nat) (ev : Nat → Value) (most : Int) (hmost : 1099511627776 ≤ most) (any : Bool) (pv : Value) (cnt : Int) (lb wb : ByteArray) {b : Bd} (hb : b.last = lb.data.toList) (hI : BInv b) (hw : wb.size ≤ 255) (hl : lb.size ≤ 255)
    (hris : any = true → Op.bytesLess wb.toList lb.toList = false ∧ (wb.toList == lb.toList) = false) (hN : b.f.N.length ≤ 549755813888) (hK : b.f.known.length ≤ 549755813888)
    (w : World) (R : Thing) (h : At W w (BdT kb mb bl ev most any pv 0 cnt lb b R)) (hR : Stable R) :
    Calls Try.prog 68 #[ptrN kb, .string wb] w fun e w' => e = .returned (.int .i64 0) ∧ ∃ bl' ev' pv', At W w' (BdT kb mb bl' ev' most true pv' 0 cnt wb (addP b wb.data.toList) R) := by
  obtain ⟨c0, _, hkl⟩ := h.cellF (o := 0) (u := .int .i64 most) rfl
  obtain ⟨c1, _, _⟩ := h.cellF (o := 1) (u := .string lb) rfl
  obtain ⟨c2, _, _⟩ := h.cellF (o := 2) (u := .bool any) rfl
  have hst : Stable (BdT kb mb bl ev most any pv 0 cnt lb b R) := (CellT.stable _ _ _).both (FzT.stable ((RowG.stable _ _ _ _ _).both hR))
  have hcl := commonL_le wb.data.toList lb.data.toList
  have hbl : b.last.length = lb.size := by rw [hb]; simp
  have hnl : commonL wb.data.toList lb.data.toList ≤ wb.size ∧ commonL wb.data.toList lb.data.toList ≤ lb.size := by simpa using hcl
  have HC := Lib.hid (Common_calls wb lb w (by omega) (by omega))
  have hpl := hI.len
  generalize hcn : commonL wb.data.toList lb.data.toList = n at *
  have HCN := Lib.hid hcn
  have HCUT := Lib.hid (fun w1 (h1 : At W w1 (BdT kb mb bl ev most any pv 0 cnt lb b R)) => cut_at kb mb bl ev most lb any pv 0 cnt (path := b.path) (n := n) (by omega) hI.f (getD_lt hI.pin hI.pos) hI.pe (by omega) (by omega) w1 R h1 hR)
  have HG := Lib.hid (cut_g hI n (by omega))
  have HST := Lib.hid hst
  have H := Lib.hid h
  have HR := Lib.hid hR
  have HIV := Lib.hid hI
  have HRIS := Lib.hid hris
  have HB := Lib.hid hb
  have HBL := Lib.hid hbl
  have hp1 : b.path.length - 1 - n = b.last.length - n := by omega
  have HP1 := Lib.hid hp1
  have hws : ¬ (255 : Int) < (wb.size : Int) := by omega
  clear h hst hR hI hris hb hcn hcl hp1 hbl
  go_enter Try.func68, Try.ntmps68
  go_upto_region 3 with (fail)
  go_cut [23] (fun v wx => v = .bool false ∧ wx = w)
  case first =>
    refine wp_norm ?_
    rename_i J K' hJ hK
    have HJ := Lib.hid hJ
    have HK := Lib.hid hK
    clear hJ hK
    cases any with
    | false =>
      (repeat' (first | (go_big_may; fail) | go_values | go_skip | go_guarded | go_step | go_upon | go_back | dsimp only))
      refine HK.out _ _ ?_
      have hJ := HJ.out
      go_meet
      case rel => exact ⟨rfl, rfl⟩
    | true =>
      obtain ⟨r1, r2⟩ := HRIS.out rfl
      (repeat' (first | (go_big_may; fail) | go_values | go_skip | go_guarded | go_step | go_upon | go_back | dsimp only))
      refine HK.out _ _ ?_
      have hJ := HJ.out
      go_meet
      case rel => exact ⟨rfl, rfl⟩
  case rest =>
    obtain ⟨rfl, rfl⟩ := hcut
    (repeat' (first | (go_big_may; fail) | go_values | go_skip | go_guarded | go_step | go_upon | go_back | dsimp only))
    refine HC.out.mono ?_
    rintro e5 w5 ⟨rfl, hb5⟩
    have h5 := H.out.mono HST.out hb5
    have HC2 := Lib.hid (HCUT.out w5 h5)
    clear h5
    (repeat' (first | (go_big_may; fail) | go_values | go_skip | go_guarded | go_step | go_upon | go_back | dsimp only))
    refine HC2.out.mono ?_
    rintro e6 w6 ⟨rfl, pv6, h6⟩
    have H6 := Lib.hid h6
    clear h6 c0 c1 c2
    (repeat' (first | (go_big_may; fail) | go_values | go_skip | go_guarded | go_step | go_upon | go_back | dsimp only))
    have hg0 := HG.out
    have hsz2 : (wb.data.toList.drop n).length = wb.size - n := by simp
    have HSZ := Lib.hid hsz2
    have HFB := Lib.hid (growL_inv (wb.data.toList.drop n) _ _ hg0.1)
    go_loopw [6] (fun vi wr => ∃ (i : Nat) (bl' : Nat → Nat) (ev' : Nat → Value) (N' : List Nd) (path' : List Nat) (pv' : Value), vi = .int .i64 i ∧ i ≤ wb.size ∧ n ≤ i ∧ path'.length = i + 1 ∧ N'.length = b.f.N.length + (i - n) ∧
      growL (wb.data.toList.drop i) (N', path') = growL (wb.data.toList.drop n) ((cutL b.path n (b.last.length - n) b.f).N, b.path.take (n + 1)) ∧ GInv (cutL b.path n (b.last.length - n) b.f).known N' path' ∧
      At W wr (Both (CellT kb (bdC most lb any pv' mb 0 cnt) tBd) (FzT bl' ev' mb ⟨N', (cutL b.path n (b.last.length - n) b.f).known⟩ (Both (RowG tPN 1 pv' path'.length (pathV bl' path')) R)))) (fun vi _ => wb.size - (intOf vi).toNat)
    case atStart =>
      have h7 := H6.out
      rw [HP1.out] at h7
      have hlt : (b.path.take (n + 1)).length = n + 1 := by rw [List.length_take]; have := HBL.out; omega
      refine ⟨n, bl, ev, _, _, pv6, rfl, hnl.1, Nat.le_refl _, hlt, by rw [HG.out.2.1]; omega, rfl, HG.out.1, ?_⟩
      rw [hlt]
      exact h7
    case round =>
      obtain ⟨i, bl', ev', N', path', pv', rfl, hi, hni, hpl', hNl, hgr, hgi, h7⟩ := hrel
      have HGR := Lib.hid hgr
      have HGI := Lib.hid hgi
      clear hgr hg0
      by_cases hlt : i < wb.size
      · obtain ⟨c, hc⟩ : ∃ c, wb.data.toList[i]? = some c := ⟨_, List.getElem?_eq_getElem (by simpa using hlt)⟩
        have hcw : wb[i] = c := by
          have : wb.data.toList[i]? = some wb[i] := by rw [List.getElem?_eq_getElem (by simpa using hlt)]; rfl
          rw [hc] at this
          exact (Option.some.inj this).symm
        have hdr : wb.data.toList.drop i = c :: wb.data.toList.drop (i + 1) := by
          obtain ⟨h1, h2⟩ := List.getElem?_eq_some_iff.1 hc
          rw [List.drop_eq_getElem_cons h1, h2]
        have hup := HGI.out.last
        have hpi : path'.getD i 0 = path'.getLastD 0 := by rw [getLastD_getD HGI.out.ne, hpl', Nat.add_sub_cancel]
        generalize hupn : path'.getLastD 0 = up at hup hpi
        obtain ⟨gp, pcap, hpv, _, hpc, hpcm⟩ := own_cut h7.drop.drop.drop.rowG (by omega)
        rw [hpl'] at hpv hpc
        subst hpv
        have hbb : ∀ j, j < N'.length → (updF bl' N'.length wr.heap.size) j = bl' j := fun j hj => updF_other (by omega)
        rw [blT_congr (bl2 := updF bl' N'.length wr.heap.size) hbb HGI.out.f HGI.out.pin] at h7
        have hbN : (updF bl' N'.length wr.heap.size) N'.length = wr.heap.size := updF_same
        generalize updF bl' N'.length wr.heap.size = bl2 at h7 hbN
        have hst7 : Stable (Both (CellT kb (bdC most lb any (.slice (some ⟨gp, 0, none⟩) (i + 1) pcap) mb 0 cnt) tBd) (FzT bl2 ev' mb ⟨N', (cutL b.path n (b.last.length - n) b.f).known⟩ (Both (RowG tPN 1 (.slice (some ⟨gp, 0, none⟩) (i + 1) pcap) path'.length (pathV bl2 path')) R))) := (CellT.stable _ _ _).both (FzT.stable ((RowG.stable _ _ _ _ _).both HR.out))
        obtain ⟨d3, _, _⟩ := h7.cellF (o := 3) (u := .slice (some ⟨gp, 0, none⟩) (i + 1) pcap) rfl
        have d4 := h7.drop.drop.drop
        rw [hpl'] at d4
        have d5 := (d4.rowCell (u := ptrN (bl2 up)) (by rw [← hpi]; exact pathV_get (by omega))).1
        have dlt := (d4.rowCell (u := ptrN (bl2 up)) (by rw [← hpi]; exact pathV_get (by omega))).2.2
        have d6 := h7.pull3.node (i := up) hup
        obtain ⟨d7, _, ulth⟩ := d6.cellF (o := 1) (u := ev' up) rfl
        have hcu := HGI.out.f.cnt up hup
        dsimp only at hcu
        have h8 := (h7.newCell hst7 #[.bool false, .slice none 0 0, .int .i64 0] tNd)
        rw [← hbN] at h8
        have hst8 : Stable (Both (CellT (bl2 N'.length) #[.bool false, .slice none 0 0, .int .i64 0] tNd) (Both (CellT kb (bdC most lb any (.slice (some ⟨gp, 0, none⟩) (i + 1) pcap) mb 0 cnt) tBd) (FzT bl2 ev' mb ⟨N', (cutL b.path n (b.last.length - n) b.f).known⟩ (Both (RowG tPN 1 (.slice (some ⟨gp, 0, none⟩) (i + 1) pcap) path'.length (pathV bl2 path')) R)))) := (CellT.stable _ _ _).both hst7
        have h9 : At W (wr.alloc (.cells #[.bool false, .slice none 0 0, .int .i64 0] tNd)) (Both (RowG tEg 2 (ev' up) (nodeAt N' up).edges.length ((nodeAt N' up).edges.flatMap (egc bl2))) (Both (CellT (bl2 up) #[.bool (nodeAt N' up).final, ev' up, .int .i64 (nodeAt N' up).id] tNd) (Both (HoleT bl2 ev' N' up) (Both (CellT (bl2 N'.length) #[.bool false, .slice none 0 0, .int .i64 0] tNd) (Both (CellT kb (bdC most lb any (.slice (some ⟨gp, 0, none⟩) (i + 1) pcap) mb 0 cnt) tBd) (Both (MapT Try.prog tKy mb (knV bl2 (cutL b.path n (b.last.length - n) b.f).known)) (Both (RowG tPN 1 (.slice (some ⟨gp, 0, none⟩) (i + 1) pcap) path'.length (pathV bl2 path')) R))))))) := (h8.pull4.node (i := up) hup).swap
        have hstE := (CellT.stable (bl2 up) #[.bool (nodeAt N' up).final, ev' up, .int .i64 (nodeAt N' up).id] tNd).both ((HoleT.stable bl2 ev' N' up).both ((CellT.stable (bl2 N'.length) #[.bool false, .slice none 0 0, .int .i64 0] tNd).both ((CellT.stable kb (bdC most lb any (.slice (some ⟨gp, 0, none⟩) (i + 1) pcap) mb 0 cnt) tBd).both ((MapT.stable Try.prog tKy mb (knV bl2 (cutL b.path n (b.last.length - n) b.f).known)).both ((RowG.stable tPN 1 (.slice (some ⟨gp, 0, none⟩) (i + 1) pcap) path'.length (pathV bl2 path')).both HR.out)))))
        obtain ⟨ea, ec, hes, _, _⟩ := own_shape d6.drop.rowG
        rw [hes] at d7 h9 hstE
        have H9 := Lib.hid h9
        have HSTE := Lib.hid hstE
        have HD := Lib.hid (And.intro hdr (And.intro hupn (And.intro hbN (And.intro hpl' hup))))
        clear h7 h8 h9 hst7 hst8 hstE d4 d6 hdr hupn hpi hc hes hpl' hup
        have hi0 : (0 : Int) ≤ (i : Int) := by omega
        have hi1 : (i : Int) < (i : Int) + 1 := by omega
        have hi2 : (i : Int) < (wb.size : Int) := by omega
        have hmk : ∀ (w2 : World) (a2 : Option Addr) (c2 : Nat), At W w2 (Both (RowG tEg 2 (.slice a2 ((nodeAt N' up).edges.length + 1) c2) ((nodeAt N' up).edges.length + 1) ((nodeAt N' up).edges.flatMap (egc bl2) ++ (#[bv c, ptrN wr.heap.size] : Array Value).toList)) (Both (CellT (bl2 up) #[.bool (nodeAt N' up).final, .slice ea (nodeAt N' up).edges.length ec, .int .i64 (nodeAt N' up).id] tNd) (Both (HoleT bl2 ev' N' up) (Both (CellT (bl2 N'.length) #[.bool false, .slice none 0 0, .int .i64 0] tNd) (Both (CellT kb (bdC most lb any (.slice (some ⟨gp, 0, none⟩) (i + 1) pcap) mb 0 cnt) tBd) (Both (MapT Try.prog tKy mb (knV bl2 (cutL b.path n (b.last.length - n) b.f).known)) (Both (RowG tPN 1 (.slice (some ⟨gp, 0, none⟩) (i + 1) pcap) path'.length (pathV bl2 path')) R))))))) →
            At W (w2.setCell ⟨bl2 up, 1, none⟩ (.slice a2 ((nodeAt N' up).edges.length + 1) c2)) (Both (RowG tPN 1 (.slice (some ⟨gp, 0, none⟩) (i + 1) pcap) path'.length (pathV bl2 path')) (Both (NodesT bl2 (updF (updF ev' up (.slice a2 ((nodeAt N' up).edges.length + 1) c2)) N'.length (.slice none 0 0)) (growN N' up c)) (Both (CellT kb (bdC most lb any (.slice (some ⟨gp, 0, none⟩) (i + 1) pcap) mb 0 cnt) tBd) (Both (MapT Try.prog tKy mb (knV bl2 (cutL b.path n (b.last.length - n) b.f).known)) R)))) := by
          intro w2 a2 c2 h10
          have hstR := (HoleT.stable bl2 ev' N' up).both ((CellT.stable (bl2 N'.length) #[.bool false, .slice none 0 0, .int .i64 0] tNd).both ((CellT.stable kb (bdC most lb any (.slice (some ⟨gp, 0, none⟩) (i + 1) pcap) mb 0 cnt) tBd).both ((MapT.stable Try.prog tKy mb (knV bl2 (cutL b.path n (b.last.length - n) b.f).known)).both ((RowG.stable tPN 1 (.slice (some ⟨gp, 0, none⟩) (i + 1) pcap) path'.length (pathV bl2 path')).both HR.out))))
          have h11 := h10.swap.setCell ((RowG.stable _ _ _ _ _).both hstR) 1 (.slice a2 ((nodeAt N' up).edges.length + 1) c2)
          rw [← HD.out.2.2.1] at h11
          exact (At.growT HD.out.2.2.2.2 h11 ((CellT.stable _ _ _).both ((MapT.stable _ _ _ _).both ((RowG.stable _ _ _ _ _).both HR.out)))).pull4
        have HMK := Lib.hid hmk
        have HSTP := Lib.hid (fun (ev2 : Nat → Value) (N2 : List Nd) => (NodesT.stable bl2 ev2 N2).both ((CellT.stable kb (bdC most lb any (.slice (some ⟨gp, 0, none⟩) (i + 1) pcap) mb 0 cnt) tBd).both ((MapT.stable Try.prog tKy mb (knV bl2 (cutL b.path n (b.last.length - n) b.f).known)).both HR.out)))
        have hpl3 : path'.length = i + 1 := HD.out.2.2.2.1
        clear hmk
        have hst9 := (RowG.stable tEg 2 (.slice ea (nodeAt N' up).edges.length ec) (nodeAt N' up).edges.length ((nodeAt N' up).edges.flatMap (egc bl2))).both HSTE.out
        obtain ⟨v2, w2, hrun, h10, _, _⟩ := append_at_run (P := Try.prog) 148 148 tEg Try.underlying148 info_Eg rfl (by decide) (H9.out.drew hst9) HSTE.out (C := #[bv c, ptrN wr.heap.size]) (m := 1) (c := 1) rfl (two_one' _ _ rfl rfl) (by unfold maxLen; omega) (by omega)
        obtain ⟨a2, c2, rfl, _, _⟩ := own_shape h10.rowG
        have hsz9 : (wr.alloc (.cells #[.bool false, .slice none 0 0, .int .i64 0] tNd)).drew.heap.size = wr.heap.size + 1 := by simp
        rw [hsz9] at hrun
        clear hsz9
        have H11 := Lib.hid (HMK.out w2 a2 c2 h10)
        obtain ⟨q1, q2, q3⟩ := h10.drop.cellF (o := 1) (u := .slice ea (nodeAt N' up).edges.length ec) rfl
        obtain ⟨q4, q5, q6⟩ := h10.drop.drop.drop.drop.cellF (o := 3) (u := .slice (some ⟨gp, 0, none⟩) (i + 1) pcap) rfl
        clear h10 hst9
        (repeat' (first | (go_big_may; fail) | go_values | go_skip | go_guarded | go_step | go_upon | go_back | dsimp only))
        go_region_law (refine step_append_run rfl _ _ 148 rfl _ _ rfl rfl hrun ?_)
        all_goals
          clear hrun d3 d5 d7
          (repeat' (first | (go_big_may; ((at_builtin; go_must (refine wpList_append_to rfl _ _ 151 tPN rfl Try.underlying151 info_PN rfl (by decide) rfl (H11.out) (HSTP.out _ _) rfl (by first | rfl | simp) rfl (one_ptr _) (by unfold maxLen; omega) (by omega) ?_); intro a3 c3 w3 h12 _); have H12 := Lib.hid h12; obtain ⟨r1, r2, r3⟩ := h12.pull3.cellF (o := 3) (u := .slice (some ⟨gp, 0, none⟩) (i + 1) pcap) rfl; clear h12 q1 q4)) | go_values | go_skip | go_guarded | go_step | go_upon | go_back | dsimp only))
          go_roundw
          case rel =>
            have h13 := ((H12.out.pull3.setCell ((RowG.stable _ _ _ _ _).both ((NodesT.stable _ _ _).both ((MapT.stable _ _ _ _).both HR.out))) 3 (.slice a3 (path'.length + 1) c3)).pull3.pull4).pull3
            refine ⟨i + 1, bl2, updF (updF ev' up (.slice a2 ((nodeAt N' up).edges.length + 1) c2)) N'.length (.slice none 0 0), growN N' up c, path' ++ [N'.length], .slice a3 (path'.length + 1) c3, by simp, by omega, by omega, by rw [List.length_append, hpl3]; rfl, by rw [growN_len]; omega, ?_, ?_, ?_⟩
            · have hg := HGR.out
              rw [HD.out.1, growL_cons, HD.out.2.1] at hg
              exact hg
            · have hg := HGI.out.step c
              rw [HD.out.2.1] at hg
              exact hg
            · have e1 : pathV bl2 (path' ++ [N'.length]) = pathV bl2 path' ++ (#[ptrN wr.heap.size] : Array Value).toList := by
                rw [← HD.out.2.2.1]; simp
              have e9 : path'.length + 1 = i + 1 + 1 := by omega
              rw [List.length_append, List.length_singleton, e1]
              rw [e9] at h13 ⊢
              exact h13
          case measure => simp [intOf] <;> omega
      · obtain rfl : i = wb.size := by omega
        obtain ⟨gp, pcap, hpv, _, hpc, hpcm⟩ := own_cut h7.drop.drop.drop.rowG (by omega)
        rw [hpl'] at hpv hpc
        subst hpv
        obtain ⟨d0, _, _⟩ := h7.cellF (o := 0) (u := .int .i64 most) rfl
        obtain ⟨d1, fr1, klt⟩ := h7.cellF (o := 1) (u := .string lb) rfl
        obtain ⟨d2, fr2, _⟩ := h7.cellF (o := 2) (u := .bool any) rfl
        obtain ⟨d3, _, _⟩ := h7.cellF (o := 3) (u := .slice (some ⟨gp, 0, none⟩) (wb.size + 1) pcap) rfl
        obtain ⟨d4, _, _⟩ := h7.cellF (o := 4) (u := .map (some mb)) rfl
        have e4 := h7.drop.drop.drop
        rw [hpl'] at e4
        have hpN : path'.getD wb.size 0 < N'.length := getD_lt HGI.out.pin (by have := HGI.out.last; omega) _
        have d5 := (e4.rowCell (u := ptrN (bl' (path'.getD wb.size 0))) (pathV_get (by omega))).1
        generalize hpn : path'.getD wb.size 0 = p at d5 hpN
        have h8 := h7.pull3.node (i := p) hpN
        obtain ⟨d6, fr6, plt⟩ := h8.cellF (o := 0) (u := .bool (nodeAt N' p).final) rfl
        have hne1 : ¬ bl' p = kb := fun e => (h8.pull4.cellNe) e.symm
        have hne2 : ¬ kb = bl' p := fun e => hne1 e.symm
        have hstX := (HoleT.stable bl' ev' N' p).both ((CellT.stable kb (bdC most lb any (.slice (some ⟨gp, 0, none⟩) (wb.size + 1) pcap) mb 0 cnt) tBd).both ((MapT.stable Try.prog tKy mb (knV bl' (cutL b.path n (b.last.length - n) b.f).known)).both ((RowG.stable tPN 1 (.slice (some ⟨gp, 0, none⟩) (wb.size + 1) pcap) path'.length (pathV bl' path')).both HR.out)))
        have h9 := ((h8.setCell ((RowG.stable _ _ _ _ _).both hstX) 0 (.bool true)).nodeBack0 (nd := { nodeAt N' p with final := true }) hpN).push3
        have hstY := FzT.stable (bl := bl') (ev := ev') (mb := mb) (s := ⟨N'.set p { nodeAt N' p with final := true }, (cutL b.path n (b.last.length - n) b.f).known⟩) ((RowG.stable tPN 1 (.slice (some ⟨gp, 0, none⟩) (wb.size + 1) pcap) path'.length (pathV bl' path')).both HR.out)
        have h10 := (h9.setCell hstY 1 (.string wb)).setCell hstY 2 (.bool true)
        have h11 := h10.drew ((CellT.stable _ _ _).both hstY)
        have hlen := fun ty => h11.drop.mapLen tKM ty tPN Try.underlying152
        rw [List.length_map] at hlen
        have hkn2 := HG.out.2.2
        have hbl2 := HBL.out
        have hmk : ¬ most < ((cutL b.path n (b.last.length - n) b.f).known.length : Int) := by omega
        have H11 := Lib.hid h11
        have HPN := Lib.hid hpn
        have hi0 : (0 : Int) ≤ (wb.size : Int) := by omega
        have hi1 : (wb.size : Int) < (wb.size : Int) + 1 := by omega
        have HGS := Lib.hid (show (growL (wb.data.toList.drop n) ((cutL b.path n (b.last.length - n) b.f).N, b.path.take (n + 1))) = (N', path') by
          rw [← HGR.out, List.drop_eq_nil_of_le (by simp)]; rfl)
        clear h7 h8 h9 h10 h11 hstX hstY e4 hpn hbl2 hkn2
        (repeat' (first | (go_big_may; fail) | go_values | go_skip | go_guarded | go_step | go_upon | go_back | dsimp only))
        (refine region_still_tail 9 (by kernel_rfl) (by kernel_rfl) ?_; simp only [List.take_succ_cons, List.take_zero, List.drop_succ_cons, List.drop_zero]; (iterate 9 (first | ((with_reducible refine still_plain ?_ rfl ?_ ?_); rotate_left; (next => (go_simp; (try with_reducible rfl))); simp only [Act.put, List.setIfInBounds_toArray, List.set_cons_zero, List.set_cons_succ]) | ((with_reducible refine still_skip ?_ ?_); (next => (go_simp; done)); simp only [Act.put, List.setIfInBounds_toArray, List.set_cons_zero, List.set_cons_succ]) | ((with_reducible refine still_val ?_ ?_ ?_ ?_); rotate_left; (next => (go_simp; done)); (next => (go_simp; (try with_reducible rfl))); simp only [Act.put, List.setIfInBounds_toArray, List.set_cons_zero, List.set_cons_succ]))); (with_reducible refine wpStill_nil ?_))
        (repeat' (first | (go_big_may; fail) | go_values | go_skip | go_guarded | go_step | go_upon | go_back | dsimp only))
        go_ret
        refine ⟨rfl, bl', ev', .slice (some ⟨gp, 0, none⟩) (wb.size + 1) pcap, ?_⟩
        have hx := H11.out
        have e0 : wb.data.toList.length = wb.size := by simp
        have e1 : commonL wb.data.toList b.last = n := by rw [HB.out]; exact HCN.out
        have e2 : path'.getD wb.data.toList.length 0 = p := by rw [e0]; exact HPN.out
        have e : addP b wb.data.toList = ⟨⟨N'.set p { nodeAt N' p with final := true }, (cutL b.path n (b.last.length - n) b.f).known⟩, path', wb.data.toList⟩ := by
          simp only [addP, e1, HGS.out, e2, markL]
        rw [e]
        exact hx
end
end Go.Proofs.Ytcbdncjknpdnbaa
