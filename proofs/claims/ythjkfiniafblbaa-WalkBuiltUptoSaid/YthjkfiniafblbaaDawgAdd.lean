/- dawg.Builder.add walked. -/
import Derived.Test.YthjkfiniafblbaaDawgCut
import Derived.Test.YthjkfiniafblbaaDawgP
import Derived.Test.YthjkfiniafblbaaCommon
namespace Go.Proofs.Ythjkfiniafblbaa
open Go.RowKit

abbrev BdT (kb mb : Nat) (bl : Nat → Nat) (ev : Nat → Value) (most : Int) (any : Bool) (pv : Value) (st cnt : Int) (lb : ByteArray) (b : Bd) (R : Thing) : Thing :=
  Both (CellT kb (bdC most lb any pv mb st cnt) tBd) (FzT bl ev mb b.f (Both (RowG tPN 1 pv b.path.length (pathV bl b.path)) R))
/-- Equal up to n: the nodes' blocks. -/
theorem egc_congr {bl bl' : Nat → Nat} {n : Nat} (h : ∀ i, i < n → bl' i = bl i) : ∀ {es : List (UInt8 × Nat)}, (∀ e ∈ es, e.2 < n) → es.flatMap (egc bl') = es.flatMap (egc bl)
  | [], _ => rfl
  | e :: es, he => by
    simp only [List.flatMap_cons]
    rw [egc_congr h fun e he' => he e (by simp [he']), egc, egc, h e.2 (he e (by simp))]
theorem pathV_congr {bl bl' : Nat → Nat} {n : Nat} (h : ∀ i, i < n → bl' i = bl i) {path : List Nat} (hp : ∀ p ∈ path, p < n) : pathV bl' path = pathV bl path :=
  List.map_congr_left fun p hp' => by rw [h p (hp p hp')]
theorem knV_congr {bl bl' : Nat → Nat} {n : Nat} (h : ∀ i, i < n → bl' i = bl i) {M : List (NdKey × Nat)} (hp : ∀ p ∈ M, p.2 < n) : knV bl' M = knV bl M :=
  List.map_congr_left fun p hp' => by rw [h p.2 (hp p hp')]
theorem two_one' (a b : Value) (ha : a.oneCell' = true) (hb : b.oneCell' = true) : ∀ u ∈ (#[a, b] : Array Value).toList, u.oneCell' = true := by
  intro u hu
  simp at hu
  rcases hu with rfl | rfl
  · exact ha
  · exact hb

/-- 'append(s, x, ..)' behind a draw. -/
theorem wpList_append_to_drew {P : Program} {W w : World} {R : Thing} {ops : Array Oper} {rest : List Oper} {o : Oper} {a : Act} {Q : Exit → Act → World → Prop} (hgd : o.guard = none)
    (s x : Operand) (t e : TypeId) (ho : o.op = .call { callee := .builtin .append, args := #[s, x], argTypes := #[t, t] }) (ht : P.underlying t = some (.slice e))
    {z : Value} {size bytes : Nat} (hinfo : (P.info? e).map (fun i => (i.zero, i.size, i.bytes)) = some (some z, size, bytes)) (hzs : z.cells.size = size) (hsz : 0 < size)
    {v : Value} {n : Nat} {xs : List Value} (hs : a.eval s = v) (hat : At W w (Both (RowG e size v n xs) R)) (hR : Stable R)
    {C : Array Value} {g m c : Nat} (hx : a.eval x = .slice (some ⟨g, 0, none⟩) m c) (hg : g = w.heap.size) (hC : C.size = m * size) (h1 : ∀ u ∈ C.toList, u.oneCell' = true)
    (h63 : n + m ≤ maxLen) (hbytes : (n + m) * bytes ≤ 140737488355328)
    (h : ∀ ao cap w', At W w' (Both (RowG e size (.slice ao (n + m) cap) (n + m) (xs ++ C.toList)) R) → Upd (rowOf v) w.drew w' → wpList P ops Q rest (a.put o.dst (.slice ao (n + m) cap)) w') : wpList P ops Q (o :: rest) a (w.alloc (.cells C e)).drew :=
  wpList_append_to (w := w.drew) hgd s x t e ho ht hinfo hzs hsz hs (hat.drew ((RowG.stable _ _ _ _ _).both hR)) hR hx hg hC h1 h63 hbytes h
theorem At.cellNe {W w : World} {R : Thing} {k k2 : Nat} {cs cs2 : Array Value} {T T2 : TypeId} (h : At W w (Both (CellT k cs T) (Both (CellT k2 cs2 T2) R))) : k ≠ k2 := by
  obtain ⟨_, fp, ⟨f, gg, ⟨_, rfl⟩, ⟨f2, g2, ⟨_, rfl⟩, _, _, h7⟩, h3, _⟩, _⟩ := h
  intro e
  subst e
  exact h3 k (by simp) ((h7 k).2 (.inl (by simp)))
theorem one_ptr (b : Nat) : ∀ u ∈ (#[ptrN b] : Array Value).toList, u.oneCell' = true := by
  intro u hu
  simp at hu
  subst hu
  rfl
theorem blT_congr {bl bl2 : Nat → Nat} {ev : Nat → Value} {mb : Nat} {s : Fz} {pv : Value} {path : List Nat} {R : Thing} (h : ∀ i, i < s.N.length → bl2 i = bl i) (hs : FInv s) (hp : ∀ p ∈ path, p < s.N.length) :
    FzT bl ev mb s (Both (RowG tPN 1 pv path.length (pathV bl path)) R) = FzT bl2 ev mb s (Both (RowG tPN 1 pv path.length (pathV bl2 path)) R) := by
  unfold FzT NodesT
  rw [pathV_congr h hp, knV_congr h hs.kn, AllT.congr (g := fun i => NodeT bl2 (bl2 i) (ev i) (nodeAt s.N i)) fun i hi => by
    unfold NodeT
    rw [h i hi, egc_congr h (hs.tgt i hi)]]
theorem At.growT {W w : World} {R : Thing} {bl : Nat → Nat} {ev : Nat → Value} {N : List Nd} {up : Nat} {c : UInt8} {sl : Value} (hu : up < N.length)
    (h : At W w (Both (CellT (bl up) #[.bool (nodeAt N up).final, sl, .int .i64 (nodeAt N up).id] tNd) (Both (RowG tEg 2 sl ((nodeAt N up).edges.length + 1) ((nodeAt N up).edges.flatMap (egc bl) ++ [bv c, ptrN (bl N.length)])) (Both (HoleT bl ev N up) (Both (CellT (bl N.length) #[.bool false, .slice none 0 0, .int .i64 0] tNd) R))))) (hR : Stable R) :
    At W w (Both (NodesT bl (updF (updF ev up sl) N.length (.slice none 0 0)) (growN N up c)) R) := by
  have e1 : (nodeAt N up).edges.flatMap (egc bl) ++ [bv c, ptrN (bl N.length)] = ((nodeAt N up).edges ++ [(c, N.length)]).flatMap (egc bl) := by simp
  have e2 : (nodeAt N up).edges.length + 1 = ((nodeAt N up).edges ++ [(c, N.length)]).length := by simp
  rw [e1, e2] at h
  have h2 := h.nodeBack (nd := { nodeAt N up with edges := (nodeAt N up).edges ++ [(c, N.length)] }) hu
  have h3 := (h2.swap.noRowG ((CellT.stable _ _ _).both ((NodesT.stable _ _ _).both hR)) tEg 2).swap
  have h4 : At W w (Both (Both (CellT (bl N.length) #[.bool false, .slice none 0 0, .int .i64 0] tNd) (RowG tEg 2 (.slice none 0 0) 0 [])) (Both (NodesT bl (updF ev up sl) (N.set up { nodeAt N up with edges := (nodeAt N up).edges ++ [(c, N.length)] })) R)) := h3.impl fun _ q => q.assoc'
  have h5 := h4.pushT
  have hl : (N.set up { nodeAt N up with edges := (nodeAt N up).edges ++ [(c, N.length)] }).length = N.length := by simp
  rw [hl] at h5
  show At W w (Both (AllT _ (growN N up c).length) R)
  rw [growN_len]
  refine h5.congrT fun i hi => ?_
  by_cases he : i = N.length
  · subst he
    rw [putT_same, updF_same, nodeAt_growN_new]
    rfl
  · rw [putT_other he, updF_other he, nodeAt_growN_old (by omega)]

set_option maxRecDepth 100000 in
set_option maxHeartbeats 1600000 in
theorem add_at {W : World} (kb mb : Nat) (bl : Nat → Nat) (ev : Nat → Value) (most : Int) (hmost : 1099511627776 ≤ most) (any : Bool) (pv : Value) (cnt : Int) (lb wb : ByteArray) {b : Bd} (hb : b.last = lb.data.toList) (hI : BInv b) (hw : wb.size ≤ 255) (hl : lb.size ≤ 255)
    (hris : any = true → Op.bytesLess wb.toList lb.toList = false ∧ (wb.toList == lb.toList) = false) (hN : b.f.N.length ≤ 549755813888) (hK : b.f.known.length ≤ 549755813888)
    (w : World) (R : Thing) (h : At W w (BdT kb mb bl ev most any pv 0 cnt lb b R)) (hR : Stable R) :
    Calls Try.prog 63 #[ptrN kb, .string wb] w fun e w' => e = .returned (.int .i64 0) ∧ ∃ bl' ev' pv', At W w' (BdT kb mb bl' ev' most true pv' 0 cnt wb (addP b wb.data.toList) R) := by
  obtain ⟨c0, _, hkl⟩ := h.cellF (o := 0) (u := .int .i64 most) rfl
  obtain ⟨c1, _, _⟩ := h.cellF (o := 1) (u := .string lb) rfl
  obtain ⟨c2, _, _⟩ := h.cellF (o := 2) (u := .bool any) rfl
  have hst : Stable (BdT kb mb bl ev most any pv 0 cnt lb b R) := (CellT.stable _ _ _).both (FzT.stable ((RowG.stable _ _ _ _ _).both hR))
  have hcl := commonL_le wb.data.toList lb.data.toList
  have hbl : b.last.length = lb.size := by rw [hb]; simp
  have hnl : commonL wb.data.toList lb.data.toList ≤ wb.size ∧ commonL wb.data.toList lb.data.toList ≤ lb.size := by simpa using hcl
  have HC := Lib.hid (Common_calls wb lb w (by omega) (by omega))
  have hpl := hI.len
  generalize hcn : commonL wb.data.toList lb.data.toList = n at *
  have HCN := Lib.hid hcn
  have HCUT := Lib.hid (fun w1 (h1 : At W w1 (BdT kb mb bl ev most any pv 0 cnt lb b R)) => cut_at kb mb bl ev most lb any pv 0 cnt (path := b.path) (n := n) (by omega) hI.f (getD_lt hI.pin hI.pos) hI.pe (by omega) (by omega) w1 R h1 hR)
  have HG := Lib.hid (cut_g hI n (by omega))
  have HST := Lib.hid hst
  have H := Lib.hid h
  have HR := Lib.hid hR
  have HIV := Lib.hid hI
  have HRIS := Lib.hid hris
  have HB := Lib.hid hb
  have HBL := Lib.hid hbl
  have hp1 : b.path.length - 1 - n = b.last.length - n := by omega
  have HP1 := Lib.hid hp1
  have hws : ¬ (255 : Int) < (wb.size : Int) := by omega
  clear h hst hR hI hris hb hcn hcl hp1 hbl
  go_enter Try.func63, Try.ntmps63
  go_upto_region 3 with (fail)
  go_cut [23] (fun v wx => v = .bool false ∧ wx = w)
  case first =>
    refine wp_norm ?_
    rename_i J K' hJ hK
    have HJ := Lib.hid hJ
    have HK := Lib.hid hK
    clear hJ hK
    cases any with
    | false =>
      (repeat' (first | (go_big_may; fail) | go_values | go_skip | go_guarded | go_step | go_upon | go_back | dsimp only))
      refine HK.out _ _ ?_
      have hJ := HJ.out
      go_meet
      case rel => exact ⟨rfl, rfl⟩
    | true =>
      obtain ⟨r1, r2⟩ := HRIS.out rfl
      (repeat' (first | (go_big_may; fail) | go_values | go_skip | go_guarded | go_step | go_upon | go_back | dsimp only))
      refine HK.out _ _ ?_
      have hJ := HJ.out
      go_meet
      case rel => exact ⟨rfl, rfl⟩
  case rest =>
    obtain ⟨rfl, rfl⟩ := hcut
    (repeat' (first | (go_big_may; fail) | go_values | go_skip | go_guarded | go_step | go_upon | go_back | dsimp only))
    refine HC.out.mono ?_
    rintro e5 w5 ⟨rfl, hb5⟩
    have h5 := H.out.mono HST.out hb5
    have HC2 := Lib.hid (HCUT.out w5 h5)
    clear h5
    (repeat' (first | (go_big_may; fail) | go_values | go_skip | go_guarded | go_step | go_upon | go_back | dsimp only))
    refine HC2.out.mono ?_
    rintro e6 w6 ⟨rfl, pv6, h6⟩
    have H6 := Lib.hid h6
    clear h6 c0 c1 c2
    (repeat' (first | (go_big_may; fail) | go_values | go_skip | go_guarded | go_step | go_upon | go_back | dsimp only))
    have hg0 := HG.out
    have hsz2 : (wb.data.toList.drop n).length = wb.size - n := by simp
    have HSZ := Lib.hid hsz2
    have HFB := Lib.hid (growL_inv (wb.data.toList.drop n) _ _ hg0.1)
    go_loopw [6] (fun vi wr => ∃ (i : Nat) (bl' : Nat → Nat) (ev' : Nat → Value) (N' : List Nd) (path' : List Nat) (pv' : Value), vi = .int .i64 i ∧ i ≤ wb.size ∧ n ≤ i ∧ path'.length = i + 1 ∧ N'.length = b.f.N.length + (i - n) ∧
      growL (wb.data.toList.drop i) (N', path') = growL (wb.data.toList.drop n) ((cutL b.path n (b.last.length - n) b.f).N, b.path.take (n + 1)) ∧ GInv (cutL b.path n (b.last.length - n) b.f).known N' path' ∧
      At W wr (Both (CellT kb (bdC most lb any pv' mb 0 cnt) tBd) (FzT bl' ev' mb ⟨N', (cutL b.path n (b.last.length - n) b.f).known⟩ (Both (RowG tPN 1 pv' path'.length (pathV bl' path')) R)))) (fun vi _ => wb.size - (intOf vi).toNat)
    case atStart =>
      have h7 := H6.out
      rw [HP1.out] at h7
      have hlt : (b.path.take (n + 1)).length = n + 1 := by rw [List.length_take]; have := HBL.out; omega
      refine ⟨n, bl, ev, _, _, pv6, rfl, hnl.1, Nat.le_refl _, hlt, by rw [HG.out.2.1]; omega, rfl, HG.out.1, ?_⟩
      rw [hlt]
      exact h7
    case round =>
      obtain ⟨i, bl', ev', N', path', pv', rfl, hi, hni, hpl', hNl, hgr, hgi, h7⟩ := hrel
      have HGR := Lib.hid hgr
      have HGI := Lib.hid hgi
      clear hgr hg0
      by_cases hlt : i < wb.size
      · obtain ⟨c, hc⟩ : ∃ c, wb.data.toList[i]? = some c := ⟨_, List.getElem?_eq_getElem (by simpa using hlt)⟩
        have hcw : wb[i] = c := by
          have : wb.data.toList[i]? = some wb[i] := by rw [List.getElem?_eq_getElem (by simpa using hlt)]; rfl
          rw [hc] at this
          exact (Option.some.inj this).symm
        have hdr : wb.data.toList.drop i = c :: wb.data.toList.drop (i + 1) := by
          obtain ⟨h1, h2⟩ := List.getElem?_eq_some_iff.1 hc
          rw [List.drop_eq_getElem_cons h1, h2]
        have hup := HGI.out.last
        have hpi : path'.getD i 0 = path'.getLastD 0 := by rw [getLastD_getD HGI.out.ne, hpl', Nat.add_sub_cancel]
        generalize hupn : path'.getLastD 0 = up at hup hpi
        obtain ⟨gp, pcap, hpv, _, hpc, hpcm⟩ := own_cut h7.drop.drop.drop.rowG (by omega)
        rw [hpl'] at hpv hpc
        subst hpv
        have hbb : ∀ j, j < N'.length → (updF bl' N'.length wr.heap.size) j = bl' j := fun j hj => updF_other (by omega)
        rw [blT_congr (bl2 := updF bl' N'.length wr.heap.size) hbb HGI.out.f HGI.out.pin] at h7
        have hbN : (updF bl' N'.length wr.heap.size) N'.length = wr.heap.size := updF_same
        generalize updF bl' N'.length wr.heap.size = bl2 at h7 hbN
        have hst7 : Stable (Both (CellT kb (bdC most lb any (.slice (some ⟨gp, 0, none⟩) (i + 1) pcap) mb 0 cnt) tBd) (FzT bl2 ev' mb ⟨N', (cutL b.path n (b.last.length - n) b.f).known⟩ (Both (RowG tPN 1 (.slice (some ⟨gp, 0, none⟩) (i + 1) pcap) path'.length (pathV bl2 path')) R))) := (CellT.stable _ _ _).both (FzT.stable ((RowG.stable _ _ _ _ _).both HR.out))
        obtain ⟨d3, _, _⟩ := h7.cellF (o := 3) (u := .slice (some ⟨gp, 0, none⟩) (i + 1) pcap) rfl
        have d4 := h7.drop.drop.drop
        rw [hpl'] at d4
        have d5 := (d4.rowCell (u := ptrN (bl2 up)) (by rw [← hpi]; exact pathV_get (by omega))).1
        have dlt := (d4.rowCell (u := ptrN (bl2 up)) (by rw [← hpi]; exact pathV_get (by omega))).2.2
        have d6 := h7.pull3.node (i := up) hup
        obtain ⟨d7, _, ulth⟩ := d6.cellF (o := 1) (u := ev' up) rfl
        have hcu := HGI.out.f.cnt up hup
        dsimp only at hcu
        have h8 := (h7.newCell hst7 #[.bool false, .slice none 0 0, .int .i64 0] tNd)
        rw [← hbN] at h8
        have hst8 : Stable (Both (CellT (bl2 N'.length) #[.bool false, .slice none 0 0, .int .i64 0] tNd) (Both (CellT kb (bdC most lb any (.slice (some ⟨gp, 0, none⟩) (i + 1) pcap) mb 0 cnt) tBd) (FzT bl2 ev' mb ⟨N', (cutL b.path n (b.last.length - n) b.f).known⟩ (Both (RowG tPN 1 (.slice (some ⟨gp, 0, none⟩) (i + 1) pcap) path'.length (pathV bl2 path')) R)))) := (CellT.stable _ _ _).both hst7
        have h9 : At W (wr.alloc (.cells #[.bool false, .slice none 0 0, .int .i64 0] tNd)) (Both (RowG tEg 2 (ev' up) (nodeAt N' up).edges.length ((nodeAt N' up).edges.flatMap (egc bl2))) (Both (CellT (bl2 up) #[.bool (nodeAt N' up).final, ev' up, .int .i64 (nodeAt N' up).id] tNd) (Both (HoleT bl2 ev' N' up) (Both (CellT (bl2 N'.length) #[.bool false, .slice none 0 0, .int .i64 0] tNd) (Both (CellT kb (bdC most lb any (.slice (some ⟨gp, 0, none⟩) (i + 1) pcap) mb 0 cnt) tBd) (Both (MapT Try.prog tKy mb (knV bl2 (cutL b.path n (b.last.length - n) b.f).known)) (Both (RowG tPN 1 (.slice (some ⟨gp, 0, none⟩) (i + 1) pcap) path'.length (pathV bl2 path')) R))))))) := (h8.pull4.node (i := up) hup).swap
        have hstE := (CellT.stable (bl2 up) #[.bool (nodeAt N' up).final, ev' up, .int .i64 (nodeAt N' up).id] tNd).both ((HoleT.stable bl2 ev' N' up).both ((CellT.stable (bl2 N'.length) #[.bool false, .slice none 0 0, .int .i64 0] tNd).both ((CellT.stable kb (bdC most lb any (.slice (some ⟨gp, 0, none⟩) (i + 1) pcap) mb 0 cnt) tBd).both ((MapT.stable Try.prog tKy mb (knV bl2 (cutL b.path n (b.last.length - n) b.f).known)).both ((RowG.stable tPN 1 (.slice (some ⟨gp, 0, none⟩) (i + 1) pcap) path'.length (pathV bl2 path')).both HR.out)))))
        obtain ⟨ea, ec, hes, _, _⟩ := own_shape d6.drop.rowG
        rw [hes] at d7 h9 hstE
        have H9 := Lib.hid h9
        have HSTE := Lib.hid hstE
        have HD := Lib.hid (And.intro hdr (And.intro hupn (And.intro hbN (And.intro hpl' hup))))
        clear h7 h8 h9 hst7 hst8 hstE d4 d6 hdr hupn hpi hc hes hpl' hup
        have hi0 : (0 : Int) ≤ (i : Int) := by omega
        have hi1 : (i : Int) < (i : Int) + 1 := by omega
        have hi2 : (i : Int) < (wb.size : Int) := by omega
        have hmk : ∀ (w2 : World) (a2 : Option Addr) (c2 : Nat), At W w2 (Both (RowG tEg 2 (.slice a2 ((nodeAt N' up).edges.length + 1) c2) ((nodeAt N' up).edges.length + 1) ((nodeAt N' up).edges.flatMap (egc bl2) ++ (#[bv c, ptrN wr.heap.size] : Array Value).toList)) (Both (CellT (bl2 up) #[.bool (nodeAt N' up).final, .slice ea (nodeAt N' up).edges.length ec, .int .i64 (nodeAt N' up).id] tNd) (Both (HoleT bl2 ev' N' up) (Both (CellT (bl2 N'.length) #[.bool false, .slice none 0 0, .int .i64 0] tNd) (Both (CellT kb (bdC most lb any (.slice (some ⟨gp, 0, none⟩) (i + 1) pcap) mb 0 cnt) tBd) (Both (MapT Try.prog tKy mb (knV bl2 (cutL b.path n (b.last.length - n) b.f).known)) (Both (RowG tPN 1 (.slice (some ⟨gp, 0, none⟩) (i + 1) pcap) path'.length (pathV bl2 path')) R))))))) →
            At W (w2.setCell ⟨bl2 up, 1, none⟩ (.slice a2 ((nodeAt N' up).edges.length + 1) c2)) (Both (RowG tPN 1 (.slice (some ⟨gp, 0, none⟩) (i + 1) pcap) path'.length (pathV bl2 path')) (Both (NodesT bl2 (updF (updF ev' up (.slice a2 ((nodeAt N' up).edges.length + 1) c2)) N'.length (.slice none 0 0)) (growN N' up c)) (Both (CellT kb (bdC most lb any (.slice (some ⟨gp, 0, none⟩) (i + 1) pcap) mb 0 cnt) tBd) (Both (MapT Try.prog tKy mb (knV bl2 (cutL b.path n (b.last.length - n) b.f).known)) R)))) := by
          intro w2 a2 c2 h10
          have hstR := (HoleT.stable bl2 ev' N' up).both ((CellT.stable (bl2 N'.length) #[.bool false, .slice none 0 0, .int .i64 0] tNd).both ((CellT.stable kb (bdC most lb any (.slice (some ⟨gp, 0, none⟩) (i + 1) pcap) mb 0 cnt) tBd).both ((MapT.stable Try.prog tKy mb (knV bl2 (cutL b.path n (b.last.length - n) b.f).known)).both ((RowG.stable tPN 1 (.slice (some ⟨gp, 0, none⟩) (i + 1) pcap) path'.length (pathV bl2 path')).both HR.out))))
          have h11 := h10.swap.setCell ((RowG.stable _ _ _ _ _).both hstR) 1 (.slice a2 ((nodeAt N' up).edges.length + 1) c2)
          rw [← HD.out.2.2.1] at h11
          exact (At.growT HD.out.2.2.2.2 h11 ((CellT.stable _ _ _).both ((MapT.stable _ _ _ _).both ((RowG.stable _ _ _ _ _).both HR.out)))).pull4
        have HMK := Lib.hid hmk
        have HSTP := Lib.hid (fun (ev2 : Nat → Value) (N2 : List Nd) => (NodesT.stable bl2 ev2 N2).both ((CellT.stable kb (bdC most lb any (.slice (some ⟨gp, 0, none⟩) (i + 1) pcap) mb 0 cnt) tBd).both ((MapT.stable Try.prog tKy mb (knV bl2 (cutL b.path n (b.last.length - n) b.f).known)).both HR.out)))
        have hpl3 : path'.length = i + 1 := HD.out.2.2.2.1
        clear hmk
        have hst9 := (RowG.stable tEg 2 (.slice ea (nodeAt N' up).edges.length ec) (nodeAt N' up).edges.length ((nodeAt N' up).edges.flatMap (egc bl2))).both HSTE.out
        obtain ⟨v2, w2, hrun, h10, _, _⟩ := append_at_run (P := Try.prog) 134 134 tEg Try.underlying134 info_Eg rfl (by decide) (H9.out.drew hst9) HSTE.out (C := #[bv c, ptrN wr.heap.size]) (m := 1) (c := 1) rfl (two_one' _ _ rfl rfl) (by unfold maxLen; omega) (by omega)
        obtain ⟨a2, c2, rfl, _, _⟩ := own_shape h10.rowG
        have hsz9 : (wr.alloc (.cells #[.bool false, .slice none 0 0, .int .i64 0] tNd)).drew.heap.size = wr.heap.size + 1 := by simp
        rw [hsz9] at hrun
        clear hsz9
        have H11 := Lib.hid (HMK.out w2 a2 c2 h10)
        obtain ⟨q1, q2, q3⟩ := h10.drop.cellF (o := 1) (u := .slice ea (nodeAt N' up).edges.length ec) rfl
        obtain ⟨q4, q5, q6⟩ := h10.drop.drop.drop.drop.cellF (o := 3) (u := .slice (some ⟨gp, 0, none⟩) (i + 1) pcap) rfl
        clear h10 hst9
        (repeat' (first | (go_big_may; fail) | go_values | go_skip | go_guarded | go_step | go_upon | go_back | dsimp only))
        go_region_law (refine step_append_run rfl _ _ 134 rfl _ _ rfl rfl hrun ?_)
        all_goals
          clear hrun d3 d5 d7
          (repeat' (first | (go_big_may; ((at_builtin; go_must (refine wpList_append_to rfl _ _ 137 tPN rfl Try.underlying137 info_PN rfl (by decide) rfl (H11.out) (HSTP.out _ _) rfl (by first | rfl | simp) rfl (one_ptr _) (by unfold maxLen; omega) (by omega) ?_); intro a3 c3 w3 h12 _); have H12 := Lib.hid h12; obtain ⟨r1, r2, r3⟩ := h12.pull3.cellF (o := 3) (u := .slice (some ⟨gp, 0, none⟩) (i + 1) pcap) rfl; clear h12 q1 q4)) | go_values | go_skip | go_guarded | go_step | go_upon | go_back | dsimp only))
          go_roundw
          case rel =>
            have h13 := ((H12.out.pull3.setCell ((RowG.stable _ _ _ _ _).both ((NodesT.stable _ _ _).both ((MapT.stable _ _ _ _).both HR.out))) 3 (.slice a3 (path'.length + 1) c3)).pull3.pull4).pull3
            refine ⟨i + 1, bl2, updF (updF ev' up (.slice a2 ((nodeAt N' up).edges.length + 1) c2)) N'.length (.slice none 0 0), growN N' up c, path' ++ [N'.length], .slice a3 (path'.length + 1) c3, by simp, by omega, by omega, by rw [List.length_append, hpl3]; rfl, by rw [growN_len]; omega, ?_, ?_, ?_⟩
            · have hg := HGR.out
              rw [HD.out.1, growL_cons, HD.out.2.1] at hg
              exact hg
            · have hg := HGI.out.step c
              rw [HD.out.2.1] at hg
              exact hg
            · have e1 : pathV bl2 (path' ++ [N'.length]) = pathV bl2 path' ++ (#[ptrN wr.heap.size] : Array Value).toList := by
                rw [← HD.out.2.2.1]; simp
              have e9 : path'.length + 1 = i + 1 + 1 := by omega
              rw [List.length_append, List.length_singleton, e1]
              rw [e9] at h13 ⊢
              exact h13
          case measure => simp [intOf] <;> omega
      · obtain rfl : i = wb.size := by omega
        obtain ⟨gp, pcap, hpv, _, hpc, hpcm⟩ := own_cut h7.drop.drop.drop.rowG (by omega)
        rw [hpl'] at hpv hpc
        subst hpv
        obtain ⟨d0, _, _⟩ := h7.cellF (o := 0) (u := .int .i64 most) rfl
        obtain ⟨d1, fr1, klt⟩ := h7.cellF (o := 1) (u := .string lb) rfl
        obtain ⟨d2, fr2, _⟩ := h7.cellF (o := 2) (u := .bool any) rfl
        obtain ⟨d3, _, _⟩ := h7.cellF (o := 3) (u := .slice (some ⟨gp, 0, none⟩) (wb.size + 1) pcap) rfl
        obtain ⟨d4, _, _⟩ := h7.cellF (o := 4) (u := .map (some mb)) rfl
        have e4 := h7.drop.drop.drop
        rw [hpl'] at e4
        have hpN : path'.getD wb.size 0 < N'.length := getD_lt HGI.out.pin (by have := HGI.out.last; omega) _
        have d5 := (e4.rowCell (u := ptrN (bl' (path'.getD wb.size 0))) (pathV_get (by omega))).1
        generalize hpn : path'.getD wb.size 0 = p at d5 hpN
        have h8 := h7.pull3.node (i := p) hpN
        obtain ⟨d6, fr6, plt⟩ := h8.cellF (o := 0) (u := .bool (nodeAt N' p).final) rfl
        have hne1 : ¬ bl' p = kb := fun e => (h8.pull4.cellNe) e.symm
        have hne2 : ¬ kb = bl' p := fun e => hne1 e.symm
        have hstX := (HoleT.stable bl' ev' N' p).both ((CellT.stable kb (bdC most lb any (.slice (some ⟨gp, 0, none⟩) (wb.size + 1) pcap) mb 0 cnt) tBd).both ((MapT.stable Try.prog tKy mb (knV bl' (cutL b.path n (b.last.length - n) b.f).known)).both ((RowG.stable tPN 1 (.slice (some ⟨gp, 0, none⟩) (wb.size + 1) pcap) path'.length (pathV bl' path')).both HR.out)))
        have h9 := ((h8.setCell ((RowG.stable _ _ _ _ _).both hstX) 0 (.bool true)).nodeBack0 (nd := { nodeAt N' p with final := true }) hpN).push3
        have hstY := FzT.stable (bl := bl') (ev := ev') (mb := mb) (s := ⟨N'.set p { nodeAt N' p with final := true }, (cutL b.path n (b.last.length - n) b.f).known⟩) ((RowG.stable tPN 1 (.slice (some ⟨gp, 0, none⟩) (wb.size + 1) pcap) path'.length (pathV bl' path')).both HR.out)
        have h10 := (h9.setCell hstY 1 (.string wb)).setCell hstY 2 (.bool true)
        have h11 := h10.drew ((CellT.stable _ _ _).both hstY)
        have hlen := fun ty => h11.drop.mapLen tKM ty tPN Try.underlying138
        rw [List.length_map] at hlen
        have hkn2 := HG.out.2.2
        have hbl2 := HBL.out
        have hmk : ¬ most < ((cutL b.path n (b.last.length - n) b.f).known.length : Int) := by omega
        have H11 := Lib.hid h11
        have HPN := Lib.hid hpn
        have hi0 : (0 : Int) ≤ (wb.size : Int) := by omega
        have hi1 : (wb.size : Int) < (wb.size : Int) + 1 := by omega
        have HGS := Lib.hid (show (growL (wb.data.toList.drop n) ((cutL b.path n (b.last.length - n) b.f).N, b.path.take (n + 1))) = (N', path') by
          rw [← HGR.out, List.drop_eq_nil_of_le (by simp)]; rfl)
        clear h7 h8 h9 h10 h11 hstX hstY e4 hpn hbl2 hkn2
        (repeat' (first | (go_big_may; fail) | go_values | go_skip | go_guarded | go_step | go_upon | go_back | dsimp only))
        (refine region_still_tail 9 (by kernel_rfl) (by kernel_rfl) ?_; simp only [List.take_succ_cons, List.take_zero, List.drop_succ_cons, List.drop_zero]; (iterate 9 (first | ((with_reducible refine still_plain ?_ rfl ?_ ?_); rotate_left; (next => (go_simp; (try with_reducible rfl))); simp only [Act.put, List.setIfInBounds_toArray, List.set_cons_zero, List.set_cons_succ]) | ((with_reducible refine still_skip ?_ ?_); (next => (go_simp; done)); simp only [Act.put, List.setIfInBounds_toArray, List.set_cons_zero, List.set_cons_succ]) | ((with_reducible refine still_val ?_ ?_ ?_ ?_); rotate_left; (next => (go_simp; done)); (next => (go_simp; (try with_reducible rfl))); simp only [Act.put, List.setIfInBounds_toArray, List.set_cons_zero, List.set_cons_succ]))); (with_reducible refine wpStill_nil ?_))
        (repeat' (first | (go_big_may; fail) | go_values | go_skip | go_guarded | go_step | go_upon | go_back | dsimp only))
        go_ret
        refine ⟨rfl, bl', ev', .slice (some ⟨gp, 0, none⟩) (wb.size + 1) pcap, ?_⟩
        have hx := H11.out
        have e0 : wb.data.toList.length = wb.size := by simp
        have e1 : commonL wb.data.toList b.last = n := by rw [HB.out]; exact HCN.out
        have e2 : path'.getD wb.data.toList.length 0 = p := by rw [e0]; exact HPN.out
        have e : addP b wb.data.toList = ⟨⟨N'.set p { nodeAt N' p with final := true }, (cutL b.path n (b.last.length - n) b.f).known⟩, path', wb.data.toList⟩ := by
          simp only [addP, e1, HGS.out, e2, markL]
        rw [e]
        exact hx
end Go.Proofs.Ythjkfiniafblbaa
