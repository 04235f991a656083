/- walk.Same walked. -/
import Derived.Test.YtcbdncjknpdnbaaSmP
import Derived.Test.YtcbdncjknpdnbaaMinLay
import Derived.Test.YtcbdncjknpdnbaaWkShape
import Derived.Test.YtcbdncjknpdnbaaDawgBuild
namespace Go.Proofs.Ytcbdncjknpdnbaa
open Go.RowKit Go.WideMaps
open Go.Maps (Keyed)

abbrev tPr : TypeId := 82
abbrev tMP : TypeId := 83
theorem info_Pr : (Try.prog.info? tPr).map (fun i => (i.zero, i.size, i.bytes)) = some (some (.agg #[.int .i64 0, .int .i64 0]), 2, 16) := by kernel_rfl
theorem row_pair : (tPr : TypeId) < Try.prog.types.size := of_decide_eq_true (by kernel_rfl)
theorem pair_keyed : Keyed Try.prog tPr := Keyed.of_law (deep_law_laid laidOut_key (m := 2) (by omega) row_pair (by kernel_rfl) (by rw [Try.underlying82]))
abbrev prV (p : Nat × Nat) : Value := .agg #[.int .i64 (p.1 : Nat), .int .i64 (p.2 : Nat)]
abbrev prc (p : Nat × Nat) : List Value := [.int .i64 (p.1 : Nat), .int .i64 (p.2 : Nat)]
theorem prc_len : ∀ p, (prc p).length = 2 := fun _ => rfl
abbrev mpV (M : List (Nat × Nat)) : List (Value × Value) := M.map fun p => (prV p, .int .i64 1)
theorem keyLits_int1 {P : Program} {t : TypeId} (d : Nat) (hu : P.underlying t = some (.int .i64)) (n : Nat) (h : n ≤ 9223372036854775807) : P.keyLits (d + 1) t [.int .i64 n] = some [.int .i64 n] := by
  simp [Program.keyLits, hu, Lit.wf, IntKind.min, IntKind.max, IntKind.signed, IntKind.bits]
  omega
theorem keyOf_pair (p : Nat × Nat) (h : p.1 ≤ 1048576) (h2 : p.2 ≤ 1048576) : ∃ kl, keyOf Try.prog tPr (prV p) = some kl := by
  have e1 : Try.prog.keyType tPr = true := by kernel_rfl
  have c0 : Try.prog.cellsOf tPr = 2 := by kernel_rfl
  have c1 : Try.prog.cellsOf 3 = 1 := by kernel_rfl
  have e2 : (prV p).formed Try.prog tPr = true := by simp [Value.formed, Try.underlying82, c0]
  obtain ⟨d, hd⟩ : ∃ d, Try.prog.types.size = d + 1 := Nat.exists_eq_add_one.2 types_pos
  have e3 : Try.prog.keyLits (Try.prog.types.size + 1) tPr (prV p).cells.toList = some [.int .i64 p.1, .int .i64 p.2] := by
    have k1 := keyLits_int1 (P := Try.prog) d Try.underlying3 p.1 (by omega)
    have k2 := keyLits_int1 (P := Try.prog) d Try.underlying3 p.2 (by omega)
    unfold Program.keyLits
    rw [hd, Try.underlying82]
    simp [c0, c1, k1, k2, Value.cells]
  exact ⟨_, by simp only [keyOf, Try.underlying82, e1, e2, e3]; rfl⟩
theorem prV_inj {p q : Nat × Nat} (h : prV p = prV q) : p = q := by
  obtain ⟨a, b⟩ := p
  obtain ⟨c, d⟩ := q
  simp [prV] at h
  rw [Int.ofNat_inj.1 h.1, Int.ofNat_inj.1 h.2]
theorem mpV_miss {M : List (Nat × Nat)} {q : Nat × Nat} (h : q ∉ M) : ∀ p ∈ mpV M, p.1 ≠ prV q := by
  intro p hp e
  obtain ⟨r, hr, rfl⟩ := List.mem_map.1 hp
  exact h (prV_inj e ▸ hr)
theorem mpV_hit {M : List (Nat × Nat)} {q : Nat × Nat} (h : q ∈ M) : (prV q, Value.int .i64 1) ∈ mpV M := List.mem_map.2 ⟨q, h, rfl⟩
/-- 'insert' (of a map's literal) at a key that is not there. -/
theorem wpList_map_ins {P : Program} {W w : World} {R : Thing} {ops : Array Oper} {rest : List Oper} {o : Oper} {a : Act} {Q : Exit → Act → World → Prop} (hg : o.guard = none) (m x v : Operand) (t : TypeId) (hop : o.op = Op.insert t m x v)
    {k e : TypeId} (K : Keyed P k) (ht : P.underlying t = some (.map k e)) {b : Nat} {M : List (Value × Value)} (hm : a.eval m = .map (some b)) (hat : At W w (Both (MapT P k b M) R)) (hR : Stable R)
    {key val : Value} (hx : a.eval x = key) (hv : a.eval v = val) {kl : Lit} (hkey : keyOf P k key = some kl) (hn : ∀ p ∈ M, p.1 ≠ key)
    (h : ∀ w', At W w' (Both (MapT P k b (M ++ [(key, val)])) R) → wpList P ops Q rest (a.put o.dst undef) w') : wpList P ops Q (o :: rest) a w := by
  refine wpList_plain hg fun K' hK' => ?_
  obtain ⟨w', hrun, r1⟩ := hat.mapPut hR K ht hkey hn
  unfold Oper.wp
  simp only [execOp, hop, hm, hx, hv, Sem.run_bind, Sem.run_pure, Result.andThen]
  rw [hrun]
  exact hK' _ _ (h w' r1)
/-- How many entries a map has. -/
def mapN (w : World) (b : Nat) : Nat := match w.heap[b]? with
  | some (.map es _) => es.size
  | _ => 0
theorem At.mapN {P : Program} {k : TypeId} {W w : World} {R : Thing} {b : Nat} {M : List (Value × Value)} (h : At W w (Both (MapT P k b M) R)) : mapN w b = M.length := by
  obtain ⟨es, clock, hb, _, _, rfl⟩ := h.map
  simp [Go.Proofs.Ytcbdncjknpdnbaa.mapN, hb]
def lenOf : Value → Nat
  | .slice _ n _ => n
  | _ => 0
/-- A slice's literal. -/
theorem At.newLits {W w : World} {Φ : Thing} (h : At W w Φ) (hs : Stable Φ) (e : TypeId) (size n : Nat) (C : Array Value) (hC : C.size = n * size) (hn : n ≤ maxLen) : At W (w.alloc (.cells C e)) (Both (RowG e size (.slice (some ⟨w.heap.size, 0, none⟩) n n) n C.toList) Φ) :=
  h.newRowG hs ((Below.refl _ _).alloc (Nat.le_refl _) _) ⟨by simpa using hC, .inr ⟨w.heap.size, n, C, rfl, Nat.le_refl _, heap_alloc_new _ _, Nat.le_refl _, hn, hC, by rw [List.take_of_length_le (by simp [hC])]⟩⟩
theorem mk_mp (w : World) : (Instr.makeMap tMP none).run Try.prog w = .ok (.map (some w.heap.size)) (w.alloc (.map #[] 0)) := by kernel_rfl
set_option maxRecDepth 100000 in
set_option maxHeartbeats 6400000 in
theorem Same_calls {w : World} {A B : List Sta} {va vb : Value} (hA : RdAut w va A) (hB : RdAut w vb B) (hl : A.length ≤ 1048576 ∧ edgesN A ≤ 1048576) (hl2 : B.length ≤ 1048576 ∧ edgesN B ≤ 1048576) (hs : shapeB A = true) (hs2 : shapeB B = true) {s t : Trie} (ht : Unf A 0 s) (ht2 : Unf B 0 t) :
    Calls Try.prog 18 #[va, vb] w fun e w' => e = .returned (.tuple #[.bool (decide (s = t)), .int .i64 0]) ∧ Below w.heap.size w w' := by
  have hsh := shaped_of hs
  have hsh2 := shaped_of hs2
  have HS1 := Lib.hid (Shape_calls hA hl)
  rw [shapeV_ok hs] at HS1
  have HS2 := Lib.hid (fun w' (hb : Below w.heap.size w w') => by
    have h := Shape_calls (hB.below hb) hl2
    rw [shapeV_ok hs2] at h
    exact h)
  obtain ⟨a0, c0, hv, _, hc0⟩ := hA.shape
  obtain ⟨b0, c1, hv2, _, hc1⟩ := hB.shape
  have HA := Lib.hid hA
  have HB := Lib.hid hB
  have HSA := Lib.hid hsh
  have HSB := Lib.hid hsh2
  have HT := Lib.hid ht
  have HT2 := Lib.hid ht2
  obtain ⟨r, hr⟩ : ∃ r, r = decide (s = t) := ⟨_, rfl⟩
  rw [← hr]
  have HR := Lib.hid hr
  have hmp := mk_mp
  have hA1 : A.length ≤ 1048576 := by omega
  have hB1 : B.length ≤ 1048576 := by omega
  obtain ⟨kl0, hk0⟩ := keyOf_pair (0, 0) (by decide) (by decide)
  subst hv hv2
  clear hA hB hsh hsh2 ht ht2 hr hs hs2
  go_enter Try.func18, Try.ntmps18
  (repeat' (first | (go_big_may; fail) | go_values | go_skip | go_guarded | go_step | go_upon | go_back | dsimp only))
  refine HS1.out.mono ?_
  rintro e1 w1 ⟨rfl, hb1⟩
  have HB1 := Lib.hid hb1
  clear hb1
  (repeat' (first | (go_big_may; fail) | go_values | go_skip | go_guarded | go_step | go_upon | go_back | dsimp only))
  refine (HS2.out _ HB1.out).mono ?_
  rintro e2 w2 ⟨rfl, hb2⟩
  have HB2 := Lib.hid (HB1.out.trans (hb2.mono HB1.out.size))
  clear hb2
  have h3 := (At.nought HB2.out).newMap Stable.nought Try.prog tPr
  have H3 := Lib.hid h3
  clear h3
  (repeat' (first | (go_big_may; ((with_reducible (show wpList _ _ _ ({ dst := _, op := Op.insert _ _ _ _, type := _, pos := _, after := _, guard := _ } :: _) _ _)); refine wpList_map_ins rfl _ _ _ tMP rfl pair_keyed Try.underlying83 rfl H3.out Stable.nought rfl rfl hk0 (by simp) ?_; intro w4 h4; have H4 := Lib.hid h4; clear h4)) | go_values | go_skip | go_guarded | go_step | go_upon | go_back | dsimp only))
  have h5 := H4.out.newLits ((MapT.stable _ _ _ _).both Stable.nought) tPr 2 1 #[.int .i64 0, .int .i64 0] rfl (by unfold maxLen; omega)
  have H5 := Lib.hid h5
  have HI0 := Lib.hid (SmI.start HT.out HT2.out)
  clear h5 H4 H3
  go_loopw [7] (fun v7 wr => ∃ (M L : List (Nat × Nat)) (m : Nat), SmI A B s t M L ∧ L.length = m ∧ m ≤ M.length ∧ At w wr (Both (RowG tPr 2 v7 m (L.flatMap prc)) (Both (MapT Try.prog tPr w2.heap.size (mpV M)) Nought))) (fun v7 wr => lenOf v7 + A.length * B.length - mapN wr w2.heap.size)
  case atStart => exact ⟨_, _, 1, HI0.out, rfl, Nat.le_refl _, H5.out⟩
  case round =>
    obtain ⟨M, L, m, hsm, hLm, hmM, h6⟩ := hrel
    have hMl := hsm.le
    have hmap0 := h6.drop.mapN
    rw [List.length_map] at hmap0
    obtain ⟨wa, wcp, hu7, _, hwc⟩ := own_shape h6.rowG
    unfold maxLen at hwc
    subst hu7
    cases m with
    | zero =>
      obtain rfl : L = [] := List.eq_nil_of_length_eq_zero hLm
      have hst := hsm.done HT.out HT2.out (unf_nonneg fun i hi => ⟨_, (HSB.out.tr i hi).choose_spec.1⟩)
      have hrt : r = true := by rw [HR.out]; exact decide_eq_true hst
      subst hrt
      have HB6 := Lib.hid h6.below
      clear h6 hsm
      (repeat' (first | (go_big_may; fail) | go_values | go_skip | go_guarded | go_step | go_upon | go_back | dsimp only))
      go_ret2
      exact ⟨rfl, HB6.out⟩
    | succ n =>
      obtain ⟨L0, p, rfl⟩ : ∃ L0 p, L = L0 ++ [p] := ⟨L.dropLast, L.getLast (by intro e; subst e; simp at hLm), (List.dropLast_concat_getLast _).symm⟩
      obtain rfl : n = L0.length := by simpa using hLm.symm
      obtain ⟨g, cap, hg, _, _, _⟩ := own_cut h6.rowG (by omega)
      simp only [Value.slice.injEq] at hg
      obtain ⟨rfl, _, rfl⟩ := hg
      have hpM : p ∈ M := hsm.sub p (by simp)
      obtain ⟨⟨u1, hu1⟩, u2, hu2⟩ := hsm.tr p hpM
      have hp1 := hu1.lt
      have hp2 := hu2.lt
      obtain ⟨x, hx, hux⟩ := hu1
      obtain ⟨y, hy, huy⟩ := hu2
      have hnA : A.length * B.length ≤ 1099511627776 := Nat.le_trans (Nat.mul_le_mul hA1 hB1) (by decide)
      have hgd : (L0 ++ [p]).getD L0.length default = p := by simp
      have hget0 : ((L0 ++ [p]).flatMap prc)[L0.length * 2]? = some (.int .i64 (p.1 : Nat)) := by
        have h9 := flatMap_get prc_len (L0 ++ [p]) (i := L0.length) (j := 0) (by simp) (by decide)
        rw [hgd] at h9
        exact h9
      have hget1 : ((L0 ++ [p]).flatMap prc)[L0.length * 2 + 1]? = some (.int .i64 (p.2 : Nat)) := by
        have h9 := flatMap_get prc_len (L0 ++ [p]) (i := L0.length) (j := 1) (by simp) (by decide)
        rw [hgd] at h9
        exact h9
      obtain ⟨r1, _, _⟩ := h6.rowCell hget0
      obtain ⟨r2, _, _⟩ := h6.rowCell hget1
      have hsm0 := (MapT.stable Try.prog tPr w2.heap.size (mpV M)).both Stable.nought
      have h7 := h6.rowCut (m := L0.length) (by omega)
      have htk : ((L0 ++ [p]).flatMap prc).take (L0.length * 2) = L0.flatMap prc := by
        rw [List.flatMap_append, List.take_append_of_le_length (by rw [flatMap_len prc_len]; omega), List.take_of_length_le (by rw [flatMap_len prc_len]; omega)]
      rw [htk] at h7
      have h8 := h7.newCell ((RowG.stable _ _ _ _ _).both hsm0) (prc p).toArray tPr
      obtain ⟨ub, uo, ucap, vx, hsl, d0, d1, hue⟩ := HA.out.at hx
      cases hsl
      obtain ⟨ub', uo', ucap', vy, hsl, d0', d1', hue'⟩ := HB.out.at hy
      cases hsl
      obtain ⟨xa, xc, rfl, _, _⟩ := hue.shape
      obtain ⟨ya, yc, rfl, _, _⟩ := hue'.shape
      replace d0 := (h8.below.cell (World.block_lt_of_cell? _ _ d0)).trans d0
      replace d1 := (h8.below.cell (World.block_lt_of_cell? _ _ d1)).trans d1
      replace d0' := (h8.below.cell (World.block_lt_of_cell? _ _ d0')).trans d0'
      replace d1' := (h8.below.cell (World.block_lt_of_cell? _ _ d1')).trans d1'
      have hw1 : IntKind.i64.wrap ((L0.length : Int) + 1 - 1) = (L0.length : Int) := by rw [IntKind.wrap_i64]; omega
      have hw2 : IntKind.i64.wrap (((L0.length + 1 : Nat) : Int) - 1) = (L0.length : Int) := by rw [IntKind.wrap_i64]; omega
      have hpI : (p.1 : Int) < (A.length : Int) := by omega
      have hpI2 : (p.2 : Int) < (B.length : Int) := by omega
      have HX := Lib.hid hx
      have HY := Lib.hid hy
      have HUX := Lib.hid hux
      have HUY := Lib.hid huy
      have HE := Lib.hid (show RdEds w (.slice xa x.edges.length xc) x.edges from hue)
      have HE' := Lib.hid (show RdEds w (.slice ya y.edges.length yc) y.edges from hue')
      have hel := edgesN_le hx
      have hel' := edgesN_le hy
      have HAL := Lib.hid (hsm.alike hpM hx hy)
      have HSJ := Lib.hid (hsm.take hx hy)
      have H8 := Lib.hid h8
      have HSM0 := Lib.hid hsm0
      clear h6 h7 h8 hx hy hux huy hue hue' hsm hpM hgd hget0 hget1 hsm0 htk
      have hfalse : ∀ P : Prop, P → (s = t → ¬ P) → r = false := fun P h1 h2 => by rw [HR.out]; exact decide_eq_false fun e => h2 e h1
      have HFA := Lib.hid hfalse
      clear hfalse
      have hs8 := (CellT.stable wr.heap.size (prc p).toArray tPr).both ((RowG.stable tPr 2 (.slice (some ⟨g, 0, none⟩) L0.length wcp) L0.length (L0.flatMap prc)).both HSM0.out)
      have HS8 := Lib.hid hs8
      clear hs8
      have hlt8 : wr.heap.size < (wr.alloc (.cells (prc p).toArray tPr)).heap.size := by simp
      (repeat' (first | (go_big_may; fail) | go_values | go_skip | go_guarded | go_step | go_upon | go_back | dsimp only))
      obtain ⟨w8, hw8⟩ : ∃ w8, w8 = wr.alloc (.cells (prc p).toArray tPr) := ⟨_, rfl⟩
      have k0 : w8.cell? ⟨wr.heap.size, 0, none⟩ = some (.int .i64 (p.1 : Nat)) := by rw [hw8, World.cell?_alloc_at _ _ _ _ rfl]; rfl
      have k1 : w8.cell? ⟨wr.heap.size, 1, none⟩ = some (.int .i64 (p.2 : Nat)) := by rw [hw8, World.cell?_alloc_at _ _ _ _ rfl]; rfl
      rw [← hw8] at H8 d0 d1 d0' d1' hlt8 ⊢
      have bl0 := World.block_lt_of_cell? _ _ d0
      have bl1 := World.block_lt_of_cell? _ _ d0'
      clear hw8
      go_cut [9, 10] (fun v9 v10 wx => ∃ px py, v9 = ptrN px ∧ v10 = ptrN py ∧ At w wx (Both (CellT py #[.bool y.final, .slice ya y.edges.length yc] tAS) (Both (CellT px #[.bool x.final, .slice xa x.edges.length xc] tAS) (Both (CellT wr.heap.size (prc p).toArray tPr) (Both (RowG tPr 2 (.slice (some ⟨g, 0, none⟩) L0.length wcp) L0.length (L0.flatMap prc)) (Both (MapT Try.prog tPr w2.heap.size (mpV M)) Nought))))))
      case first =>
        refine wp_norm ?_
        rename_i J K' hJ hK
        have HJ := Lib.hid hJ
        have HK := Lib.hid hK
        clear hJ hK
        have keepS : ∀ wx, Below w8.heap.size w8 wx → wx.cell? ⟨wr.heap.size, 0, none⟩ = some (.int .i64 (p.1 : Nat)) ∧ wx.cell? ⟨wr.heap.size, 1, none⟩ = some (.int .i64 (p.2 : Nat)) ∧ wx.cell? ⟨ub, uo + p.1 * 2, none⟩ = some (.bool x.final) ∧ wx.cell? ⟨ub, uo + p.1 * 2 + 1, none⟩ = some (.slice xa x.edges.length xc) ∧ wx.cell? ⟨ub', uo' + p.2 * 2, none⟩ = some (.bool y.final) ∧ wx.cell? ⟨ub', uo' + p.2 * 2 + 1, none⟩ = some (.slice ya y.edges.length yc) ∧ Below w8.heap.size w8 wx := fun wx hb =>
          ⟨(hb.cell (p := ⟨wr.heap.size, 0, none⟩) hlt8).trans k0, (hb.cell (p := ⟨wr.heap.size, 1, none⟩) hlt8).trans k1, (hb.cell (p := ⟨ub, uo + p.1 * 2, none⟩) bl0).trans d0, (hb.cell (p := ⟨ub, uo + p.1 * 2 + 1, none⟩) bl0).trans d1, (hb.cell (p := ⟨ub', uo' + p.2 * 2, none⟩) bl1).trans d0', (hb.cell (p := ⟨ub', uo' + p.2 * 2 + 1, none⟩) bl1).trans d1', hb⟩
        have hB0 : Below w8.heap.size w8 w8.drew := below_drw w8
        go_region_held3 (fun wx => wx.cell? ⟨wr.heap.size, 0, none⟩ = some (.int .i64 (p.1 : Nat)) ∧ wx.cell? ⟨wr.heap.size, 1, none⟩ = some (.int .i64 (p.2 : Nat)) ∧ wx.cell? ⟨ub, uo + p.1 * 2, none⟩ = some (.bool x.final) ∧ wx.cell? ⟨ub, uo + p.1 * 2 + 1, none⟩ = some (.slice xa x.edges.length xc) ∧ wx.cell? ⟨ub', uo' + p.2 * 2, none⟩ = some (.bool y.final) ∧ wx.cell? ⟨ub', uo' + p.2 * 2 + 1, none⟩ = some (.slice ya y.edges.length yc) ∧ Below w8.heap.size w8 wx)
          ((refine keepS _ ?_; (repeat' (first | exact (by first | exact hB0 | exact Below.refl _ _) | (with_reducible refine Below.setCell ?_ ?_ _) | (with_reducible refine Below.alloc ?_ ?_ _) | (with_reducible refine Below.drew ?_) | omega | (simp only [World.heap_size_setCell, World.heap_size_alloc, World.heap_size_drew]; omega) | (simp; done) | (simp; omega))))) (fail)
        all_goals (refine HK.out _ _ ?_; have hJ := HJ.out; go_meet)
        · have h1 := ((H8.out.newCell HS8.out #[.bool x.final, .slice xa x.edges.length xc] tAS).newCell ((CellT.stable _ _ _).both HS8.out) #[.bool y.final, .slice ya y.edges.length yc] tAS).drew ((CellT.stable _ _ _).both ((CellT.stable _ _ _).both HS8.out))
          rw [alloc_size] at h1
          exact ⟨_, _, rfl, rfl, h1⟩
        · have h1 := ((H8.out.newCell HS8.out #[.bool y.final, .slice ya y.edges.length yc] tAS).newCell ((CellT.stable _ _ _).both HS8.out) #[.bool x.final, .slice xa x.edges.length xc] tAS).drew ((CellT.stable _ _ _).both ((CellT.stable _ _ _).both HS8.out))
          rw [alloc_size] at h1
          exact ⟨_, _, rfl, rfl, h1.swap⟩
      case rest =>
        obtain ⟨px, py, rfl, rfl, h9⟩ := hcut
        obtain ⟨x0, _, _⟩ := h9.drop.cellF (o := 0) (u := .bool x.final) rfl
        obtain ⟨x1, _, _⟩ := h9.drop.cellF (o := 1) (u := .slice xa x.edges.length xc) rfl
        obtain ⟨y0, _, _⟩ := h9.cellF (o := 0) (u := .bool y.final) rfl
        obtain ⟨y1, _, _⟩ := h9.cellF (o := 1) (u := .slice ya y.edges.length yc) rfl
        have hfalse : ∀ P : Prop, P → (s = t → ¬ P) → r = false := fun P h1 h2 => by rw [HR.out]; exact decide_eq_false fun e => h2 e h1
        have HFA := Lib.hid hfalse
        have H9 := Lib.hid h9
        clear hfalse h9 k0 k1 d0 d1 d0' d1' H8
        by_cases hf : x.final = y.final
        · have hfb : (x.final == y.final) = true := by simp [hf]
          have hfb2 : (x.final != y.final) = false := by simp [hf]
          by_cases hel2 : x.edges.length = y.edges.length
          · have hlb2 : ((x.edges.length : Int) != y.edges.length) = false := by simp [hel2]
            have HFE := Lib.hid hf
            have HEL := Lib.hid hel2
            have h10 : At w wc (Both (RowG tPr 2 (.slice (some ⟨g, 0, none⟩) L0.length wcp) L0.length (L0.flatMap prc)) (Both (MapT Try.prog tPr w2.heap.size (mpV M)) (Both (CellT px #[.bool x.final, .slice xa x.edges.length xc] tAS) (Both (CellT py #[.bool y.final, .slice ya y.edges.length yc] tAS) Nought)))) := by
              have g1 := H9.out.pull3.drop
              have g2 := g1.pull3
              exact (g2.impl fun _ q => Both.mono (fun _ _ q => q.pull3) q).impl fun _ q => Both.mono (fun _ _ q => Both.mono (fun _ _ q => q.assoc) q) q
            have H10 := Lib.hid h10
            clear hf hel2 h10 H9
            (repeat' (first | (go_big_may; fail) | go_values | go_skip | go_guarded | go_step | go_upon | go_back | dsimp only))
            go_loopw [7, 67] (fun v7 vi wx => ∃ (i : Nat) (M' L' : List (Nat × Nat)) (m' : Nat), vi = .int .i64 i ∧ i ≤ x.edges.length ∧ SmJ A B s t M' L' x y i ∧ L'.length = m' ∧ m' + M.length = L0.length + M'.length ∧ At w wx (Both (RowG tPr 2 v7 m' (L'.flatMap prc)) (Both (MapT Try.prog tPr w2.heap.size (mpV M')) (Both (CellT px #[.bool x.final, .slice xa x.edges.length xc] tAS) (Both (CellT py #[.bool y.final, .slice ya y.edges.length yc] tAS) Nought))))) (fun _ vi _ => x.edges.length - (intOf vi).toNat)
            case atStart => exact ⟨0, M, L0, _, rfl, Nat.zero_le _, HSJ.out, rfl, by omega, H10.out⟩
            case round =>
              obtain ⟨i, M', L', m', rfl, hi, hsj, hLm', hcount, h11⟩ := hrel
              obtain ⟨wa2, wc2, hu7, _, hwc2⟩ := own_shape h11.rowG
              subst hu7
              have hMl' := hsj.le
              by_cases hli : i < x.edges.length
              · obtain ⟨e, he⟩ : ∃ e, x.edges[i]? = some e := ⟨_, List.getElem?_eq_getElem hli⟩
                have hli2 : i < y.edges.length := by have := HEL.out; omega
                obtain ⟨d, hd⟩ : ∃ d, y.edges[i]? = some d := ⟨_, List.getElem?_eq_getElem hli2⟩
                obtain ⟨be, oe, ce, hse, e0, e1⟩ := RdEds.at (RdRow.below HE.out h11.below) he
                cases hse
                obtain ⟨be', oe', ce', hse, e0', e1'⟩ := RdEds.at (RdRow.below HE'.out h11.below) hd
                cases hse
                obtain ⟨ct, g0, hct, _⟩ := HUX.out.mem e (List.mem_of_getElem? he)
                obtain ⟨dt, g1, hdt, _⟩ := HUY.out.mem d (List.mem_of_getElem? hd)
                obtain ⟨q1, hq1⟩ := Int.eq_ofNat_of_zero_le g0
                obtain ⟨q2, hq2⟩ := Int.eq_ofNat_of_zero_le g1
                rw [hq1, Int.toNat_natCast] at hct
                rw [hq2, Int.toNat_natCast] at hdt
                rw [hq1] at e1
                rw [hq2] at e1'
                have hl1 := hct.lt
                have hl2' := hdt.lt
                have hiI : (i : Int) < (x.edges.length : Int) := by omega
                have hiI2 : (i : Int) < (y.edges.length : Int) := by omega
                obtain ⟨x1', _, _⟩ := h11.drop.drop.cellF (o := 1) (u := .slice (some ⟨be, oe, none⟩) x.edges.length xc) rfl
                obtain ⟨y1', _, _⟩ := h11.drop.drop.drop.cellF (o := 1) (u := .slice (some ⟨be', oe', none⟩) y.edges.length yc) rfl
                have hsX := (CellT.stable px #[.bool x.final, .slice (some ⟨be, oe, none⟩) x.edges.length xc] tAS).both ((CellT.stable py #[.bool y.final, .slice (some ⟨be', oe', none⟩) y.edges.length yc] tAS).both Stable.nought)
                have HSX := Lib.hid hsX
                by_cases hed : e.1 = d.1
                · have hb1 : ((e.1.toNat : Int) == (d.1.toNat : Int)) = true := by simp [hed]
                  have hb2 : ((e.1.toNat : Int) != (d.1.toNat : Int)) = false := by simp [hed]
                  have hb3 : (e.1.toNat : Int) = (d.1.toNat : Int) := by rw [hed]
                  have hnw : (q1, q2) ∉ M' → SmJ A B s t (M' ++ [(q1, q2)]) (L' ++ [(q1, q2)]) x y i := fun h => hsj.new h ⟨ct, hct⟩ ⟨dt, hdt⟩ fun es => by
                    obtain ⟨c, h1, h2⟩ := ((HAL.out es).2.2 i e d he hd).2
                    rw [hq1, Int.toNat_natCast] at h1
                    rw [hq2, Int.toNat_natCast] at h2
                    exact ⟨c, h1, h2⟩
                  have hstp : ∀ M1 L1, SmJ A B s t M1 L1 x y i → (q1, q2) ∈ M1 → SmJ A B s t M1 L1 x y (i + 1) := fun M1 L1 h hm => h.step he hd hed (by rw [hq1, hq2, Int.toNat_natCast, Int.toNat_natCast]; exact hm)
                  have HNW := Lib.hid hnw
                  have HSTP := Lib.hid hstp
                  have HSJ2 := Lib.hid hsj
                  have H11 := Lib.hid h11
                  obtain ⟨kl, hkl⟩ := keyOf_pair (q1, q2) (by simp only; omega) (by simp only; omega)
                  have HKL := Lib.hid hkl
                  clear h11 hsj hnw hstp hkl he hd hct hdt hq1 hq2 g0 g1 hsX
                  have bx := World.block_lt_of_cell? _ _ x1'
                  have by' := World.block_lt_of_cell? _ _ y1'
                  have bz := World.block_lt_of_cell? _ _ e1
                  have bz' := World.block_lt_of_cell? _ _ e1'
                  (repeat' (first | (go_big_may; fail) | go_values | go_skip | go_guarded | go_step | go_upon | go_back | dsimp only))
                  (refine region_still_tail 12 (by kernel_rfl) (by kernel_rfl) ?_; simp only [List.take_succ_cons, List.take_zero, List.drop_succ_cons, List.drop_zero]; (iterate 12 (first | ((with_reducible refine still_plain ?_ rfl ?_ ?_); rotate_left; (next => (go_simp; (try with_reducible rfl))); simp only [Act.put, List.setIfInBounds_toArray, List.set_cons_zero, List.set_cons_succ]) | ((with_reducible refine still_skip ?_ ?_); (next => (go_simp; done)); simp only [Act.put, List.setIfInBounds_toArray, List.set_cons_zero, List.set_cons_succ]) | ((with_reducible refine still_val ?_ ?_ ?_ ?_); rotate_left; (next => (go_simp; done)); (next => (go_simp; (try with_reducible rfl))); simp only [Act.put, List.setIfInBounds_toArray, List.set_cons_zero, List.set_cons_succ]))); (with_reducible refine wpStill_nil ?_))
                  (repeat' (first | (go_big_may; fail) | go_values | go_skip | go_guarded | go_step | go_upon | go_back | dsimp only))
                  go_cut [12] (fun v12 wx => ∃ pq, v12 = ptrN pq ∧ At w wx (Both (CellT pq (prc (q1, q2)).toArray tPr) (Both (RowG tPr 2 (.slice wa2 m' wc2) m' (L'.flatMap prc)) (Both (MapT Try.prog tPr w2.heap.size (mpV M')) (Both (CellT px #[.bool x.final, .slice (some ⟨be, oe, none⟩) x.edges.length xc] tAS) (Both (CellT py #[.bool y.final, .slice (some ⟨be', oe', none⟩) y.edges.length yc] tAS) Nought))))))
                  case first =>
                    refine wp_norm ?_
                    rename_i J K' hJ hK
                    have HJ := Lib.hid hJ
                    have HK := Lib.hid hK
                    clear hJ hK
                    have keepS : ∀ wx, Below wr.heap.size wr wx → wx.cell? ⟨px, 1, none⟩ = some (.slice (some ⟨be, oe, none⟩) x.edges.length xc) ∧ wx.cell? ⟨py, 1, none⟩ = some (.slice (some ⟨be', oe', none⟩) y.edges.length yc) ∧ wx.cell? ⟨be, oe + i * 2 + 1, none⟩ = some (.int .i64 (q1 : Nat)) ∧ wx.cell? ⟨be', oe' + i * 2 + 1, none⟩ = some (.int .i64 (q2 : Nat)) ∧ Below wr.heap.size wr wx := fun wx hb =>
                      ⟨(hb.cell (p := ⟨px, 1, none⟩) bx).trans x1', (hb.cell (p := ⟨py, 1, none⟩) by').trans y1', (hb.cell (p := ⟨be, oe + i * 2 + 1, none⟩) bz).trans e1, (hb.cell (p := ⟨be', oe' + i * 2 + 1, none⟩) bz').trans e1', hb⟩
                    have hB0 : Below wr.heap.size wr wr.drew := below_drw wr
                    have hB1 : Below wr.heap.size wr wr.drew.drew := hB0.drew
                    go_region_held3 (fun wx => wx.cell? ⟨px, 1, none⟩ = some (.slice (some ⟨be, oe, none⟩) x.edges.length xc) ∧ wx.cell? ⟨py, 1, none⟩ = some (.slice (some ⟨be', oe', none⟩) y.edges.length yc) ∧ wx.cell? ⟨be, oe + i * 2 + 1, none⟩ = some (.int .i64 (q1 : Nat)) ∧ wx.cell? ⟨be', oe' + i * 2 + 1, none⟩ = some (.int .i64 (q2 : Nat)) ∧ Below wr.heap.size wr wx)
                      ((refine keepS _ ?_; (repeat' (first | exact (by first | exact hB1 | exact hB0 | exact Below.refl _ _) | (with_reducible refine Below.setCell ?_ ?_ _) | (with_reducible refine Below.alloc ?_ ?_ _) | (with_reducible refine Below.drew ?_) | omega | (simp only [World.heap_size_setCell, World.heap_size_alloc, World.heap_size_drew]; omega) | (simp; done) | (simp; omega))))) (fail)
                    all_goals (refine HK.out _ _ ?_; have hJ := HJ.out; go_meet)
                    case rel =>
                      have h1 := (H11.out.newCell ((RowG.stable _ _ _ _ _).both ((MapT.stable _ _ _ _).both HSX.out)) (prc (q1, q2)).toArray tPr).drew ((CellT.stable _ _ _).both ((RowG.stable _ _ _ _ _).both ((MapT.stable _ _ _ _).both HSX.out)))
                      have h2 := h1.drew ((CellT.stable _ _ _).both ((RowG.stable _ _ _ _ _).both ((MapT.stable _ _ _ _).both HSX.out)))
                      first
                        | exact ⟨_, rfl, h1⟩
                        | exact ⟨_, rfl, h2⟩
                  case rest =>
                    obtain ⟨pq, rfl, h12⟩ := hcut
                    obtain ⟨z0, _, _⟩ := h12.cellF (o := 0) (u := .int .i64 (q1 : Nat)) rfl
                    obtain ⟨z1, _, _⟩ := h12.cellF (o := 1) (u := .int .i64 (q2 : Nat)) rfl
                    clear x1' y1' e1 e1' e0 e0'
                    by_cases hm : (q1, q2) ∈ M'
                    · have hlook := h12.pull3.mapHit (t := tMP) (e := tInt) false pair_keyed Try.underlying83 HKL.out (mpV_hit hm)
                      rw [if_neg Bool.false_ne_true] at hlook
                      have H12 := Lib.hid h12.drop
                      have HM := Lib.hid hm
                      clear h12 hm
                      (repeat' (first | (go_big_may; fail) | go_values | go_skip | go_guarded | go_step | go_upon | go_back | dsimp only))
                      go_roundw
                      case rel => exact ⟨i + 1, M', L', m', by simp, by omega, HSTP.out _ _ HSJ2.out HM.out, hLm', hcount, H12.out⟩
                      case measure => simp [intOf] <;> omega
                    · have hlook := h12.pull3.mapMiss (t := tMP) (e := tInt) false pair_keyed Try.underlying83 (zero_int _) HKL.out (mpV_miss hm)
                      rw [if_neg Bool.false_ne_true] at hlook
                      have hnew := HNW.out hm
                      have hle2 := hnew.le
                      rw [List.length_append, List.length_singleton] at hle2
                      have HMISS := Lib.hid (mpV_miss hm)
                      have H12 := Lib.hid h12.pull3
                      have HS12 := Lib.hid ((CellT.stable pq (prc (q1, q2)).toArray tPr).both ((RowG.stable tPr 2 (.slice wa2 m' wc2) m' (L'.flatMap prc)).both HSX.out))
                      have HN := Lib.hid (HSTP.out _ _ hnew (by simp))
                      clear h12 hm hnew z0 z1
                      obtain ⟨z0, _, _⟩ := H12.out.drop.cellF (o := 0) (u := .int .i64 (q1 : Nat)) rfl
                      obtain ⟨z1, _, _⟩ := H12.out.drop.cellF (o := 1) (u := .int .i64 (q2 : Nat)) rfl
                      (repeat' (first | (go_big_may; (at_mapUpdate; refine wpList_map_put rfl _ _ _ tMP rfl pair_keyed Try.underlying83 rfl H12.out HS12.out rfl rfl HKL.out HMISS.out ?_; intro w13 h13; have h14 := h13.swap.drop.swap; obtain ⟨z0', _, _⟩ := h13.drop.cellF (o := 0) (u := .int .i64 (q1 : Nat)) rfl; obtain ⟨z1', _, _⟩ := h13.drop.cellF (o := 1) (u := .int .i64 (q2 : Nat)) rfl; have H14 := Lib.hid h14; clear h13 h14; (repeat' (first | (go_big_may; ((at_builtin; go_must (refine wpList_append_to rfl _ _ 84 tPr rfl Try.underlying84 info_Pr rfl (by decide) rfl (H14.out) (((MapT.stable _ _ _ _).both HSX.out)) rfl (by first | rfl | simp) rfl (two_one' _ _ rfl rfl) (by unfold maxLen; omega) (by omega) ?_); intro a15 c15 w15 h15 _); have H15 := Lib.hid h15; clear h15)) | go_values | go_skip | go_guarded | go_step | go_upon | go_back | dsimp only)))) | go_values | go_skip | go_guarded | go_step | go_upon | go_back | dsimp only))
                      go_roundw
                      case rel =>
                        refine ⟨i + 1, M' ++ [(q1, q2)], L' ++ [(q1, q2)], m' + 1, by simp, by omega, HN.out, by simp [hLm'], by simp; omega, ?_⟩
                        have h16 := H15.out
                        rw [show (L' ++ [(q1, q2)]).flatMap prc = L'.flatMap prc ++ (prc (q1, q2)) from by simp, show mpV (M' ++ [(q1, q2)]) = mpV M' ++ [(prV (q1, q2), .int .i64 1)] from by simp [mpV]]
                        exact h16
                      case measure => simp [intOf] <;> omega
                · have hb1 : ((e.1.toNat : Int) == (d.1.toNat : Int)) = false := by simp; exact fun h => hed (UInt8.toNat_inj.1 (Int.ofNat_inj.1 h))
                  have hb2 : ((e.1.toNat : Int) != (d.1.toNat : Int)) = true := by simp; exact fun h => hed (UInt8.toNat_inj.1 (Int.ofNat_inj.1 h))
                  have hb3 : ¬ (e.1.toNat : Int) = (d.1.toNat : Int) := fun h => hed (UInt8.toNat_inj.1 (Int.ofNat_inj.1 h))
                  have hrf := HFA.out _ hed fun es h => h ((HAL.out es).2.2 i e d he hd).1
                  subst hrf
                  have HB11 := Lib.hid h11.below
                  clear h11 hsj
                  (repeat' (first | (go_big_may; fail) | go_values | go_skip | go_guarded | go_step | go_upon | go_back | dsimp only))
                  (refine region_still_tail 12 (by kernel_rfl) (by kernel_rfl) ?_; simp only [List.take_succ_cons, List.take_zero, List.drop_succ_cons, List.drop_zero]; (iterate 12 (first | ((with_reducible refine still_plain ?_ rfl ?_ ?_); rotate_left; (next => (go_simp; (try with_reducible rfl))); simp only [Act.put, List.setIfInBounds_toArray, List.set_cons_zero, List.set_cons_succ]) | ((with_reducible refine still_skip ?_ ?_); (next => (go_simp; done)); simp only [Act.put, List.setIfInBounds_toArray, List.set_cons_zero, List.set_cons_succ]) | ((with_reducible refine still_val ?_ ?_ ?_ ?_); rotate_left; (next => (go_simp; done)); (next => (go_simp; (try with_reducible rfl))); simp only [Act.put, List.setIfInBounds_toArray, List.set_cons_zero, List.set_cons_succ]))); (with_reducible refine wpStill_nil ?_))
                  (repeat' (first | (go_big_may; fail) | go_values | go_skip | go_guarded | go_step | go_upon | go_back | dsimp only))
                  go_ret2
                  exact ⟨rfl, HB11.out.drew⟩
              · obtain rfl : i = x.edges.length := by omega
                have hiI : ¬ (x.edges.length : Int) < (x.edges.length : Int) := by omega
                have HD := Lib.hid (hsj.done HFE.out HEL.out)
                have h12 : At w wr (Both (RowG tPr 2 (.slice wa2 m' wc2) m' (L'.flatMap prc)) (Both (MapT Try.prog tPr w2.heap.size (mpV M')) Nought)) := (h11.pull3.drop.pull3.drop)
                have H12 := Lib.hid h12
                have hmap1 := h12.drop.mapN
                rw [List.length_map] at hmap1
                clear h11 h12 hsj
                (repeat' (first | (go_big_may; fail) | go_values | go_skip | go_guarded | go_step | go_upon | go_back | dsimp only))
                go_roundw
                case rel => exact ⟨M', L', m', HD.out, hLm', by omega, H12.out⟩
                case measure =>
                  simp only [lenOf]
                  omega
          · have hlb2 : ((x.edges.length : Int) != y.edges.length) = true := by simp; omega
            have hrf := HFA.out _ hel2 fun e h => h (HAL.out e).2.1
            subst hrf
            have HB9 := Lib.hid H9.out.below
            clear H9
            (repeat' (first | (go_big_may; fail) | go_values | go_skip | go_guarded | go_step | go_upon | go_back | dsimp only))
            go_ret2
            exact ⟨rfl, HB9.out⟩
        · have hfb : (x.final == y.final) = false := by simp [hf]
          have hfb2 : (x.final != y.final) = true := by simp [hf]
          have hrf := HFA.out _ hf fun e h => h (HAL.out e).1
          subst hrf
          have HB9 := Lib.hid H9.out.below
          clear H9
          (repeat' (first | (go_big_may; fail) | go_values | go_skip | go_guarded | go_step | go_upon | go_back | dsimp only))
          go_ret2
          exact ⟨rfl, HB9.out⟩
end Go.Proofs.Ytcbdncjknpdnbaa
