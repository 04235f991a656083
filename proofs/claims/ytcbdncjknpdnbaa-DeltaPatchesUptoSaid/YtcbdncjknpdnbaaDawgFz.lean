/- The builder of automata in memory. · dawg.Builder.freeze walked. -/
import Derived.Test.YtcbdncjknpdnbaaCellT
import Derived.Test.YtcbdncjknpdnbaaMapT
import Derived.Test.YtcbdncjknpdnbaaDawgP
import Derived.Test.YtcbdncjknpdnbaaStructRows
import Derived.Test.YtcbdncjknpdnbaaAutG
import Derived.Test.YtcbdncjknpdnbaaBuilder
import Derived.Test.YtcbdncjknpdnbaaShelf
import Derived.Test.YtcbdncjknpdnbaaStill
import Derived.DeepKeys4
import Derived.Deep.RegionHeld3
import Derived.Deep.QuietTactic
import Derived.BigQuiet
import Derived.BigRegion
import Derived.Lib.Hide
import Derived.Deep.DeepCutAuto
import Derived.Maps.Own
import Derived.Shelf.Strings.BuilderK
namespace Go.Proofs.Ytcbdncjknpdnbaa
section
open Go.RowKit Go.WideMaps
open Go.Maps (Keyed)

abbrev tNd : TypeId := 150
abbrev tEg : TypeId := 179
abbrev tBd : TypeId := 154
abbrev tKy : TypeId := 181
abbrev tPN : TypeId := 147
theorem info_Eg : (Try.prog.info? tEg).map (fun i => (i.zero, i.size, i.bytes)) = some (some (.agg #[.int .u8 0, .pointer none]), 2, 16) := by kernel_rfl
theorem info_PN : (Try.prog.info? tPN).map (fun i => (i.zero, i.size, i.bytes)) = some (some (.pointer none), 1, 8) := by kernel_rfl
theorem laidOut_key : laidOutB Try.prog = true := by kernel_rfl
theorem row_key : (tKy : TypeId) < Try.prog.types.size := of_decide_eq_true (by kernel_rfl)
theorem types_pos : 0 < Try.prog.types.size := of_decide_eq_true (by kernel_rfl)
theorem key_keyed : Keyed Try.prog tKy := Keyed.of_law (deep_law_laid laidOut_key (m := 2) (by omega) row_key (by kernel_rfl) (by rw [Try.underlying181]))

abbrev ptrN (b : Nat) : Value := .pointer (some ⟨b, 0, none⟩)
abbrev egc (bl : Nat → Nat) (e : UInt8 × Nat) : List Value := [bv e.1, ptrN (bl e.2)]
theorem egc_len (bl : Nat → Nat) : ∀ e, (egc bl e).length = 2 := fun _ => rfl
/-- A key as a value. -/
abbrev keyV (k : NdKey) : Value := .agg #[.bool k.1, .string ⟨k.2.toArray⟩]
theorem keyV_inj {a b : NdKey} (h : keyV a = keyV b) : a = b := by
  obtain ⟨a1, a2⟩ := a
  obtain ⟨b1, b2⟩ := b
  simpa [keyV] using h
theorem keyLits_bool1 {P : Program} {t : TypeId} (d : Nat) (hu : P.underlying t = some .bool) (b : Bool) : P.keyLits (d + 1) t [.bool b] = some [.bool b] := by simp [Program.keyLits, hu]
theorem keyLits_str1 {P : Program} {t : TypeId} (d : Nat) (hu : P.underlying t = some .string) (s : ByteArray) (hs : s.size ≤ maxLen) : P.keyLits (d + 1) t [.string s] = some [.string s.data.toList] := by simp [Program.keyLits, hu, hs]
theorem keyOf_key (k : NdKey) (h : k.2.length ≤ maxLen) : ∃ kl, keyOf Try.prog tKy (keyV k) = some kl := by
  have e1 : Try.prog.keyType tKy = true := by kernel_rfl
  have c0 : Try.prog.cellsOf tKy = 2 := by kernel_rfl
  have c1 : Try.prog.cellsOf 4 = 1 := by kernel_rfl
  have c2 : Try.prog.cellsOf 9 = 1 := by kernel_rfl
  have e2 : (keyV k).formed Try.prog tKy = true := by simp [Value.formed, Try.underlying181, c0]
  obtain ⟨d, hd⟩ : ∃ d, Try.prog.types.size = d + 1 := Nat.exists_eq_add_one.2 types_pos
  have e3 : Try.prog.keyLits (Try.prog.types.size + 1) tKy (keyV k).cells.toList = some [.bool k.1, .string k.2] := by
    have k1 := keyLits_bool1 (P := Try.prog) d Try.underlying4 k.1
    have k2 := keyLits_str1 (P := Try.prog) d Try.underlying9 ⟨k.2.toArray⟩ (by simpa [ByteArray.size] using h)
    unfold Program.keyLits
    rw [hd, Try.underlying181]
    simp [c0, c1, c2, k1, k2, Value.cells]
  exact ⟨_, by simp only [keyOf, Try.underlying181, e1, e2, e3]; rfl⟩
/-- A node, its edges in the slice e. -/
abbrev NodeT (bl : Nat → Nat) (b : Nat) (e : Value) (nd : Nd) : Thing := Both (CellT b #[.bool nd.final, e, .int .i64 nd.id] tNd) (RowG tEg 2 e nd.edges.length (nd.edges.flatMap (egc bl)))
theorem NodeT.stable (bl : Nat → Nat) (b : Nat) (e : Value) (nd : Nd) : Stable (NodeT bl b e nd) := (CellT.stable _ _ _).both (RowG.stable _ _ _ _ _)
abbrev NodesT (bl : Nat → Nat) (ev : Nat → Value) (N : List Nd) : Thing := AllT (fun i => NodeT bl (bl i) (ev i) (nodeAt N i)) N.length
theorem NodesT.stable (bl : Nat → Nat) (ev : Nat → Value) (N : List Nd) : Stable (NodesT bl ev N) := AllT.stable fun _ _ => NodeT.stable _ _ _ _
abbrev HoleT (bl : Nat → Nat) (ev : Nat → Value) (N : List Nd) (n : Nat) : Thing := AllT (putT (fun i => NodeT bl (bl i) (ev i) (nodeAt N i)) n Nought) N.length
theorem HoleT.stable (bl : Nat → Nat) (ev : Nat → Value) (N : List Nd) (n : Nat) : Stable (HoleT bl ev N n) := AllT.stable fun i _ => by
  by_cases he : i = n
  · subst he; rw [putT_same]; exact Stable.nought
  · rw [putT_other he]; exact NodeT.stable _ _ _ _
/-- The known ones' entries. -/
abbrev knV (bl : Nat → Nat) (M : List (NdKey × Nat)) : List (Value × Value) := M.map fun p => (keyV p.1, ptrN (bl p.2))
abbrev FzT (bl : Nat → Nat) (ev : Nat → Value) (mb : Nat) (s : Fz) (R : Thing) : Thing := Both (MapT Try.prog tKy mb (knV bl s.known)) (Both (NodesT bl ev s.N) R)
theorem FzT.stable {bl : Nat → Nat} {ev : Nat → Value} {mb : Nat} {s : Fz} {R : Thing} (h : Stable R) : Stable (FzT bl ev mb s R) := (MapT.stable _ _ _ _).both ((NodesT.stable _ _ _).both h)
/-- f, but v at i. -/
def updF {α : Type} (f : Nat → α) (i : Nat) (v : α) : Nat → α := fun j => if j = i then v else f j
theorem updF_same {α : Type} {f : Nat → α} {i : Nat} {v : α} : updF f i v i = v := by simp [updF]
theorem updF_other {α : Type} {f : Nat → α} {i j : Nat} {v : α} (h : j ≠ i) : updF f i v j = f j := by simp [updF, h]
theorem updF_self {α : Type} {f : Nat → α} {i : Nat} : updF f i (f i) = f := by
  funext j
  by_cases h : j = i
  · subst h; rw [updF_same]
  · rw [updF_other h]

section
variable {W w : World} {R : Thing} {bl : Nat → Nat} {ev : Nat → Value} {N : List Nd}
theorem At.node (h : At W w (Both (NodesT bl ev N) R)) {i : Nat} (hi : i < N.length) :
    At W w (Both (CellT (bl i) #[.bool (nodeAt N i).final, ev i, .int .i64 (nodeAt N i).id] tNd) (Both (RowG tEg 2 (ev i) (nodeAt N i).edges.length ((nodeAt N i).edges.flatMap (egc bl))) (Both (HoleT bl ev N i) R))) :=
  (h.takeT hi).impl fun _ q => Both.unassoc q
theorem At.nodeBack {i : Nat} (hi : i < N.length) {nd : Nd} {e : Value} (h : At W w (Both (CellT (bl i) #[.bool nd.final, e, .int .i64 nd.id] tNd) (Both (RowG tEg 2 e nd.edges.length (nd.edges.flatMap (egc bl))) (Both (HoleT bl ev N i) R)))) :
    At W w (Both (NodesT bl (updF ev i e) (N.set i nd)) R) := by
  have h1 : At W w (Both (NodeT bl (bl i) e nd) (Both (HoleT bl ev N i) R)) := h.impl fun _ q => q.assoc'
  have h2 := h1.giveT hi
  have e : N.length = (N.set i nd).length := by simp
  rw [e] at h2
  refine h2.congrT fun j hj => ?_
  by_cases he : j = i
  · subst he
    rw [putT_same, nodeAt_set_same hi, updF_same]
  · rw [putT_other he, nodeAt_set_other (fun e => he e.symm), updF_other he]
theorem At.nodeBack0 {i : Nat} (hi : i < N.length) {nd : Nd} (h : At W w (Both (CellT (bl i) #[.bool nd.final, ev i, .int .i64 nd.id] tNd) (Both (RowG tEg 2 (ev i) nd.edges.length (nd.edges.flatMap (egc bl))) (Both (HoleT bl ev N i) R)))) :
    At W w (Both (NodesT bl ev (N.set i nd)) R) := by
  have h1 := h.nodeBack hi
  rwa [updF_self] at h1
end
/-- The builder's cells. -/
abbrev bdC (most : Int) (last : ByteArray) (any : Bool) (pv : Value) (mb : Nat) (st cnt : Int) : Array Value := #[.int .i64 most, .string last, .bool any, pv, .map (some mb), .int .i64 st, .int .i64 cnt]
abbrev pathV (bl : Nat → Nat) (path : List Nat) : List Value := path.map fun i => ptrN (bl i)
end

section
open Go.RowKit
open Go.Maps (Keyed)

/-- 'm[k] = v' at a key that is not there. -/
theorem wpList_map_put {P : Program} {W w : World} {R : Thing} {ops : Array Oper} {rest : List Oper} {o : Oper} {a : Act} {Q : Exit → Act → World → Prop} (hg : o.guard = none) (m x v : Operand) (t : TypeId) (hop : o.op = Op.mapUpdate t m x v)
    {k e : TypeId} (K : Keyed P k) (ht : P.underlying t = some (.map k e)) {b : Nat} {M : List (Value × Value)} (hm : a.eval m = .map (some b)) (hat : At W w (Both (MapT P k b M) R)) (hR : Stable R)
    {key val : Value} (hx : a.eval x = key) (hv : a.eval v = val) {kl : Lit} (hkey : keyOf P k key = some kl) (hn : ∀ p ∈ M, p.1 ≠ key)
    (h : ∀ w', At W w' (Both (MapT P k b (M ++ [(key, val)])) R) → wpList P ops Q rest (a.put o.dst undef) w') : wpList P ops Q (o :: rest) a w := by
  refine wpList_plain hg fun K' hK' => ?_
  obtain ⟨w', hrun, r1⟩ := hat.mapPut hR K ht hkey hn
  unfold Oper.wp
  simp only [execOp, hop, hm, hx, hv, Sem.run_bind, Sem.run_pure, Result.andThen]
  rw [hrun]
  exact hK' _ _ (h w' r1)

abbrev tKM : TypeId := 152
theorem zero_PN (w : World) : (zeroValue tPN).run Try.prog w = .ok (.pointer none) w := by kernel_rfl
theorem knV_hit {bl : Nat → Nat} {M : List (NdKey × Nat)} {k : NdKey} {o : Nat} (h : lookK M k = some o) : (keyV k, ptrN (bl o)) ∈ knV bl M := List.mem_map.2 ⟨_, lookK_some h, rfl⟩
theorem knV_miss {bl : Nat → Nat} {M : List (NdKey × Nat)} {k : NdKey} (h : lookK M k = none) : ∀ p ∈ knV bl M, p.1 ≠ keyV k := by
  intro p hp e
  obtain ⟨q, hq, rfl⟩ := List.mem_map.1 hp
  exact lookK_none h q hq (keyV_inj e)
theorem strCells_mk (l : List UInt8) : Lib.strCells ⟨l.toArray⟩ = bvs l := by simp [Lib.strCells, Lib.byteCells]
/-- The bytes of the first j edges' part of a key. -/
def keyPre (N : List Nd) (es : List (UInt8 × Nat)) (j : Nat) : List UInt8 := (es.take j).flatMap fun e => e.1 :: uintL (nodeAt N e.2).id
theorem keyK_eq {N : List Nd} : ∀ {es : List (UInt8 × Nat)}, (∀ e ∈ es, (nodeAt N e.2).id < 18446744073709551616) → (es.flatMap fun e => e.1 :: uintK 10 (nodeAt N e.2).id) = es.flatMap fun e => e.1 :: uintL (nodeAt N e.2).id
  | [], _ => rfl
  | e :: es, h => by rw [List.flatMap_cons, List.flatMap_cons, uintK_64 (h e (by simp)), keyK_eq fun e he => h e (by simp [he])]
theorem keyPre_succ {N : List Nd} {es : List (UInt8 × Nat)} {j : Nat} {e : UInt8 × Nat} (h : es[j]? = some e) : keyPre N es (j + 1) = keyPre N es j ++ [e.1] ++ uintL (nodeAt N e.2).id := by
  unfold keyPre
  rw [List.take_add_one, h]
  simp
theorem keyPre_len {N : List Nd} {es : List (UInt8 × Nat)} (hb : ∀ e ∈ es, (nodeAt N e.2).id < 18446744073709551616) (j : Nat) : (keyPre N es j).length ≤ 11 * (min j es.length) := by
  unfold keyPre
  have h1 : ∀ l : List (UInt8 × Nat), (∀ e ∈ l, (nodeAt N e.2).id < 18446744073709551616) → (l.flatMap fun e => e.1 :: uintL (nodeAt N e.2).id).length ≤ 11 * l.length := fun l => by
    induction l with
    | nil => simp
    | cons x l ih =>
      intro h
      have h2 := ih fun e he => h e (by simp [he])
      have h3 := uintL_length10 (h x (by simp))
      rw [List.flatMap_cons, List.length_append, List.length_cons, List.length_cons]
      omega
  have h2 := h1 (es.take j) fun e he => hb e (List.mem_of_mem_take he)
  rw [List.length_take] at h2
  exact h2

set_option maxRecDepth 100000 in
set_option maxHeartbeats 6400000 in
theorem freeze_at {W : World} (kb mb : Nat) (bl : Nat → Nat) (ev : Nat → Value) (bcs : Array Value) (hbc : bcs[4]? = some (.map (some mb))) {s : Fz} {n : Nat} (hn : n < s.N.length) (hs : FInv s) (hN : s.N.length ≤ 1099511627776) (hK : s.known.length ≤ 1099511627776)
    (w : World) (R : Thing) (h : At W w (Both (CellT kb bcs tBd) (FzT bl ev mb s R))) (hR : Stable R) :
    Calls Try.prog 70 #[ptrN kb, ptrN (bl n)] w fun e w' => e = .returned (ptrN (bl (freezeP s n).2)) ∧ At W w' (Both (CellT kb bcs tBd) (FzT bl ev mb (freezeP s n).1 R)) := by
  have hst : Stable (Both (CellT kb bcs tBd) (FzT bl ev mb s R)) := (CellT.stable _ _ _).both (FzT.stable hR)
  have h1 := h.drop.drop.node hn
  have h1c := h1
  generalize hev : ev n = evn at h1
  obtain ⟨n0, _, nlt⟩ := h1.cellF (o := 0) (u := .bool (nodeAt s.N n).final) rfl
  obtain ⟨n1, _, _⟩ := h1.cellF (o := 1) (u := evn) rfl
  obtain ⟨ao, ecap, rfl, hec, hecm⟩ := own_shape h1.drop.rowG
  have hst1 : Stable (Both (RowG tEg 2 (.slice ao (nodeAt s.N n).edges.length ecap) (nodeAt s.N n).edges.length ((nodeAt s.N n).edges.flatMap (egc bl))) (Both (HoleT bl ev s.N n) R)) := (RowG.stable _ _ _ _ _).both ((HoleT.stable _ _ _ _).both hR)
  have HEV := Lib.hid hev
  have hidb : ∀ e ∈ (nodeAt s.N n).edges, (nodeAt s.N e.2).id < 18446744073709551616 := fun e he => by
    have := hs.ids e.2 (hs.tgt n hn e he)
    omega
  have hcnt := hs.cnt n hn
  have H := Lib.hid h
  have H1 := Lib.hid h1.drop
  have HST := Lib.hid hst
  have HST1 := Lib.hid hst1
  have HS := Lib.hid hs
  have HIDB := Lib.hid hidb
  have HR := Lib.hid hR
  have HBC := Lib.hid hbc
  clear h h1 h1c hev hst hst1 hs hidb hR hbc
  generalize hes : (nodeAt s.N n).edges = es at *
  have HES := Lib.hid hes
  clear hes
  go_enter Try.func70, Try.ntmps70
  (repeat' (first | (go_big_may; fail) | go_values | go_skip | go_guarded | go_step | go_upon | go_back | dsimp only))
  have HB0 := Lib.hid (Lib.fresh_isBuilder tB tU8 w)
  have HB1 := Lib.hid ((Below.refl w.heap.size w).alloc (Nat.le_refl _) (.cells #[.pointer none, .slice none 0 0] tB))
  go_loopw [15] (fun vi wr => ∃ j : Nat, vi = .int .i64 j ∧ j ≤ es.length ∧ Lib.IsBuilder tB tU8 w.heap.size w.heap.size (bvs (keyPre s.N es j)) wr ∧ Below w.heap.size w wr) (fun vi _ => es.length - (intOf vi).toNat)
  case atStart => exact ⟨0, rfl, Nat.zero_le _, HB0.out, HB1.out⟩
  case round =>
    obtain ⟨j, rfl, hj, hI, hB⟩ := hrel
    have HI := Lib.hid hI
    by_cases hlj : j < es.length
    · obtain ⟨e, he⟩ : ∃ e, es[j]? = some e := ⟨_, List.getElem?_eq_getElem hlj⟩
      obtain ⟨ga, gcap, hgs, _, _⟩ := own_cut H1.out.rowG (by omega)
      cases hgs
      have hd : es.getD j default = e := by rw [List.getD_eq_getElem?_getD, he]; rfl
      have hx0 := flatMap_get (egc_len bl) es hlj (j := 0) (by decide)
      have hx1 := flatMap_get (egc_len bl) es hlj (j := 1) (by decide)
      rw [hd] at hx0 hx1
      have h1r := H1.out.mono HST1.out hB
      obtain ⟨e0, _, _⟩ := h1r.rowCell (u := bv e.1) hx0
      obtain ⟨e1, _, _⟩ := h1r.rowCell (u := ptrN (bl e.2)) hx1
      rw [Nat.add_zero] at e0
      have hmem : e ∈ es := List.mem_of_getElem? he
      have htl : e.2 < s.N.length := HS.out.tgt n hn e (by rw [HES.out]; exact hmem)
      have h2r := H.out.drop.drop.node htl
      obtain ⟨z20, _, zlt0⟩ := h2r.cellF (o := 2) rfl
      have z2 := (hB.cell (p := ⟨bl e.2, 2, none⟩) zlt0).trans z20
      have Z20 := Lib.hid z20
      clear z20
      have hid64 := HIDB.out e hmem
      have hwrap : IntKind.u64.wrap ((nodeAt s.N e.2).id : Int) = ((nodeAt s.N e.2).id : Int) := by rw [IntKind.wrap_u64]; omega
      have hpl := Nat.le_trans (keyPre_len HIDB.out j) (Nat.mul_le_mul_left 11 (Nat.min_le_left _ _))
      have hul := uintL_length10 hid64
      have hwsz := hB.size
      have HKP := Lib.hid (keyPre_succ (N := s.N) he)
      have HB := Lib.hid hB
      clear hI hB hx0 hx1 h1r h2r he hmem hd
      have hblt : w.heap.size < wr.heap.size := by
        rcases HI.out with h | h
        · exact h.lt
        · exact h.lt
      have hw1 := (Below.refl wr.heap.size wr).alloc (Nat.le_refl _) (.cells #[bv e.1, ptrN (bl e.2)] tEg)
      have hpz : (wr.alloc (.cells #[bv e.1, ptrN (bl e.2)] tEg)).heap.size = wr.heap.size + 1 := by simp
      have HC1 := Lib.hid (WriteByte_calls w.heap.size w.heap.size _ e.1 (wr.alloc (.cells #[bv e.1, ptrN (bl e.2)] tEg)) (IsBuilder_below HI.out hw1) (by rw [bvs_length]; omega) (by rw [hpz]; omega))
      have HW1 := Lib.hid hw1
      clear hw1
      (repeat' (first | (go_big_may; fail) | go_values | go_skip | go_guarded | go_step | go_upon | go_back | dsimp only))
      refine HC1.out.mono ?_
      rintro e5 w1 ⟨rfl, hi1, hb1, ho1⟩
      have x1 : w1.cell? ⟨wr.heap.size, 1, none⟩ = some (ptrN (bl e.2)) := by
        have hne : wr.heap.size ≠ w.heap.size := by omega
        have h9 := ho1 wr.heap.size tEg #[bv e.1, ptrN (bl e.2)] (0, 0) hne (by decide) (heap_alloc_new _ _)
        simp [World.cell?, h9]
      have hbb := (HB.out.alloc (by omega) (.cells #[bv e.1, ptrN (bl e.2)] tEg)).trans hb1
      have x2 : w1.cell? ⟨bl e.2, 2, none⟩ = some (.int .i64 (nodeAt s.N e.2).id) := (hbb.cell (p := ⟨bl e.2, 2, none⟩) zlt0).trans Z20.out
      have HI1 := Lib.hid hi1
      have HB2 := Lib.hid hbb
      have hsz1 := hbb.size
      clear hi1 hb1 ho1 hbb e0 e1 z2
      (repeat' (first | (go_big_may; fail) | go_values | go_skip | go_guarded | go_step | go_upon | go_back | dsimp only))
      refine (Uint_calls _ hid64 w1).mono ?_
      rintro e6 w2 ⟨rfl, hb2⟩
      have HC3 := Lib.hid (WriteString_calls w.heap.size w.heap.size _ ⟨(uintL (nodeAt s.N e.2).id).toArray⟩ w2 (IsBuilder_below HI1.out hb2) (by rw [List.length_append, bvs_length]; simp [ByteArray.size]; omega) (by have := hb2.size; omega))
      have HB3 := Lib.hid (HB2.out.trans (hb2.mono hsz1))
      have hsz2 := hb2.size
      clear hb2 x1 x2
      (repeat' (first | (go_big_may; fail) | go_values | go_skip | go_guarded | go_step | go_upon | go_back | dsimp only))
      refine HC3.out.mono ?_
      rintro e7 w3 ⟨rfl, hi3, hb3⟩
      have hi4 : Lib.IsBuilder tB tU8 w.heap.size w.heap.size (bvs (keyPre s.N es (j + 1))) w3 := by
        rw [HKP.out, bvs_append, bvs_append, ← strCells_mk (uintL _)]; exact hi3
      have HI4 := Lib.hid hi4
      have HB4 := Lib.hid (HB3.out.trans hb3)
      clear hi3 hi4 hb3
      (repeat' (first | (go_big_may; fail) | go_values | go_skip | go_guarded | go_step | go_upon | go_back | dsimp only))
      go_roundw
      case rel => exact ⟨j + 1, by simp, by omega, HI4.out, HB4.out⟩
      case measure => simp [intOf] <;> omega
    · obtain rfl : j = es.length := by omega
      have hpl := Nat.le_trans (keyPre_len HIDB.out es.length) (Nat.mul_le_mul_left 11 (Nat.min_le_left _ _))
      have hkey : keyNd s.N (nodeAt s.N n) = ((nodeAt s.N n).final, keyPre s.N es es.length) := by
        unfold keyNd keyPre
        rw [HES.out, List.take_length, keyK_eq HIDB.out]
      have HKEY := Lib.hid hkey
      have HBW := Lib.hid hB
      have hwsz := hB.size
      clear hkey hI hB
      (repeat' (first | (go_big_may; fail) | go_values | go_skip | go_guarded | go_step | go_upon | go_back | dsimp only))
      go_cut [8] (fun v wx => ∃ kq, v = .pointer (some ⟨kq, 0, none⟩) ∧ At W wx (Both (CellT kq #[.bool (nodeAt s.N n).final, .string ⟨(keyPre s.N es es.length).toArray⟩] tKy) (Both (CellT kb bcs tBd) (FzT bl ev mb s R))))
      case first =>
        refine wp_norm ?_
        rename_i J K' hJ hK
        have HJ := Lib.hid hJ
        have HK := Lib.hid hK
        clear hJ hK
        have hnew : wr.heap.size ≠ w.heap.size := by
          have hblt : w.heap.size < wr.heap.size := by
            rcases HI.out with h | h
            · exact h.lt
            · exact h.lt
          omega
        have n0d : wr.drew.cell? ⟨bl n, 0, none⟩ = some (.bool (nodeAt s.N n).final) := (HBW.out.cell (p := ⟨bl n, 0, none⟩) nlt).trans n0
        have hBd : Below w.heap.size w wr.drew := HBW.out.drew
        have hId : Lib.IsBuilderF tB tU8 w.heap.size w.heap.size (bvs (keyPre s.N es es.length)) wr.drew := .of (show Lib.IsBuilder tB tU8 w.heap.size w.heap.size (bvs (keyPre s.N es es.length)) wr.drew from HI.out)
        have keepS : ∀ wx, Below w.heap.size w wx → wx.cell? ⟨bl n, 0, none⟩ = some (.bool (nodeAt s.N n).final) ∧ Below w.heap.size w wx := fun wx hb => ⟨(hb.cell (p := ⟨bl n, 0, none⟩) nlt).trans n0, hb⟩
        go_region_held3 (fun wx => wx.cell? ⟨bl n, 0, none⟩ = some (.bool (nodeAt s.N n).final) ∧ Below w.heap.size w wx)
          (first
            | exact ⟨n0d, hBd⟩
            | exact keepS _ (hBd.trans hb5)
            | exact keepS _ ((hBd.alloc hwsz _).trans hb5)
            | exact keepS _ (hBd.alloc hwsz _)
            | exact keepS _ ((hBd.trans hb5).alloc hs5 _)
            | exact keepS _ ((((hBd.trans hb5).alloc hs5 _).setCell hs5 _).setCell hs5 _)
            | exact keepS _ ((((hBd.alloc hwsz _).trans hb5).setCell hwsz _).setCell hwsz _))
          ((go_at_call 65; refine (Any.Builder_String_any_k lays169 extra169 w.heap.size w.heap.size (keyPre s.N es es.length) _ (by first | exact hId | exact hId.alloc _) (by first | exact hwsz | (simp; omega))).mono ?_; rintro e5 w5 ⟨rfl, hi5, hb5, ho5⟩; have hs5 : w.heap.size ≤ w5.heap.size := (Below.size (by first | exact hBd.trans hb5 | exact (hBd.alloc hwsz _).trans hb5)); (try have hk8 := ho5 wr.heap.size _ (heap_alloc_new wr (.cells #[.bool false, .string ⟨#[]⟩] tKy)) (fun e => hnew (Option.some.inj e)) (by intro c fz e; injection e with _ e2 _; exact absurd e2 (by decide))); (try (have k0 : w5.cell? ⟨wr.heap.size, 0, none⟩ = some (.bool false) := by simp [World.cell?, hk8])); (try (have k1 : w5.cell? ⟨wr.heap.size, 1, none⟩ = some (.string ⟨#[]⟩) := by simp [World.cell?, hk8])); (try (have k2 : w5.frozen? ⟨wr.heap.size, 0, none⟩ = false := by simp [World.frozen?, hk8])); (try (have k3 : w5.frozen? ⟨wr.heap.size, 1, none⟩ = false := by simp [World.frozen?, hk8])); (try (have k4 : wr.heap.size < w5.heap.size := lt_of_heap hk8)); (try have HK8 := Lib.hid hk8); (try clear hk8)))
        all_goals (refine HK.out _ _ ?_; have hJ := HJ.out; go_meet)
        · exact ⟨_, rfl, (H.out.mono HST.out (hBd.trans hb5)).newCell HST.out _ _⟩
        · have h5 := H.out.add HST.out ((hBd.alloc hwsz (.cells #[.bool false, .string ⟨#[]⟩] tKy)).trans hb5) (Φ := CellT wr.heap.size #[.bool false, .string ⟨#[]⟩] tKy) (fp := [wr.heap.size]) ⟨HK8.out, rfl⟩ (by simp; exact hwsz)
          exact ⟨_, rfl, (h5.setCell HST.out 0 _).setCell HST.out 1 _⟩
      case rest =>
        obtain ⟨kq, rfl, h3⟩ := hcut
        have hst3 : Stable (Both (CellT kq #[.bool (nodeAt s.N n).final, .string ⟨(keyPre s.N es es.length).toArray⟩] tKy) (Both (CellT kb bcs tBd) (FzT bl ev mb s R))) := (CellT.stable _ _ _).both HST.out
        have h4 := h3.drew hst3
        obtain ⟨y0, _, _⟩ := h3.cellF (o := 0) (u := .bool (nodeAt s.N n).final) rfl
        obtain ⟨y1, _, _⟩ := h3.cellF (o := 1) (u := .string ⟨(keyPre s.N es es.length).toArray⟩) rfl
        obtain ⟨y4, _, _⟩ := h3.drop.cellF HBC.out
        obtain ⟨kl, hkl⟩ := keyOf_key ((nodeAt s.N n).final, keyPre s.N es es.length) (by show (keyPre s.N es es.length).length ≤ maxLen; unfold maxLen; omega)
        have HKL := Lib.hid hkl
        have hmp := h4.drop.drop
        cases hlk : lookK s.known (keyNd s.N (nodeAt s.N n)) with
        | some o =>
          have hlook := hmp.mapHit (t := tKM) (e := tPN) false key_keyed Try.underlying152 hkl (by rw [← HKEY.out]; exact knV_hit hlk)
          have HFZ := Lib.hid (show freezeP s n = (s, o) by unfold freezeP; rw [hlk])
          have H3 := Lib.hid h4.drop
          clear h3 h4 hst3 hmp hkl hlk
          rw [if_neg Bool.false_ne_true] at hlook
          (repeat' (first | (go_big_may; fail) | go_values | go_skip | go_guarded | go_step | go_upon | go_back | dsimp only))
          (refine region_still_tail 5 (by kernel_rfl) (by kernel_rfl) ?_; simp only [List.take_succ_cons, List.take_zero, List.drop_succ_cons, List.drop_zero]; (iterate 5 (first | ((with_reducible refine still_plain ?_ rfl ?_ ?_); rotate_left; (next => (go_simp; (try with_reducible rfl))); simp only [Act.put, List.setIfInBounds_toArray, List.set_cons_zero, List.set_cons_succ]) | ((with_reducible refine still_skip ?_ ?_); (next => (go_simp; done)); simp only [Act.put, List.setIfInBounds_toArray, List.set_cons_zero, List.set_cons_succ]) | ((with_reducible refine still_val ?_ ?_ ?_ ?_); rotate_left; (next => (go_simp; done)); (next => (go_simp; (try with_reducible rfl))); simp only [Act.put, List.setIfInBounds_toArray, List.set_cons_zero, List.set_cons_succ]))); (with_reducible refine wpStill_nil ?_))
          (repeat' (first | (go_big_may; fail) | go_values | go_skip | go_guarded | go_step | go_upon | go_back | dsimp only))
          go_ret
          rw [HFZ.out]
          exact ⟨rfl, H3.out⟩
        | none =>
          have hmiss := knV_miss (bl := bl) hlk
          rw [HKEY.out] at hmiss
          have hlook := hmp.mapMiss (t := tKM) (e := tPN) false key_keyed Try.underlying152 (zero_PN _) hkl hmiss
          have HFZ := Lib.hid (show freezeP s n = (⟨s.N.set n { nodeAt s.N n with id := s.known.length + 1 }, s.known ++ [(keyNd s.N (nodeAt s.N n), n)]⟩, n) by unfold freezeP; rw [hlk])
          rw [if_neg Bool.false_ne_true] at hlook
          have hlen := fun ty => hmp.mapLen tKM ty tPN Try.underlying152
          rw [List.length_map] at hlen
          have h5 := h4.pull4.node hn
          obtain ⟨n2, f2, _⟩ := h5.cellF (o := 2) (u := .int .i64 (nodeAt s.N n).id) rfl
          have hst5 : Stable (Both (HoleT bl ev s.N n) (Both (CellT kq #[.bool (nodeAt s.N n).final, .string ⟨(keyPre s.N es es.length).toArray⟩] tKy) (Both (CellT kb bcs tBd) (Both (MapT Try.prog tKy mb (knV bl s.known)) R)))) :=
            (HoleT.stable _ _ _ _).both ((CellT.stable _ _ _).both ((CellT.stable _ _ _).both ((MapT.stable _ _ _ _).both HR.out)))
          have h6 := ((h5.setCell ((RowG.stable _ _ _ _ _).both hst5) 2 (.int .i64 ((s.known.length + 1 : Nat) : Int))).nodeBack0 (nd := { nodeAt s.N n with id := s.known.length + 1 }) hn).pull4
          have hst6 := (NodesT.stable bl ev (s.N.set n { nodeAt s.N n with id := s.known.length + 1 })).both ((CellT.stable kq #[.bool (nodeAt s.N n).final, .string ⟨(keyPre s.N es es.length).toArray⟩] tKy).both ((CellT.stable kb bcs tBd).both HR.out))
          have h7 := h6.drew ((MapT.stable _ _ _ _).both hst6)
          have H7 := Lib.hid h7
          have HST6 := Lib.hid hst6
          have HM := Lib.hid hmiss
          have HBN := Lib.hid (h7.below)
          clear h3 h4 hst3 hmp hlk hmiss h5 hst5 h6 hst6 h7
          (repeat' (first | (go_big_may; fail) | go_values | go_skip | go_guarded | go_step | go_upon | go_back | dsimp only))
          (refine region_still_tail 5 (by kernel_rfl) (by kernel_rfl) ?_; simp only [List.take_succ_cons, List.take_zero, List.drop_succ_cons, List.drop_zero]; (iterate 5 (first | ((with_reducible refine still_plain ?_ rfl ?_ ?_); rotate_left; (next => (go_simp; (try with_reducible rfl))); simp only [Act.put, List.setIfInBounds_toArray, List.set_cons_zero, List.set_cons_succ]) | ((with_reducible refine still_skip ?_ ?_); (next => (go_simp; done)); simp only [Act.put, List.setIfInBounds_toArray, List.set_cons_zero, List.set_cons_succ]) | ((with_reducible refine still_val ?_ ?_ ?_ ?_); rotate_left; (next => (go_simp; done)); (next => (go_simp; (try with_reducible rfl))); simp only [Act.put, List.setIfInBounds_toArray, List.set_cons_zero, List.set_cons_succ]))); (with_reducible refine wpStill_nil ?_))
          (repeat' (first | (go_big_may; fail) | go_values | go_skip | go_guarded | go_step | go_upon | go_back | dsimp only))
          (refine region_still_tail 6 (by kernel_rfl) (by kernel_rfl) ?_; simp only [List.take_succ_cons, List.take_zero, List.drop_succ_cons, List.drop_zero]; (iterate 6 (first | ((with_reducible refine still_plain ?_ rfl ?_ ?_); rotate_left; (next => (go_simp; (try with_reducible rfl))); simp only [Act.put, List.setIfInBounds_toArray, List.set_cons_zero, List.set_cons_succ]) | ((with_reducible refine still_skip ?_ ?_); (next => (go_simp; done)); simp only [Act.put, List.setIfInBounds_toArray, List.set_cons_zero, List.set_cons_succ]) | ((with_reducible refine still_val ?_ ?_ ?_ ?_); rotate_left; (next => (go_simp; done)); (next => (go_simp; (try with_reducible rfl))); simp only [Act.put, List.setIfInBounds_toArray, List.set_cons_zero, List.set_cons_succ]))); (with_reducible refine wpStill_nil ?_))
          at_mapUpdate
          refine wpList_map_put rfl _ _ _ tKM rfl key_keyed Try.underlying152 rfl H7.out HST6.out rfl rfl HKL.out HM.out ?_
          intro w8 h8
          have H8 := Lib.hid h8
          clear h8
          (repeat' (first | (go_big_may; fail) | go_values | go_skip | go_guarded | go_step | go_upon | go_back | dsimp only))
          go_ret
          rw [HFZ.out]
          refine ⟨rfl, ?_⟩
          have h9 := H8.out.pull3.drop.pull3
          have e9 : knV bl (s.known ++ [(keyNd s.N (nodeAt s.N n), n)]) = knV bl s.known ++ [(keyV ((nodeAt s.N n).final, keyPre s.N es es.length), ptrN (bl n))] := by rw [HKEY.out]; simp
          show At W w8 (Both (CellT kb bcs tBd) (Both (MapT Try.prog tKy mb (knV bl (s.known ++ [(keyNd s.N (nodeAt s.N n), n)]))) (Both (NodesT bl ev (s.N.set n { nodeAt s.N n with id := s.known.length + 1 })) R)))
          rw [e9]
          exact h9
end
end Go.Proofs.Ytcbdncjknpdnbaa
