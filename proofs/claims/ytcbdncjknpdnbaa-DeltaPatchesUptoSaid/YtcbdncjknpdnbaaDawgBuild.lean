/- dawg.number walked: the frozen nodes laid out in the order in which they are met. · dawg.number's visit walked. · dawg.Build walked: the builder from its making to its automaton. -/
import Derived.Test.YtcbdncjknpdnbaaDawgAdd
import Derived.Deep.RegionLaw
namespace Go.Proofs.Ytcbdncjknpdnbaa
section
section
open Go.RowKit
open Go.Maps (Keyed)

theorem numE_len {rec : NumS → Nat → Option (NumS × Nat)} (hr : ∀ s n r, rec s n = some r → s.1.length ≤ r.1.1.length) : ∀ (es : List (UInt8 × Nat)) (s r : NumS × List Ed), numE rec es s = some r → s.1.1.length ≤ r.1.1.length
  | [], s, r, h => by simp only [numE, Option.some.injEq] at h; subst h; exact Nat.le_refl _
  | e :: es, s, r, h => by
    simp only [numE] at h
    cases h1 : rec s.1 e.2 with
    | none => rw [h1] at h; cases h
    | some q =>
      rw [h1] at h
      have h2 := numE_len hr es _ _ h
      exact Nat.le_trans (hr _ _ _ h1) h2
theorem numN_len {N : List Nd} : ∀ (k : Nat) (s : NumS) (n : Nat) (r : NumS × Nat), numN N k s n = some r → s.1.length ≤ r.1.1.length := by
  intro k
  induction k with
  | zero => intro s n r h; cases h
  | succ k ih =>
    intro s n r h
    simp only [numN] at h
    cases h1 : lookN s.2 (nodeAt N n).id with
    | some t => rw [h1] at h; simp only [Option.some.injEq] at h; subst h; exact Nat.le_refl _
    | none =>
      rw [h1] at h
      dsimp only at h
      cases h2 : numE (numN N k) (nodeAt N n).edges ((s.1 ++ [⟨(nodeAt N n).final, []⟩], s.2 ++ [((nodeAt N n).id, s.1.length)]), []) with
      | none => rw [h2] at h; cases h
      | some q =>
        rw [h2] at h
        simp only [Option.some.injEq] at h
        subst h
        have := numE_len ih _ _ _ h2
        simp only [List.length_append, List.length_singleton] at this
        simp only [List.length_set]
        omega

/-- A call through a function value, as one step of a region that draws. -/
theorem step_call_val {P : Program} {ops : Array Oper} {o : Oper} {a : Act} {w : World} {K : Act → World → Prop} {Q : Exit → Act → World → Prop} {E : Prop}
    (hg : o.guard = none) (f : FuncId) (x : Operand) (args : List Operand) (ats : Array TypeId) (hop : o.op = Op.call { callee := Callee.value x, args := args.toArray, argTypes := ats })
    (hent : ∀ xs w, (callFunc f xs).run P w = .ok (.enter f xs) w) (caps : Array Value) (hx : a.eval x = .func (.func f) #[] caps) (xs : List Value) (hxs : args.map a.eval = xs)
    (h : Calls P f (xs.toArray ++ caps) w fun
      | .returned v, w'' => K (a.put o.dst v) w''
      | .panicked chain, w'' => Q (.panic chain) a w''
      | .outgrown, _ => LetsOut Q) : if Region.wanted o (yielded ops a.tmps) = true then Oper.wp P o a w K Q else E := by
  have hw : Region.wanted o (yielded ops a.tmps) = true := by simp [Region.wanted, hg]
  rw [if_pos hw]
  unfold Oper.wp
  subst hxs
  have hrun : (execOp a.eval o).run P w = .ok (.enter f ((args.map a.eval).toArray ++ caps)) w := by
    simp [execOp, hop, resolve, invoke, hx, Deferred.ofValue, hent]
  rw [hrun]
  exact h

abbrev tAS : TypeId := 58
abbrev tAE : TypeId := 63
theorem info_AS : (Try.prog.info? tAS).map (fun i => (i.zero, i.size, i.bytes)) = some (some (.agg #[.bool false, .slice none 0 0]), 2, 32) := by kernel_rfl
theorem info_AE : (Try.prog.info? tAE).map (fun i => (i.zero, i.size, i.bytes)) = some (some (.agg #[.int .u8 0, .int .i64 0]), 2, 16) := by kernel_rfl
abbrev tMI : TypeId := 99
abbrev tInt : TypeId := 3
abbrev tSl : TypeId := 22
abbrev tFn : TypeId := 182
theorem int_key : Keyed Try.prog tInt := Go.Maps.int_keyed Try.underlying3
abbrev plV (pl : List (Nat × Nat)) : List (Value × Value) := pl.map fun p => (.int .i64 p.1, .int .i64 p.2)
theorem plV_hit {M : List (Nat × Nat)} {k o : Nat} (h : lookN M k = some o) : ((Value.int .i64 k, Value.int .i64 o) : Value × Value) ∈ plV M := List.mem_map.2 ⟨_, lookN_some h, rfl⟩
theorem plV_miss {M : List (Nat × Nat)} {k : Nat} (h : lookN M k = none) : ∀ p ∈ plV M, p.1 ≠ Value.int .i64 k := by
  intro p hp e
  obtain ⟨q, hq, rfl⟩ := List.mem_map.1 hp
  apply lookN_none h q hq
  exact Int.ofNat_inj.1 (by simpa using e)
theorem keyOf_nat {n : Nat} (h : n ≤ 9223372036854775807) : keyOf Try.prog tInt (.int .i64 n) = some (.int .i64 n) :=
  Go.Maps.keyOf_int_mk Try.underlying3 (by simp [Lit.wf, IntKind.min, IntKind.max, IntKind.signed, IntKind.bits]; omega)
/-- What the walk keeps: its three variables, the places, the automaton so far, the nodes. -/
abbrev NumT (kp ko kv pb : Nat) (ov : Value) (xs : List (Sta × Value)) (pl : List (Nat × Nat)) (R : Thing) : Thing :=
  Both (CellT kp #[.map (some pb)] tMI) (Both (CellT ko #[ov] tSl) (Both (CellT kv #[.func (.func 90) #[] #[ptrN kp, ptrN ko, ptrN kv]] tFn) (Both (MapT Try.prog tInt pb (plV pl)) (Both (RowG tAS 2 ov xs.length (xs.flatMap stc)) (Both (EdsG tAE xs) R)))))
theorem NumT.stable {kp ko kv pb : Nat} {ov : Value} {xs : List (Sta × Value)} {pl : List (Nat × Nat)} {R : Thing} (h : Stable R) : Stable (NumT kp ko kv pb ov xs pl R) :=
  (CellT.stable _ _ _).both ((CellT.stable _ _ _).both ((CellT.stable _ _ _).both ((MapT.stable _ _ _ _).both ((RowG.stable _ _ _ _ _).both ((AllRows.stable _ _ _ _ _ _).both h)))))
theorem Both.inN {A k1 k2 k3 m r e T : Thing} {w : World} {fp : List Nat} (h : Both A (Both k1 (Both k2 (Both k3 (Both m (Both r (Both e T)))))) w fp) : Both k1 (Both k2 (Both k3 (Both m (Both r (Both e (Both A T)))))) w fp :=
  Both.mono (fun _ _ q => Both.mono (fun _ _ q => Both.mono (fun _ _ q => Both.mono (fun _ _ q => Both.mono (fun _ _ q => q.assoc) q.assoc) q.assoc) q.assoc) q.assoc) h.assoc
theorem Both.outN {A k1 k2 k3 m r e T : Thing} {w : World} {fp : List Nat} (h : Both k1 (Both k2 (Both k3 (Both m (Both r (Both e (Both A T)))))) w fp) : Both A (Both k1 (Both k2 (Both k3 (Both m (Both r (Both e T)))))) w fp :=
  Both.assoc (Both.mono (fun _ _ q => Both.assoc (Both.mono (fun _ _ q => Both.assoc (Both.mono (fun _ _ q => Both.assoc (Both.mono (fun _ _ q => Both.assoc (Both.mono (fun _ _ q => q.assoc) q)) q)) q)) q)) h)
theorem Both.push5 {A B C D E F : Thing} {w : World} {fp : List Nat} (h : Both E (Both A (Both B (Both C (Both D F)))) w fp) : Both A (Both B (Both C (Both D (Both E F)))) w fp :=
  Both.mono (fun _ _ q => Both.mono (fun _ _ q => Both.mono (fun _ _ q => q.assoc) q.assoc) q.assoc) h.assoc
theorem Both.deepN {k1 k2 k3 m r e T T' : Thing} (hi : ∀ w fp, T w fp → T' w fp) {w : World} {fp : List Nat} (h : Both k1 (Both k2 (Both k3 (Both m (Both r (Both e T))))) w fp) : Both k1 (Both k2 (Both k3 (Both m (Both r (Both e T'))))) w fp :=
  Both.mono (fun _ _ q => Both.mono (fun _ _ q => Both.mono (fun _ _ q => Both.mono (fun _ _ q => Both.mono (fun _ _ q => Both.mono hi q) q) q) q) q) h
/-- A state that had no row gets its own. -/
theorem AllRows.setRow {α : Type} {e : TypeId} {size : Nat} {val : α → Value} {cells : α → List Value} {n : α → Nat} {xs : List α} {R : Thing} {w : World} {fp : List Nat} {i : Nat} {x y : α} (hx : xs[i]? = some x) (hv : rowOf (val x) = [])
    (q : Both (RowG e size (val y) (n y) (cells y)) (Both (AllRows e size val cells n xs) R) w fp) : Both (AllRows e size val cells n (xs.set i y)) R w fp := by
  obtain ⟨f, g, ⟨h1, rfl⟩, ⟨f2, g2, ⟨h2, h3⟩, h4, h5, h6⟩, h7, h8⟩ := q
  obtain ⟨hi, rfl⟩ := List.getElem?_eq_some_iff.1 hx
  have hmem : ∀ z ∈ xs.set i y, z = y ∨ z ∈ xs := fun z hz => (List.mem_or_eq_of_mem_set hz).symm
  have hy : y ∈ xs.set i y := List.mem_set hi y
  refine ⟨rowOf (val y) ++ f2, g2, ⟨fun z hz => ?_, fun k => ?_⟩, h4, fun k hk hk' => ?_, fun k => ?_⟩
  · rcases hmem z hz with rfl | hz
    · exact h1
    · exact h2 z hz
  · rw [List.mem_append, h3]
    constructor
    · rintro (hk | ⟨z, hz, hk⟩)
      · exact ⟨y, hy, hk⟩
      · obtain ⟨j, hj, rfl⟩ := List.getElem_of_mem hz
        by_cases hij : j = i
        · subst hij; rw [hv] at hk; cases hk
        · exact ⟨xs[j], List.mem_iff_getElem.2 ⟨j, by simpa using hj, by rw [List.getElem_set_ne (fun e => hij e.symm)]⟩, hk⟩
    · rintro ⟨z, hz, hk⟩
      rcases hmem z hz with rfl | hz
      · exact .inl hk
      · exact .inr ⟨z, hz, hk⟩
  · rcases List.mem_append.1 hk with hk | hk
    · exact h7 k hk ((h6 k).2 (.inr hk'))
    · exact h5 k hk hk'
  · rw [h8, h6, List.mem_append]
    constructor
    · rintro (h | h | h)
      · exact .inl (.inl h)
      · exact .inl (.inr h)
      · exact .inr h
    · rintro ((h | h) | h)
      · exact .inl h
      · exact .inr (.inl h)
      · exact .inr (.inr h)
theorem stc_set {xs : List (Sta × Value)} {i : Nat} {x : Sta × Value} (hx : xs[i]? = some x) (v : Value) : ∀ es, (xs.flatMap stc).set (i * 2 + 1) v = (xs.set i (⟨x.1.final, es⟩, v)).flatMap stc := by
  intro es
  induction xs generalizing i with
  | nil => simp at hx
  | cons y xs ih =>
    cases i with
    | zero =>
      simp at hx
      subst hx
      rfl
    | succ i =>
      have ih := ih (i := i) (by simpa using hx)
      have e1 : (i + 1) * 2 + 1 = (i * 2 + 1) + 1 + 1 := by omega
      simp only [List.flatMap_cons, List.set_cons_succ]
      rw [e1, ← ih]
      rfl
theorem x1_set (xs ys : List (Sta × Value)) (x y : Sta × Value) : (xs ++ [x] ++ ys).set xs.length y = xs ++ (y :: ys) := by simp
theorem x1_get (xs ys : List (Sta × Value)) (x : Sta × Value) : (xs ++ [x] ++ ys)[xs.length]? = some x := by simp
end

section
open Go.RowKit
open Go.Maps (Keyed)

theorem enters_vis : ∀ (xs : Array Value) (w : World), (callFunc 90 xs).run Try.prog w = .ok (.enter 90 xs) w := fun xs w => enters_fn Try.func90 (by kernel_rfl) rfl xs w
theorem zero_int (w : World) : (zeroValue tInt).run Try.prog w = .ok (.int .i64 0) w := by kernel_rfl

/-- A new state behind the others, without edges. -/
abbrev X1 (xs : List (Sta × Value)) (f : Bool) : List (Sta × Value) := xs ++ [(⟨f, []⟩, .slice none 0 0)]
set_option maxRecDepth 100000 in
set_option maxHeartbeats 3200000 in
theorem vis_at {W : World} (kp ko kv pb : Nat) (bl : Nat → Nat) (ev : Nat → Value) (N : List Nd) (htgt : ∀ i, i < N.length → ∀ e ∈ (nodeAt N i).edges, e.2 < N.length) (hcnt : ∀ i, i < N.length → (nodeAt N i).edges.length ≤ 1099511627776) (hids : ∀ i, i < N.length → (nodeAt N i).id ≤ 1099511627776) (k : Nat) :
    ∀ (w : World) (ov : Value) (xs : List (Sta × Value)) (pl : List (Nat × Nat)) (n : Nat) (R : Thing) (r : NumS × Nat), numN N k (xs.map Prod.fst, pl) n = some r → n < N.length → r.1.1.length ≤ 1099511627776 →
    At W w (NumT kp ko kv pb ov xs pl (Both (NodesT bl ev N) R)) → Stable R →
    Calls Try.prog 90 #[ptrN (bl n), ptrN kp, ptrN ko, ptrN kv] w fun e w' => e = .returned (.int .i64 r.2) ∧ ∃ ov' ys, (xs ++ ys).map Prod.fst = r.1.1 ∧ At W w' (NumT kp ko kv pb ov' (xs ++ ys) r.1.2 (Both (NodesT bl ev N) R)) := by
  induction k with
  | zero => intro w ov xs pl n R r h; cases h
  | succ k ih =>
    intro w ov xs pl n R r hr hn hlen h hR
    have hst : ∀ ov xs pl, Stable (NumT kp ko kv pb ov xs pl (Both (NodesT bl ev N) R)) := fun ov xs pl => NumT.stable ((NodesT.stable _ _ _).both hR)
    obtain ⟨c1, _, _⟩ := h.cellF (o := 0) (u := .map (some pb)) rfl
    obtain ⟨c2, _, _⟩ := h.drop.cellF (o := 0) (u := ov) rfl
    have hnd := (h.drop.drop.drop.drop.drop.drop.node hn)
    obtain ⟨n2, _, _⟩ := hnd.cellF (o := 2) (u := .int .i64 (nodeAt N n).id) rfl
    obtain ⟨n1, _, _⟩ := hnd.cellF (o := 1) (u := ev n) rfl
    obtain ⟨n0, _, nlt⟩ := hnd.cellF (o := 0) (u := .bool (nodeAt N n).final) rfl
    have hid := hids n hn
    have hkey := keyOf_nat (n := (nodeAt N n).id) (by omega)
    have hd := h.drew (hst ov xs pl)
    simp only [numN] at hr
    cases hlk : lookN pl (nodeAt N n).id with
    | some t =>
      rw [hlk] at hr
      simp only [Option.some.injEq] at hr
      subst hr
      have hlook := hd.drop.drop.drop.mapHit (t := tMI) (e := tInt) true int_key Try.underlying99 hkey (plV_hit hlk)
      rw [if_pos rfl] at hlook
      have H := Lib.hid hd
      clear h hd hnd hst hlk ih hkey n1 n0 c2
      go_enter Try.func90, Try.ntmps90
      (repeat' (first | (go_big_may; fail) | go_values | go_skip | go_guarded | go_step | go_upon | go_back | dsimp only))
      (refine region_still_tail 10 (by kernel_rfl) (by kernel_rfl) ?_; simp only [List.take_succ_cons, List.take_zero, List.drop_succ_cons, List.drop_zero]; (iterate 10 (first | ((with_reducible refine still_plain ?_ rfl ?_ ?_); rotate_left; (next => (go_simp; (try with_reducible rfl))); simp only [Act.put, List.setIfInBounds_toArray, List.set_cons_zero, List.set_cons_succ]) | ((with_reducible refine still_skip ?_ ?_); (next => (go_simp; done)); simp only [Act.put, List.setIfInBounds_toArray, List.set_cons_zero, List.set_cons_succ]) | ((with_reducible refine still_val ?_ ?_ ?_ ?_); rotate_left; (next => (go_simp; done)); (next => (go_simp; (try with_reducible rfl))); simp only [Act.put, List.setIfInBounds_toArray, List.set_cons_zero, List.set_cons_succ]))); (with_reducible refine wpStill_nil ?_))
      (repeat' (first | (go_big_may; fail) | go_values | go_skip | go_guarded | go_step | go_upon | go_back | dsimp only))
      go_ret
      exact ⟨rfl, ov, [], by simp, by rw [List.append_nil]; exact H.out⟩
    | none =>
      rw [hlk] at hr
      dsimp only at hr
      cases hne : numE (numN N k) (nodeAt N n).edges ((xs.map Prod.fst ++ [⟨(nodeAt N n).final, []⟩], pl ++ [((nodeAt N n).id, (xs.map Prod.fst).length)]), []) with
      | none => rw [hne] at hr; cases hr
      | some q =>
      rw [hne] at hr
      simp only [Option.some.injEq] at hr
      subst hr
      have hxl : (xs.map Prod.fst).length = xs.length := by simp
      have hql := numE_len (fun s n r => numN_len k s n r) _ _ _ hne
      rw [hxl] at hne hql ⊢
      simp only [List.length_append, List.length_singleton, List.length_set] at hql hlen
      rw [hxl] at hql
      have hlook := hd.drop.drop.drop.mapMiss (t := tMI) (e := tInt) true int_key Try.underlying99 (zero_int _) hkey (plV_miss hlk)
      rw [if_pos rfl] at hlook
      obtain ⟨oa, oc, hov, _, _⟩ := own_shape h.drop.drop.drop.drop.rowG
      subst hov
      have H := Lib.hid hd
      have IH := Lib.hid ih
      have HNE := Lib.hid hne
      have HR := Lib.hid hR
      have HST := Lib.hid hst
      have HKEY := Lib.hid hkey
      have HMISS := Lib.hid (plV_miss hlk)
      have HTG := Lib.hid (htgt n hn)
      have hct := hcnt n hn
      clear h hd hnd hlk ih hkey hne hR hst hxl htgt hcnt hids
      go_enter Try.func90, Try.ntmps90
      (repeat' (first | (go_big_may; fail) | go_values | go_skip | go_guarded | go_step | go_upon | go_back | dsimp only))
      (refine region_still_tail 10 (by kernel_rfl) (by kernel_rfl) ?_; simp only [List.take_succ_cons, List.take_zero, List.drop_succ_cons, List.drop_zero]; (iterate 10 (first | ((with_reducible refine still_plain ?_ rfl ?_ ?_); rotate_left; (next => (go_simp; (try with_reducible rfl))); simp only [Act.put, List.setIfInBounds_toArray, List.set_cons_zero, List.set_cons_succ]) | ((with_reducible refine still_skip ?_ ?_); (next => (go_simp; done)); simp only [Act.put, List.setIfInBounds_toArray, List.set_cons_zero, List.set_cons_succ]) | ((with_reducible refine still_val ?_ ?_ ?_ ?_); rotate_left; (next => (go_simp; done)); (next => (go_simp; (try with_reducible rfl))); simp only [Act.put, List.setIfInBounds_toArray, List.set_cons_zero, List.set_cons_succ]))); (with_reducible refine wpStill_nil ?_))
      (repeat' (first | (go_big_may; fail) | go_values | go_skip | go_guarded | go_step | go_upon | go_back | dsimp only))
      (refine region_still_tail 6 (by kernel_rfl) (by kernel_rfl) ?_; simp only [List.take_succ_cons, List.take_zero, List.drop_succ_cons, List.drop_zero]; (iterate 6 (first | ((with_reducible refine still_plain ?_ rfl ?_ ?_); rotate_left; (next => (go_simp; (try with_reducible rfl))); simp only [Act.put, List.setIfInBounds_toArray, List.set_cons_zero, List.set_cons_succ]) | ((with_reducible refine still_skip ?_ ?_); (next => (go_simp; done)); simp only [Act.put, List.setIfInBounds_toArray, List.set_cons_zero, List.set_cons_succ]) | ((with_reducible refine still_val ?_ ?_ ?_ ?_); rotate_left; (next => (go_simp; done)); (next => (go_simp; (try with_reducible rfl))); simp only [Act.put, List.setIfInBounds_toArray, List.set_cons_zero, List.set_cons_succ]))); (with_reducible refine wpStill_nil ?_))
      at_mapUpdate
      refine wpList_map_put rfl _ _ _ tMI rfl int_key Try.underlying99 rfl (H.out.drew (HST.out _ _ _)).pull4 ((CellT.stable _ _ _).both ((CellT.stable _ _ _).both ((CellT.stable _ _ _).both ((RowG.stable _ _ _ _ _).both ((AllRows.stable _ _ _ _ _ _).both ((NodesT.stable _ _ _).both HR.out)))))) rfl rfl HKEY.out HMISS.out ?_
      intro w3 h3
      have h4 : At W w3 (NumT kp ko kv pb (.slice oa xs.length oc) xs (pl ++ [((nodeAt N n).id, xs.length)]) (Both (NodesT bl ev N) R)) := by
        have e1 : plV (pl ++ [((nodeAt N n).id, xs.length)]) = plV pl ++ [(Value.int .i64 (nodeAt N n).id, Value.int .i64 xs.length)] := by simp
        have h5 := h3.push4
        unfold NumT
        rw [e1]
        exact h5
      clear h3 c1 c2 n0 n1 n2 hlook
      (repeat' (first | (go_big_may; fail) | go_values | go_skip | go_guarded | go_step | go_upon | go_back | dsimp only))
      simp only [Act.put]
      go_cut [] (fun wx => ∃ a2 cp2, At W wx (NumT kp ko kv pb (.slice a2 (xs.length + 1) cp2) (X1 xs (nodeAt N n).final) (pl ++ [((nodeAt N n).id, xs.length)]) (Both (NodesT bl ev N) R)))
      case first =>
        refine wp_norm ?_
        rename_i J K' hJ hK
        have HJ := Lib.hid hJ
        have HK := Lib.hid hK
        clear hJ hK
        obtain ⟨c2, fr2, klt2⟩ := h4.drop.cellF (o := 0) (u := .slice oa xs.length oc) rfl
        obtain ⟨n0, _, _⟩ := (h4.drop.drop.drop.drop.drop.drop.node hn).cellF (o := 0) (u := .bool (nodeAt N n).final) rfl
        have h5 := (h4.drew (HST.out _ _ _)).impl fun _ q => q.pull5
        have hst5 := (CellT.stable kp #[.map (some pb)] tMI).both ((CellT.stable ko #[.slice oa xs.length oc] tSl).both ((CellT.stable kv #[.func (.func 90) #[] #[ptrN kp, ptrN ko, ptrN kv]] tFn).both ((MapT.stable Try.prog tInt pb (plV (pl ++ [((nodeAt N n).id, xs.length)]))).both ((AllRows.stable tAE 2 (fun x : Sta × Value => x.2) (fun x => x.1.edges.flatMap edc) (fun x => x.1.edges.length) xs).both ((NodesT.stable bl ev N).both HR.out)))))
        obtain ⟨v2, w4, hrun, h6, _, _⟩ := append_at_run (P := Try.prog) tSl tSl tAS Try.underlying22 info_AS rfl (by decide) h5 hst5 (C := #[.bool (nodeAt N n).final, .slice none 0 0]) (m := 1) (c := 1) rfl (two_one' _ _ rfl rfl) (by unfold maxLen; omega) (by omega)
        obtain ⟨a2, cp2, rfl, _, _⟩ := own_shape h6.rowG
        have h7 : At W w4 (Both (CellT kp #[.map (some pb)] tMI) (Both (CellT ko #[.slice oa xs.length oc] tSl) (Both (CellT kv #[.func (.func 90) #[] #[ptrN kp, ptrN ko, ptrN kv]] tFn) (Both (MapT Try.prog tInt pb (plV (pl ++ [((nodeAt N n).id, xs.length)]))) (Both (RowG tAS 2 (.slice a2 (xs.length + 1) cp2) (xs.length + 1) (xs.flatMap stc ++ [.bool (nodeAt N n).final, .slice none 0 0])) (Both (EdsG tAE xs) (Both (NodesT bl ev N) R))))))) := h6.impl fun _ q => q.push5
        obtain ⟨d2, fd2, dlt2⟩ := h7.drop.cellF (o := 0) (u := .slice oa xs.length oc) rfl
        have hst7 := (CellT.stable kp #[.map (some pb)] tMI).both ((CellT.stable kv #[.func (.func 90) #[] #[ptrN kp, ptrN ko, ptrN kv]] tFn).both ((MapT.stable Try.prog tInt pb (plV (pl ++ [((nodeAt N n).id, xs.length)]))).both ((RowG.stable tAS 2 (.slice a2 (xs.length + 1) cp2) (xs.length + 1) (xs.flatMap stc ++ [.bool (nodeAt N n).final, .slice none 0 0])).both ((AllRows.stable tAE 2 (fun x : Sta × Value => x.2) (fun x => x.1.edges.flatMap edc) (fun x => x.1.edges.length) xs).both ((NodesT.stable bl ev N).both HR.out)))))
        have h8 := (h7.swap.setCell hst7 0 (.slice a2 (xs.length + 1) cp2)).swap
        have hstE := (AllRows.stable tAE 2 (fun x : Sta × Value => x.2) (fun x => x.1.edges.flatMap edc) (fun x => x.1.edges.length) xs).both ((NodesT.stable bl ev N).both HR.out)
        have h9 : At W (w4.setCell ⟨ko, 0, none⟩ (.slice a2 (xs.length + 1) cp2)) (NumT kp ko kv pb (.slice a2 (xs.length + 1) cp2) (X1 xs (nodeAt N n).final) (pl ++ [((nodeAt N n).id, xs.length)]) (Both (NodesT bl ev N) R)) := by
          have g1 := h8.noRowG ((CellT.stable _ _ _).both ((CellT.stable _ _ _).both ((CellT.stable _ _ _).both ((MapT.stable _ _ _ _).both ((RowG.stable _ _ _ _ _).both hstE))))) tAE 2
          have e1 : (X1 xs (nodeAt N n).final).flatMap stc = xs.flatMap stc ++ [.bool (nodeAt N n).final, .slice none 0 0] := by simp
          have e2 : (X1 xs (nodeAt N n).final).length = xs.length + 1 := by simp
          unfold NumT
          rw [e1, e2]
          refine g1.impl fun _ q => ?_
          exact Both.mono (fun _ _ q => Both.mono (fun _ _ q => Both.mono (fun _ _ q => Both.mono (fun _ _ q => Both.mono (fun _ _ q => AllRows.push (val := fun x : Sta × Value => x.2) (cells := fun x => x.1.edges.flatMap edc) (n := fun x => x.1.edges.length) (⟨(nodeAt N n).final, []⟩, .slice none 0 0) q) q.assoc) q.assoc) q.assoc) q.assoc) q.assoc
        have H9 := Lib.hid h9
        clear h4 h5 h6 h7 h8 h9 hst5 hst7 hstE
        go_region_law (refine step_append_run rfl _ _ tSl rfl _ _ rfl rfl hrun ?_)
        all_goals
          refine HK.out _ _ ?_
          have hJ := HJ.out
          go_meet
          case rel => exact ⟨_, _, H9.out⟩
      case rest =>
        obtain ⟨a2, cp2, h9⟩ := hcut
        clear h4
        obtain ⟨f1, _, flt⟩ := (h9.drop.drop.drop.drop.drop.drop.node hn).cellF (o := 1) (u := ev n) rfl
        have hrow := (h9.drop.drop.drop.drop.drop.drop.node hn).drop
        obtain ⟨ea, ec, hev, _, hecm⟩ := own_shape hrow.rowG
        rw [hev] at f1
        have H9 := Lib.hid h9
        have HEV := Lib.hid hev
        clear h9 hrow hev
        generalize hed : (nodeAt N n).edges = ed at *
        have HED := Lib.hid hed
        clear hed
        (repeat' (first | (go_big_may; fail) | go_values | go_skip | go_guarded | go_step | go_upon | go_back | dsimp only))
        have h0 := (H9.out.noRowG (HST.out _ _ _) tAE 2)
        have H0 := Lib.hid h0
        clear h0
        go_loopw [9, 44] (fun ve vi wr => ∃ (j : Nat) (s' : NumS) (es : List Ed) (ys : List (Sta × Value)) (ov' : Value), vi = .int .i64 j ∧ j ≤ ed.length ∧ es.length = j ∧ (X1 xs (nodeAt N n).final ++ ys).map Prod.fst = s'.1 ∧ numE (numN N k) (ed.drop j) (s', es) = some q ∧
          At W wr (Both (RowG tAE 2 ve j (es.flatMap edc)) (NumT kp ko kv pb ov' (X1 xs (nodeAt N n).final ++ ys) s'.2 (Both (NodesT bl ev N) R)))) (fun _ vi _ => ed.length - (intOf vi).toNat)
        case atStart => exact ⟨0, _, [], [], _, rfl, Nat.zero_le _, rfl, by rw [List.append_nil, List.map_append]; rfl, HNE.out, by rw [List.append_nil]; exact H0.out⟩
        case round =>
          obtain ⟨j, s', es, ys, ov', rfl, hj, hesl, hmap, hnum, h3⟩ := hrel
          have HMAP := Lib.hid hmap
          have HESL := Lib.hid hesl
          clear f1
          have hst3 : ∀ ve (es : List Ed) ov' xs' pl', Stable (Both (RowG tAE 2 ve j (es.flatMap edc)) (NumT kp ko kv pb ov' xs' pl' (Both (NodesT bl ev N) R))) := fun _ _ _ _ _ => (RowG.stable _ _ _ _ _).both (HST.out _ _ _)
          by_cases hlj : j < ed.length
          · obtain ⟨e, he⟩ : ∃ e, ed[j]? = some e := ⟨_, List.getElem?_eq_getElem hlj⟩
            have hdr : ed.drop j = e :: ed.drop (j + 1) := by
              obtain ⟨h1, h2⟩ := List.getElem?_eq_some_iff.1 he
              rw [List.drop_eq_getElem_cons h1, h2]
            rw [hdr] at hnum
            have hel : e.2 < N.length := HTG.out e (List.mem_of_getElem? he)
            cases hv : numN N k s' e.2 with
            | none => simp only [numE] at hnum; rw [hv] at hnum; cases hnum
            | some r2 =>
            obtain ⟨s2, t⟩ := r2
            simp only [numE] at hnum
            rw [hv] at hnum
            dsimp only at hnum
            have hle2 := numE_len (fun s n r => numN_len k s n r) _ _ _ hnum
            dsimp only at hle2
            have h4 := h3.newCell (hst3 _ _ _ _ _) #[bv e.1, ptrN (bl e.2)] tEg
            have h5 : At W (wr.alloc (.cells #[bv e.1, ptrN (bl e.2)] tEg)) (NumT kp ko kv pb ov' (X1 xs (nodeAt N n).final ++ ys) s'.2 (Both (NodesT bl ev N) (Both (RowG tAE 2 u9 j (es.flatMap edc)) (Both (CellT wr.heap.size #[bv e.1, ptrN (bl e.2)] tEg) R)))) :=
              h4.impl fun _ q => Both.deepN (fun _ _ q => q.pull3) (Both.inN (Both.mono (fun _ _ q => Both.inN q) q.assoc))
            have hstT : Stable (Both (RowG tAE 2 u9 j (es.flatMap edc)) (Both (CellT wr.heap.size #[bv e.1, ptrN (bl e.2)] tEg) R)) := (RowG.stable _ _ _ _ _).both ((CellT.stable _ _ _).both HR.out)
            have hst5 : Stable (NumT kp ko kv pb ov' (X1 xs (nodeAt N n).final ++ ys) s'.2 (Both (NodesT bl ev N) (Both (RowG tAE 2 u9 j (es.flatMap edc)) (Both (CellT wr.heap.size #[bv e.1, ptrN (bl e.2)] tEg) R)))) := NumT.stable ((NodesT.stable _ _ _).both hstT)
            have hc := IH.out _ ov' (X1 xs (nodeAt N n).final ++ ys) s'.2 e.2 _ (s2, t) (by rw [hmap]; exact hv) hel (by dsimp only; omega) (h5.drew hst5) hstT
            have step : ∀ (w5 : World) (ov5 : Value) (ys5 : List (Sta × Value)), At W w5 (NumT kp ko kv pb ov5 (X1 xs (nodeAt N n).final ++ ys ++ ys5) s2.2 (Both (NodesT bl ev N) (Both (RowG tAE 2 u9 j (es.flatMap edc)) (Both (CellT wr.heap.size #[bv e.1, ptrN (bl e.2)] tEg) R)))) →
                w5.cell? ⟨wr.heap.size, 0, none⟩ = some (bv e.1) ∧ ∃ a6 c6 w6, (Builtin.append_ #[56, 56] 56 #[u9, .slice (some ⟨w5.heap.size, 0, none⟩) 1 1]).run Try.prog (w5.alloc (.cells #[bv e.1, .int .i64 t] tAE)) = .ok (.slice a6 (j + 1) c6) w6 ∧
                At W w6 (Both (RowG tAE 2 (.slice a6 (j + 1) c6) (j + 1) (es.flatMap edc ++ [bv e.1, .int .i64 t])) (NumT kp ko kv pb ov5 (X1 xs (nodeAt N n).final ++ (ys ++ ys5)) s2.2 (Both (NodesT bl ev N) R))) := by
              intro w5 ov5 ys5 h6
              rw [List.append_assoc] at h6
              have h7 : At W w5 (Both (RowG tAE 2 u9 j (es.flatMap edc)) (Both (CellT wr.heap.size #[bv e.1, ptrN (bl e.2)] tEg) (NumT kp ko kv pb ov5 (X1 xs (nodeAt N n).final ++ (ys ++ ys5)) s2.2 (Both (NodesT bl ev N) R)))) :=
                (h6.impl fun _ q => Both.mono (fun _ _ q => Both.outN (Both.deepN (fun _ _ q => q.assoc) q)) (Both.outN (Both.deepN (fun _ _ q => q.pull3) q))).swap
              obtain ⟨v6, w6, hrun, h8, _, _⟩ := append_at_run (P := Try.prog) 56 56 tAE Try.underlying56 info_AE rfl (by decide) h7 ((CellT.stable _ _ _).both (HST.out _ _ _)) (C := #[bv e.1, .int .i64 t]) (m := 1) (c := 1) rfl (two_one' _ _ rfl rfl) (by unfold maxLen; omega) (by omega)
              obtain ⟨a6, c6, rfl, _, _⟩ := own_shape h8.rowG
              exact ⟨(h7.drop.cellF (o := 0) (u := bv e.1) rfl).1, a6, c6, w6, hrun, h8.swap.drop⟩
            have hrd := H9.out
            have hgx := (h3.drop.drop.drop.drop.drop.drop.drop.node hn).drop
            rw [HED.out, HEV.out] at hgx
            obtain ⟨ga, gcap, hgs, _, _⟩ := own_cut hgx.rowG (by omega)
            cases hgs
            have hd1 : ed.getD j default = e := by rw [List.getD_eq_getElem?_getD, he]; rfl
            have hx0 := flatMap_get (egc_len bl) ed hlj (j := 0) (by decide)
            have hx1 := flatMap_get (egc_len bl) ed hlj (j := 1) (by decide)
            rw [hd1] at hx0 hx1
            obtain ⟨e0, _, _⟩ := hgx.rowCell (u := bv e.1) hx0
            obtain ⟨e1, _, _⟩ := hgx.rowCell (u := ptrN (bl e.2)) hx1
            rw [Nat.add_zero] at e0
            obtain ⟨z3, _, _⟩ := h5.drop.drop.cellF (o := 0) (u := .func (.func 90) #[] #[ptrN kp, ptrN ko, ptrN kv]) rfl
            have hc2 : Calls Try.prog 90 ([ptrN (bl e.2)].toArray ++ #[ptrN kp, ptrN ko, ptrN kv]) (wr.alloc (.cells #[bv e.1, ptrN (bl e.2)] tEg)).drew _ := hc
            have HC := Lib.hid hc2
            have STEP := Lib.hid step
            have HNUM := Lib.hid hnum
            have hjI : (j : Int) < (ed.length : Int) := by omega
            clear h3 h4 h5 hc hc2 step hnum hgx hx0 hx1 hd1 hrd hst5 hstT hst3 hmap hv he hdr hel hesl
            (repeat' (first | (go_big_may; fail) | go_values | go_skip | go_guarded | go_step | go_upon | go_back | dsimp only))
            go_region_law (first | (refine step_append_run rfl _ _ 56 rfl _ _ rfl rfl hrun ?_) | (refine step_call_val rfl 90 _ [_] _ rfl enters_vis #[ptrN kp, ptrN ko, ptrN kv] rfl [ptrN (bl e.2)] rfl ?_; refine HC.out.mono ?_; rintro e5 w5 ⟨rfl, ov5, ys5, hm5, h5⟩; dsimp only; obtain ⟨z4, a6, c6, w6, hrun, h6⟩ := STEP.out w5 ov5 ys5 h5; have H6 := Lib.hid h6; have HM5 := Lib.hid hm5; clear h5 h6 hm5))
            all_goals
              clear hrun z3 z4 e0 e1
              (repeat' (first | (go_big_may; fail) | go_values | go_skip | go_guarded | go_step | go_upon | go_back | dsimp only))
              go_roundw
              case rel =>
                refine ⟨j + 1, s2, es ++ [(e.1, (t : Int))], ys ++ ys5, ov5, by simp, by omega, by simp [HESL.out], by rw [← List.append_assoc]; exact HM5.out, HNUM.out, ?_⟩
                have e9 : (es ++ [(e.1, (t : Int))]).flatMap edc = es.flatMap edc ++ [bv e.1, .int .i64 t] := by simp
                rw [e9]
                exact H6.out
              case measure => simp [intOf] <;> omega
          · obtain rfl : j = ed.length := by omega
            rw [List.drop_eq_nil_of_le (Nat.le_refl _)] at hnum
            obtain ⟨va, vc, hu9, _, _⟩ := own_shape h3.rowG
            simp only [numE, Option.some.injEq] at hnum
            have HNUM := Lib.hid hnum
            have h4 : At W wr (Both (RowG tAS 2 ov' (X1 xs (nodeAt N n).final ++ ys).length ((X1 xs (nodeAt N n).final ++ ys).flatMap stc)) (Both (RowG tAE 2 u9 ed.length (es.flatMap edc)) (Both (CellT kp #[.map (some pb)] tMI) (Both (CellT ko #[ov'] tSl) (Both (CellT kv #[.func (.func 90) #[] #[ptrN kp, ptrN ko, ptrN kv]] tFn) (Both (MapT Try.prog tInt pb (plV s'.2)) (Both (EdsG tAE (X1 xs (nodeAt N n).final ++ ys)) (Both (NodesT bl ev N) R)))))))) := (h3.impl fun _ q => Both.mono (fun _ _ q => q.pull5) q).swap
            have hstr : Stable (Both (RowG tAE 2 u9 ed.length (es.flatMap edc)) (Both (CellT kp #[.map (some pb)] tMI) (Both (CellT ko #[ov'] tSl) (Both (CellT kv #[.func (.func 90) #[] #[ptrN kp, ptrN ko, ptrN kv]] tFn) (Both (MapT Try.prog tInt pb (plV s'.2)) (Both (EdsG tAE (X1 xs (nodeAt N n).final ++ ys)) (Both (NodesT bl ev N) R))))))) :=
              (RowG.stable _ _ _ _ _).both ((CellT.stable _ _ _).both ((CellT.stable _ _ _).both ((CellT.stable _ _ _).both ((MapT.stable _ _ _ _).both ((AllRows.stable _ _ _ _ _ _).both ((NodesT.stable _ _ _).both HR.out))))))
            have hll : (X1 xs (nodeAt N n).final ++ ys).length = xs.length + 1 + ys.length := by simp; omega
            obtain ⟨go, oc', hoo, _, hoc1, hoc2⟩ := own_cut h4.rowG (by omega)
            subst hoo
            have hgx := x1_get xs ys (⟨(nodeAt N n).final, []⟩, .slice none 0 0)
            have hgetx : ((X1 xs (nodeAt N n).final ++ ys).flatMap stc)[xs.length * 2 + 1]? = some (.slice none 0 0) := by
              have h9 := flatMap_get stc_len (X1 xs (nodeAt N n).final ++ ys) (i := xs.length) (j := 1) (by omega) (by decide)
              have h8 : (X1 xs (nodeAt N n).final ++ ys).getD xs.length default = (⟨(nodeAt N n).final, []⟩, .slice none 0 0) := by rw [List.getD_eq_getElem?_getD, hgx]; rfl
              rw [h8] at h9
              exact h9
            obtain ⟨g1, g2, g3⟩ := h4.rowCell hgetx
            obtain ⟨c2, _, _⟩ := h4.drop.drop.drop.cellF (o := 0) (u := .slice (some ⟨go, 0, none⟩) (X1 xs (nodeAt N n).final ++ ys).length oc') rfl
            have h5 := h4.storeG hstr (xs.length * 2 + 1) u9
            rw [stc_set hgx u9 es, x1_set] at h5
            have hle9 : es.length = ed.length := HESL.out
            rw [← hle9] at h5
            have e7 : (xs ++ (((⟨(nodeAt N n).final, es⟩, u9) : Sta × Value) :: ys)).length = (X1 xs (nodeAt N n).final ++ ys).length := by simp
            have h6 : At W (wr.setCell ⟨go, xs.length * 2 + 1, none⟩ u9) (NumT kp ko kv pb (.slice (some ⟨go, 0, none⟩) (X1 xs (nodeAt N n).final ++ ys).length oc') (xs ++ (((⟨(nodeAt N n).final, es⟩, u9) : Sta × Value) :: ys)) s'.2 (Both (NodesT bl ev N) R)) := by
              unfold NumT
              rw [e7]
              refine h5.impl fun _ q => Both.push5 (Both.mono (fun _ _ q2 => ?_) q)
              have q3 := Both.push5 q2
              refine Both.mono (fun _ _ q => Both.mono (fun _ _ q => Both.mono (fun _ _ q => Both.mono (fun _ _ q4 => ?_) q) q) q) q3
              have q5 := AllRows.setRow (val := fun x : Sta × Value => x.2) (cells := fun x => x.1.edges.flatMap edc) (n := fun x => x.1.edges.length) (y := (⟨(nodeAt N n).final, es⟩, u9)) hgx rfl q4
              rw [x1_set] at q5
              exact q5
            have H6 := Lib.hid h6
            have hi0 : (0 : Int) ≤ (xs.length : Int) := by omega
            have hi1 : (xs.length : Int) < ((X1 xs (nodeAt N n).final ++ ys).length : Int) := by omega
            have hjI : ¬ (ed.length : Int) < (ed.length : Int) := by omega
            generalize hlX : (X1 xs (nodeAt N n).final ++ ys).length = LX at *
            clear h3 h4 h5 h6 hgx hgetx hstr hst3 hnum hmap hesl e7 hle9 hll
            subst hu9
            (repeat' (first | (go_big_may; fail) | go_values | go_skip | go_guarded | go_step | go_upon | go_back | dsimp only))
            go_ret
            refine ⟨rfl, .slice (some ⟨go, 0, none⟩) LX oc', (⟨(nodeAt N n).final, es⟩, .slice va ed.length vc) :: ys, ?_, ?_⟩
            · rw [← HNUM.out]
              dsimp only
              rw [← HMAP.out, ← x1_set xs ys (⟨(nodeAt N n).final, []⟩, .slice none 0 0), List.map_set]
            · rw [← HNUM.out]
              exact H6.out
end
end

section
open Go.RowKit
open Go.Maps (Keyed)

theorem mk_mi (w : World) : (Instr.makeMap tMI none).run Try.prog w = .ok (.map (some w.heap.size)) (w.alloc (.map #[] 0)) := by kernel_rfl
theorem mk_km (w : World) : (Instr.makeMap tKM none).run Try.prog w = .ok (.map (some w.heap.size)) (w.alloc (.map #[] 0)) := by kernel_rfl
theorem st_fn (a : Addr) (f : Fn) (x y : Array Value) (m : Mode) (w : World) : (store a (.func f x y) m).run Try.prog w = stored Try.prog w a (.func f x y) m := run_store Try.prog w a _ m rfl
theorem At.swapDrop {W w : World} {A B C : Thing} (h : At W w (Both A (Both B C))) : At W w (Both A C) := h.swap.drop
/-- A slice literal of one cell. -/
theorem At.newLit {W w : World} {Φ : Thing} (h : At W w Φ) (hs : Stable Φ) (e : TypeId) (v : Value) : At W (w.alloc (.cells #[v] e)) (Both (RowG e 1 (.slice (some ⟨w.heap.size, 0, none⟩) 1 1) 1 [v]) Φ) :=
  h.newRowG hs ((Below.refl _ _).alloc (Nat.le_refl _) _) ⟨rfl, .inr ⟨w.heap.size, 1, #[v], rfl, Nat.le_refl _, heap_alloc_new _ _, Nat.le_refl _, by unfold maxLen; omega, rfl, rfl⟩⟩
set_option maxRecDepth 100000 in
set_option maxHeartbeats 1600000 in
theorem number_at {W : World} (bl : Nat → Nat) (ev : Nat → Value) (N : List Nd) (htgt : ∀ i, i < N.length → ∀ e ∈ (nodeAt N i).edges, e.2 < N.length) (hcnt : ∀ i, i < N.length → (nodeAt N i).edges.length ≤ 1099511627776) (hids : ∀ i, i < N.length → (nodeAt N i).id ≤ 1099511627776)
    {k n : Nat} {r : NumS × Nat} (hr : numN N k ([], []) n = some r) (hn : n < N.length) (hlen : r.1.1.length ≤ 1099511627776) (w : World) (R : Thing) (h : At W w (Both (NodesT bl ev N) R)) (hR : Stable R) :
    Calls Try.prog 71 #[ptrN (bl n)] w fun e w' => ∃ ov, e = .returned ov ∧ At W w' (Both (AutG tAS tAE ov r.1.1) (Both (NodesT bl ev N) R)) := by
  have hs0 := (NodesT.stable bl ev N).both hR
  have h1 : At W w (Both (RowG tAS 2 (.slice none 0 0) ([] : List (Sta × Value)).length (([] : List (Sta × Value)).flatMap stc)) (Both (EdsG tAE []) (Both (NodesT bl ev N) R))) := (h.noRows hs0 tAE 2 _ _ _).noRowG ((AllRows.stable _ _ _ _ _ _).both hs0) tAS 2
  have hs1 := (RowG.stable tAS 2 (.slice none 0 0) ([] : List (Sta × Value)).length (([] : List (Sta × Value)).flatMap stc)).both ((AllRows.stable tAE 2 (fun x : Sta × Value => x.2) (fun x => x.1.edges.flatMap edc) (fun x => x.1.edges.length) []).both hs0)
  have h2 := h1.newCell hs1 #[.slice none 0 0] tSl
  have hs2 := (CellT.stable w.heap.size #[.slice none 0 0] tSl).both hs1
  have h3 := h2.newMap hs2 Try.prog tInt
  have z3 : (w.alloc (.cells #[.slice none 0 0] tSl)).heap.size = w.heap.size + 1 := by simp
  rw [z3] at h3
  have hs3 := (MapT.stable Try.prog tInt (w.heap.size + 1) []).both hs2
  have h4 := h3.newCell hs3 #[.map (some (w.heap.size + 1))] tMI
  have z4 : ((w.alloc (.cells #[.slice none 0 0] tSl)).alloc (.map #[] 0)).heap.size = w.heap.size + 2 := by simp
  rw [z4] at h4
  have hs4 := (CellT.stable (w.heap.size + 2) #[.map (some (w.heap.size + 1))] tMI).both hs3
  have h5 := h4.newCell hs4 #[.func (.func 90) #[] #[ptrN (w.heap.size + 2), ptrN w.heap.size, ptrN (w.heap.size + 3)]] tFn
  have z5 : (((w.alloc (.cells #[.slice none 0 0] tSl)).alloc (.map #[] 0)).alloc (.cells #[.map (some (w.heap.size + 1))] tMI)).heap.size = w.heap.size + 3 := by simp
  rw [z5] at h5
  have h6 := h5.pull4.pull3
  have HC := Lib.hid (vis_at (w.heap.size + 2) w.heap.size (w.heap.size + 3) (w.heap.size + 1) bl ev N htgt hcnt hids k _ (.slice none 0 0) [] [] n R r hr hn hlen h6 hR)
  clear h1 h2 h3 h4 h5 h6 hs1 hs2 hs3 hs4 z3 z4 z5 hs0 h htgt hcnt hids
  have hmm := mk_mi
  have hsf := st_fn
  go_enter Try.func71, Try.ntmps71
  (repeat' (first | (go_big_may; fail) | go_values | go_skip | go_guarded | go_step | go_upon | go_back | dsimp only))
  refine HC.out.mono ?_
  rintro e5 w5 ⟨rfl, ov5, ys5, hm5, h7⟩
  obtain ⟨c0, _, _⟩ := h7.drop.cellF (o := 0) (u := ov5) rfl
  have h8 := h7.drop.drop.drop.drop
  rw [List.nil_append] at hm5 h8
  have h9 := At.autG h8
  rw [hm5] at h9
  have H9 := Lib.hid h9
  clear h7 h8 h9 hm5
  (repeat' (first | (go_big_may; fail) | go_values | go_skip | go_guarded | go_step | go_upon | go_back | dsimp only))
  go_ret
  exact ⟨_, rfl, H9.out⟩
theorem ready_calls (kb : Nat) (w : World) (h : w.cell? ⟨kb, 5, none⟩ = some (.int .i64 0)) : Calls Try.prog 67 #[ptrN kb] w fun e w' => e = .returned (.int .i64 0) ∧ w' = w := by
  go_enter Try.func67, Try.ntmps67
  (repeat' (first | (go_big_may; fail) | go_values | go_skip | go_guarded | go_step | go_upon | go_back | dsimp only))
  go_ret
  exact ⟨rfl, rfl⟩
set_option maxRecDepth 100000 in
set_option maxHeartbeats 1600000 in
theorem fresh_at {W w : World} (most : Int) (h : At W w Nought) : Calls Try.prog 50 #[.int .i64 most] w fun e w' => ∃ kb mb bl ev pv, e = .returned (ptrN kb) ∧ At W w' (BdT kb mb bl ev most false pv 0 0 ⟨#[]⟩ freshB Nought) := by
  have H := Lib.hid h
  clear h
  have hmm := mk_km
  go_enter Try.func50, Try.ntmps50
  (repeat' (first | (go_big_may; fail) | go_values | go_skip | go_guarded | go_step | go_upon | go_back | dsimp only))
  go_ret
  have h1 := H.out.noRowG Stable.nought tEg 2
  have hs1 := (RowG.stable tEg 2 (.slice none 0 0) 0 []).both Stable.nought
  have h2 := h1.newCell hs1 #[.bool false, .slice none 0 0, .int .i64 0] tNd
  have hs2 := (CellT.stable w.heap.size #[.bool false, .slice none 0 0, .int .i64 0] tNd).both hs1
  have hN : At W (w.alloc (.cells #[.bool false, .slice none 0 0, .int .i64 0] tNd)) (Both (NodesT (fun _ => w.heap.size) (fun _ => .slice none 0 0) [⟨false, [], 0⟩]) Nought) :=
    h2.impl fun _ q => Both.comm (Both.nought (show Both (NodeT (fun _ => w.heap.size) w.heap.size (.slice none 0 0) ⟨false, [], 0⟩) Nought _ _ from q.assoc'))
  have hsN := (NodesT.stable (fun _ => w.heap.size) (fun _ => .slice none 0 0) [⟨false, [], 0⟩]).both Stable.nought
  have h3 := (hN.newLit hsN tPN (ptrN w.heap.size)).swap
  have z2 : (w.alloc (.cells #[.bool false, .slice none 0 0, .int .i64 0] tNd)).heap.size = w.heap.size + 1 := by simp
  rw [z2] at h3
  have hs3 := (NodesT.stable (fun _ => w.heap.size) (fun _ => .slice none 0 0) [⟨false, [], 0⟩]).both ((RowG.stable tPN 1 (.slice (some ⟨w.heap.size + 1, 0, none⟩) 1 1) 1 [ptrN w.heap.size]).both Stable.nought)
  have h4 := h3.newMap hs3 Try.prog tKy
  have z3 : ((w.alloc (.cells #[.bool false, .slice none 0 0, .int .i64 0] tNd)).alloc (.cells #[ptrN w.heap.size] tPN)).heap.size = w.heap.size + 1 + 1 := by simp
  rw [z3] at h4
  have hs4 := (MapT.stable Try.prog tKy (w.heap.size + 1 + 1) []).both hs3
  have h5 := h4.newCell hs4 (bdC most ⟨#[]⟩ false (.slice (some ⟨w.heap.size + 1, 0, none⟩) 1 1) (w.heap.size + 1 + 1) 0 0) tBd
  have z4 : (((w.alloc (.cells #[.bool false, .slice none 0 0, .int .i64 0] tNd)).alloc (.cells #[ptrN w.heap.size] tPN)).alloc (.map #[] 0)).heap.size = w.heap.size + 1 + 1 + 1 := by simp
  rw [z4] at h5
  exact ⟨w.heap.size + 1 + 1 + 1, w.heap.size + 1 + 1, fun _ => w.heap.size, fun _ => .slice none 0 0, .slice (some ⟨w.heap.size + 1, 0, none⟩) 1 1, rfl, h5⟩

/-! ### Many words -/
theorem fold_inv : ∀ (L : List (List UInt8)) (b : Bd), (∀ r ∈ L, r.length ≤ 255) → BInv b → b.last.length ≤ 255 →
    BInv (L.foldl addP b) ∧ (L.foldl addP b).f.N.length ≤ b.f.N.length + 255 * L.length ∧ (L.foldl addP b).f.known.length ≤ b.f.known.length + 255 * L.length ∧ (L.foldl addP b).last.length ≤ 255
  | [], b, _, h, hl => ⟨h, by simp, by simp, hl⟩
  | w :: L, b, hL, h, hl => by
    obtain ⟨h1, h2, h3⟩ := addP_inv h w
    have hw := hL w (by simp)
    obtain ⟨i1, i2, i3, i4⟩ := fold_inv L (addP b w) (fun r hr => hL r (by simp [hr])) h1 hw
    refine ⟨i1, ?_, ?_, i4⟩
    · rw [List.foldl_cons, List.length_cons]; omega
    · rw [List.foldl_cons, List.length_cons]; omega
theorem fold_last (L : List (List UInt8)) (b : Bd) (w : List UInt8) : ((L ++ [w]).foldl addP b).last = w := by rw [List.foldl_append]; rfl

set_option maxRecDepth 100000 in
set_option maxHeartbeats 1600000 in
theorem Finish_at {W : World} (kb mb : Nat) (bl : Nat → Nat) (ev : Nat → Value) (most : Int) (hmost : 1099511627776 ≤ most) (any : Bool) (pv : Value) (cnt : Int) (lb : ByteArray) {b : Bd} (hI : BInv b) (hl : b.last.length ≤ 255) (hN : b.f.N.length ≤ 549755813888) (hK : b.f.known.length ≤ 549755813888)
    {k : Nat} {r : NumS × Nat} (hr : numN (rootP b).1.N k ([], []) (rootP b).2 = some r) (hlen : r.1.1.length ≤ 1099511627776) (w : World) (R : Thing) (h : At W w (BdT kb mb bl ev most any pv 0 cnt lb b R)) (hR : Stable R) :
    Calls Try.prog 52 #[ptrN kb] w fun e w' => ∃ ov, e = .returned (.tuple #[ov, .int .i64 0]) ∧ At W w' (Both (AutG tAS tAE ov r.1.1) R) := by
  have hpl := hI.len
  obtain ⟨c5, _, _⟩ := h.cellF (o := 5) (u := .int .i64 0) rfl
  have HRD := Lib.hid (ready_calls kb w c5)
  have hst : Stable (BdT kb mb bl ev most any pv 0 cnt lb b R) := (CellT.stable _ _ _).both (FzT.stable ((RowG.stable _ _ _ _ _).both hR))
  have hcut := cut_at kb mb bl ev most lb any pv 0 cnt (path := b.path) (n := 0) (by omega) hI.f (getD_lt hI.pin hI.pos) hI.pe (by omega) (by omega) w R h hR
  have hg := cut_g hI 0 (by omega)
  rw [show b.path.length - 1 - 0 = b.last.length from by omega] at hcut
  rw [Nat.sub_zero] at hg
  generalize hs1 : cutL b.path 0 b.last.length b.f = s1 at *
  have hp0 : b.path.getD 0 0 < s1.N.length := by rw [hg.2.1]; exact getD_lt hI.pin hI.pos 0
  have hfz := freezeP_inv (s := s1) hg.1.f hp0
  have hroot : rootP b = freezeP s1 (b.path.getD 0 0) := by unfold rootP; rw [hs1]
  rw [hroot] at hr
  have hpt : b.path.take (0 + 1) = [b.path.getD 0 0] := by
    cases hb : b.path with
    | nil => rw [hb] at hpl; simp at hpl
    | cons a l => rfl
  generalize hpn : b.path.getD 0 0 = p0 at *
  rw [hpt] at hcut
  have HC := Lib.hid hcut
  have HFI := Lib.hid hfz
  have HG := Lib.hid hg
  have HR := Lib.hid hR
  have HRR := Lib.hid hr
  have hk1 := hg.2.2
  clear h hst hI hcut hfz hg hR hr hpt hroot hpn hs1 c5
  go_enter Try.func52, Try.ntmps52
  (repeat' (first | (go_big_may; fail) | go_values | go_skip | go_guarded | go_step | go_upon | go_back | dsimp only))
  refine HRD.out.mono ?_
  rintro e1 w1 ⟨rfl, rfl⟩
  (repeat' (first | (go_big_may; fail) | go_values | go_skip | go_guarded | go_step | go_upon | go_back | dsimp only))
  refine HC.out.mono ?_
  rintro e2 w2 ⟨rfl, pv2, h2⟩
  obtain ⟨gp, pcap, rfl, _, _, _⟩ := own_cut h2.drop.drop.drop.rowG (by omega)
  obtain ⟨d3, _, _⟩ := h2.cellF (o := 3) (u := .slice (some ⟨gp, 0, none⟩) (0 + 1) pcap) rfl
  have d5 := (h2.drop.drop.drop.rowCell (u := ptrN (bl p0)) (j := 0) rfl).1
  have HF := Lib.hid (freeze_at kb mb bl ev (bdC most lb any (.slice (some ⟨gp, 0, none⟩) (0 + 1) pcap) mb 0 cnt) rfl (s := s1) hp0 HG.out.1.f (by rw [HG.out.2.1]; omega) (by omega) w2 _ h2 ((RowG.stable _ _ _ _ _).both HR.out))
  clear h2
  (repeat' (first | (go_big_may; fail) | go_values | go_skip | go_guarded | go_step | go_upon | go_back | dsimp only))
  refine HF.out.mono ?_
  rintro e3 w3 ⟨rfl, h3⟩
  have hfi := HFI.out
  have hst3 : Stable (Both (CellT kb (bdC most lb any (.slice (some ⟨gp, 0, none⟩) (0 + 1) pcap) mb 0 cnt) tBd) (FzT bl ev mb (freezeP s1 p0).1 (Both (RowG tPN 1 (.slice (some ⟨gp, 0, none⟩) (0 + 1) pcap) (0 + 1) (pathV bl [p0])) R))) := (CellT.stable _ _ _).both (FzT.stable ((RowG.stable _ _ _ _ _).both HR.out))
  have h4 := h3.drew hst3
  have hlen4 := fun ty => h4.drop.mapLen tKM ty tPN Try.underlying152
  rw [List.length_map] at hlen4
  obtain ⟨x4, _, _⟩ := h3.cellF (o := 4) (u := .map (some mb)) rfl
  obtain ⟨x0, _, _⟩ := h3.cellF (o := 0) (u := .int .i64 most) rfl
  obtain ⟨x5, y5, klt⟩ := h3.cellF (o := 5) (u := .int .i64 0) rfl
  obtain ⟨x6, y6, _⟩ := h3.cellF (o := 6) (u := .int .i64 cnt) rfl
  have hsF := FzT.stable (bl := bl) (ev := ev) (mb := mb) (s := (freezeP s1 p0).1) ((RowG.stable tPN 1 (.slice (some ⟨gp, 0, none⟩) (0 + 1) pcap) (0 + 1) (pathV bl [p0])).both HR.out)
  have h5 := ((h4.setCell hsF 5 (.int .i64 182)).setCell hsF 6 (.int .i64 ((freezeP s1 p0).1.known.length : Nat))).pull3
  have hNn : (freezeP s1 p0).1.N.length = b.f.N.length := by rw [hfi.2.1.len, HG.out.2.1]
  have hmk : ¬ most < ((freezeP s1 p0).1.known.length : Int) := by have := hfi.2.2.2; omega
  have HNB := Lib.hid (number_at bl ev (freezeP s1 p0).1.N (fun i hi => hfi.1.tgt i hi) (fun i hi => by have := hfi.1.cnt i hi; omega) (fun i hi => by have := hfi.1.ids i hi; have := hfi.2.2.2; omega) HRR.out (by rw [hfi.2.1.len]; exact hfi.2.2.1) hlen _ _ h5 ((CellT.stable _ _ _).both ((MapT.stable _ _ _ _).both ((RowG.stable _ _ _ _ _).both HR.out))))
  clear h3 h4 h5 hst3 hsF hfi d3 d5
  (repeat' (first | (go_big_may; fail) | go_values | go_skip | go_guarded | go_step | go_upon | go_back | dsimp only))
  (refine region_still_tail 9 (by kernel_rfl) (by kernel_rfl) ?_; simp only [List.take_succ_cons, List.take_zero, List.drop_succ_cons, List.drop_zero]; (iterate 9 (first | ((with_reducible refine still_plain ?_ rfl ?_ ?_); rotate_left; (next => (go_simp; (try with_reducible rfl))); simp only [Act.put, List.setIfInBounds_toArray, List.set_cons_zero, List.set_cons_succ]) | ((with_reducible refine still_skip ?_ ?_); (next => (go_simp; done)); simp only [Act.put, List.setIfInBounds_toArray, List.set_cons_zero, List.set_cons_succ]) | ((with_reducible refine still_val ?_ ?_ ?_ ?_); rotate_left; (next => (go_simp; done)); (next => (go_simp; (try with_reducible rfl))); simp only [Act.put, List.setIfInBounds_toArray, List.set_cons_zero, List.set_cons_succ]))); (with_reducible refine wpStill_nil ?_))
  (repeat' (first | (go_big_may; fail) | go_values | go_skip | go_guarded | go_step | go_upon | go_back | dsimp only))
  refine HNB.out.mono ?_
  rintro e4 w4 ⟨ov, rfl, h6⟩
  have H6 := Lib.hid h6.swapDrop.swapDrop.swapDrop.swapDrop
  clear h6
  (repeat' (first | (go_big_may; fail) | go_values | go_skip | go_guarded | go_step | go_upon | go_back | dsimp only))
  go_ret2
  exact ⟨_, rfl, H6.out⟩

/-! ### Add -/
theorem size_mk (r : List UInt8) : (⟨r.toArray⟩ : ByteArray).size = r.length := by simp [ByteArray.size]
/-- The words rise, as Go compares texts. -/
def Rises (L : List (List UInt8)) : Prop := ∀ j a b, L[j]? = some a → L[j + 1]? = some b → Op.bytesLess (⟨b.toArray⟩ : ByteArray).toList (⟨a.toArray⟩ : ByteArray).toList = false ∧ ((⟨b.toArray⟩ : ByteArray).toList == (⟨a.toArray⟩ : ByteArray).toList) = false
set_option maxRecDepth 100000 in
set_option maxHeartbeats 1600000 in
theorem Add_at {W : World} {v : Value} {L : List (List UInt8)} (hv : RdRow W v L.length 1 (strs L)) (hL : ∀ r ∈ L, r.length ≤ 255) (hn : L.length ≤ 1073741824) (hris : Rises L) (kb mb : Nat) (bl : Nat → Nat) (ev : Nat → Value) (most : Int) (hmost : 1099511627776 ≤ most) (pv : Value)
    (w : World) (h : At W w (BdT kb mb bl ev most false pv 0 0 ⟨#[]⟩ freshB Nought)) :
    Calls Try.prog 51 #[ptrN kb, v] w fun e w' => e = .returned (.int .i64 0) ∧ ∃ bl' ev' pv' any' lb', At W w' (BdT kb mb bl' ev' most any' pv' 0 0 lb' (L.foldl addP freshB) Nought) := by
  obtain ⟨a0, c0, rfl, _, hc0⟩ := hv.shape
  unfold maxLen at hc0
  obtain ⟨c5, _, _⟩ := h.cellF (o := 5) (u := .int .i64 0) rfl
  have HRD := Lib.hid (ready_calls kb w c5)
  have HV := Lib.hid hv
  have HRS := Lib.hid hris
  have H := Lib.hid h
  have HL := Lib.hid hL
  clear hv hris h hL c5
  go_enter Try.func51, Try.ntmps51
  (repeat' (first | (go_big_may; fail) | go_values | go_skip | go_guarded | go_step | go_upon | go_back | dsimp only))
  refine HRD.out.mono ?_
  rintro e1 w1 ⟨rfl, rfl⟩
  (repeat' (first | (go_big_may; fail) | go_values | go_skip | go_guarded | go_step | go_upon | go_back | dsimp only))
  go_loopw [16] (fun vi wr => ∃ (j : Nat) (bl' : Nat → Nat) (ev' : Nat → Value) (pv' : Value) (any' : Bool) (lb' : ByteArray), vi = .int .i64 j ∧ j ≤ L.length ∧ lb'.data.toList = ((L.take j).foldl addP freshB).last ∧ (any' = true → ∃ q r, j = q + 1 ∧ L[q]? = some r ∧ lb' = ⟨r.toArray⟩) ∧
    At W wr (BdT kb mb bl' ev' most any' pv' 0 0 lb' ((L.take j).foldl addP freshB) Nought)) (fun vi _ => L.length - (intOf vi).toNat)
  case atStart => exact ⟨0, bl, ev, pv, false, ⟨#[]⟩, rfl, Nat.zero_le _, rfl, by intro h; (cases h), H.out⟩
  case round =>
    obtain ⟨j, bl', ev', pv', any', lb', rfl, hj, hlb, hany, h2⟩ := hrel
    have hfi := fold_inv (L.take j) freshB (fun r hr => HL.out r (List.mem_of_mem_take hr)) freshB_inv (by decide)
    have htl : (L.take j).length = j := by rw [List.length_take]; omega
    rw [htl] at hfi
    have hf1 : freshB.f.N.length = 1 := rfl
    have hf2 : freshB.f.known.length = 0 := rfl
    rw [hf1, hf2] at hfi
    by_cases hlj : j < L.length
    · obtain ⟨x, hx⟩ : ∃ x, L[j]? = some x := ⟨_, List.getElem?_eq_getElem hlj⟩
      have hlx := HL.out x (List.mem_of_getElem? hx)
      have hadd := add_at kb mb bl' ev' most hmost any' pv' 0 lb' ⟨x.toArray⟩ hlb.symm hfi.1 (by rw [size_mk]; exact hlx) (by have := hfi.2.2.2; rw [← hlb] at this; simpa using this)
        (fun ha => by
          obtain ⟨q, r, rfl, hq, rfl⟩ := hany ha
          exact HRS.out q r x hq hx) (by omega) (by omega) wr Nought h2 Stable.nought
      have hfold : (L.take (j + 1)).foldl addP freshB = addP ((L.take j).foldl addP freshB) x := by
        rw [List.take_add_one, hx, Option.toList_some, List.foldl_append]; rfl
      have HADD := Lib.hid hadd
      have HFO := Lib.hid hfold
      have HXX := Lib.hid hx
      obtain ⟨b, off, cap, hsl, d0⟩ := (HV.out.below h2.below).str hx
      cases hsl
      have hjI : (j : Int) < (L.length : Int) := by omega
      clear hadd hfold hx hfi h2 hany hlb
      (repeat' (first | (go_big_may; fail) | go_values | go_skip | go_guarded | go_step | go_upon | go_back | dsimp only))
      refine HADD.out.mono ?_
      rintro e2 w2 ⟨rfl, bl2, ev2, pv2, h3⟩
      have H3 := Lib.hid h3
      clear h3
      (repeat' (first | (go_big_may; fail) | go_values | go_skip | go_guarded | go_step | go_upon | go_back | dsimp only))
      go_roundw
      case rel => exact ⟨j + 1, bl2, ev2, pv2, true, ⟨x.toArray⟩, by simp, by omega, by rw [HFO.out]; rfl, fun _ => ⟨j, x, rfl, HXX.out, rfl⟩, by rw [HFO.out]; exact H3.out⟩
      case measure => simp [intOf] <;> omega
    · obtain rfl : j = L.length := by omega
      rw [List.take_length] at h2
      have H2 := Lib.hid h2
      clear h2 hany hlb hfi
      (repeat' (first | (go_big_may; fail) | go_values | go_skip | go_guarded | go_step | go_upon | go_back | dsimp only))
      go_ret
      exact ⟨rfl, bl', ev', pv', any', lb', H2.out⟩

set_option maxRecDepth 100000 in
set_option maxHeartbeats 1600000 in
theorem Build_at {W : World} {v : Value} {L : List (List UInt8)} {A : List Sta} (hv : RdRow W v L.length 1 (strs L)) (hL : ∀ r ∈ L, r.length ≤ 255) (hn : L.length ≤ 1073741824) (hris : Rises L) (hb : buildP L = some A) (hA : A.length ≤ 1099511627776) :
    Calls Try.prog 31 #[v] W fun e w' => ∃ ov, e = .returned (.tuple #[ov, .int .i64 0]) ∧ At W w' (Both (AutG tAS tAE ov A) Nought) := by
  have hfi := fold_inv L freshB hL freshB_inv (by decide)
  have hf1 : freshB.f.N.length = 1 := rfl
  have hf2 : freshB.f.known.length = 0 := rfl
  rw [hf1, hf2] at hfi
  obtain ⟨r, hr, hrA⟩ : ∃ r, numN (rootP (L.foldl addP freshB)).1.N ((rootP (L.foldl addP freshB)).1.N.length + 1) ([], []) (rootP (L.foldl addP freshB)).2 = some r ∧ r.1.1 = A := by
    unfold buildP numberP at hb
    dsimp only at hb
    exact Option.map_eq_some_iff.1 hb
  subst hrA
  have HF := Lib.hid (fresh_at (W := W) (w := W) 4611686018427387904 (At.nought (Below.refl _ _)))
  have HAD := Lib.hid (fun kb mb bl ev pv w h => Add_at hv hL hn hris kb mb bl ev 4611686018427387904 (by decide) pv w h)
  have HFI := Lib.hid (fun kb mb bl ev pv any lb w h => Finish_at (W := W) kb mb bl ev 4611686018427387904 (by decide) any pv 0 lb hfi.1 hfi.2.2.2 (by omega) (by omega) hr hA w Nought h Stable.nought)
  clear hv hL hn hris hb hA hfi hr
  go_enter Try.func31, Try.ntmps31
  (repeat' (first | (go_big_may; fail) | go_values | go_skip | go_guarded | go_step | go_upon | go_back | dsimp only))
  refine HF.out.mono ?_
  rintro e1 w1 ⟨kb, mb, bl, ev, pv, rfl, h1⟩
  have HA2 := Lib.hid (HAD.out kb mb bl ev pv w1 h1)
  clear h1
  (repeat' (first | (go_big_may; fail) | go_values | go_skip | go_guarded | go_step | go_upon | go_back | dsimp only))
  refine HA2.out.mono ?_
  rintro e2 w2 ⟨rfl, bl2, ev2, pv2, any2, lb2, h2⟩
  have HA3 := Lib.hid (HFI.out kb mb bl2 ev2 pv2 any2 lb2 w2 h2)
  clear h2
  (repeat' (first | (go_big_may; fail) | go_values | go_skip | go_guarded | go_step | go_upon | go_back | dsimp only))
  refine HA3.out.mono ?_
  rintro e3 w3 ⟨ov, rfl, h3⟩
  have H3 := Lib.hid h3
  clear h3
  (repeat' (first | (go_big_may; fail) | go_values | go_skip | go_guarded | go_step | go_upon | go_back | dsimp only))
  go_ret2
  exact ⟨_, rfl, H3.out⟩
end
end Go.Proofs.Ytcbdncjknpdnbaa
