/- dawg.number walked: the frozen nodes laid out in the order in which they are met. -/
import Derived.Test.YthjkfiniafblbaaDawgAdd
import Derived.Deep.RegionLaw
namespace Go.Proofs.Ythjkfiniafblbaa
open Go.RowKit
open Go.Maps (Keyed)

theorem numE_len {rec : NumS → Nat → Option (NumS × Nat)} (hr : ∀ s n r, rec s n = some r → s.1.length ≤ r.1.1.length) : ∀ (es : List (UInt8 × Nat)) (s r : NumS × List Ed), numE rec es s = some r → s.1.1.length ≤ r.1.1.length
  | [], s, r, h => by simp only [numE, Option.some.injEq] at h; subst h; exact Nat.le_refl _
  | e :: es, s, r, h => by
    simp only [numE] at h
    cases h1 : rec s.1 e.2 with
    | none => rw [h1] at h; cases h
    | some q =>
      rw [h1] at h
      have h2 := numE_len hr es _ _ h
      exact Nat.le_trans (hr _ _ _ h1) h2
theorem numN_len {N : List Nd} : ∀ (k : Nat) (s : NumS) (n : Nat) (r : NumS × Nat), numN N k s n = some r → s.1.length ≤ r.1.1.length := by
  intro k
  induction k with
  | zero => intro s n r h; cases h
  | succ k ih =>
    intro s n r h
    simp only [numN] at h
    cases h1 : lookN s.2 (nodeAt N n).id with
    | some t => rw [h1] at h; simp only [Option.some.injEq] at h; subst h; exact Nat.le_refl _
    | none =>
      rw [h1] at h
      dsimp only at h
      cases h2 : numE (numN N k) (nodeAt N n).edges ((s.1 ++ [⟨(nodeAt N n).final, []⟩], s.2 ++ [((nodeAt N n).id, s.1.length)]), []) with
      | none => rw [h2] at h; cases h
      | some q =>
        rw [h2] at h
        simp only [Option.some.injEq] at h
        subst h
        have := numE_len ih _ _ _ h2
        simp only [List.length_append, List.length_singleton] at this
        simp only [List.length_set]
        omega

/-- A call through a function value, as one step of a region that draws. -/
theorem step_call_val {P : Program} {ops : Array Oper} {o : Oper} {a : Act} {w : World} {K : Act → World → Prop} {Q : Exit → Act → World → Prop} {E : Prop}
    (hg : o.guard = none) (f : FuncId) (x : Operand) (args : List Operand) (ats : Array TypeId) (hop : o.op = Op.call { callee := Callee.value x, args := args.toArray, argTypes := ats })
    (hent : ∀ xs w, (callFunc f xs).run P w = .ok (.enter f xs) w) (caps : Array Value) (hx : a.eval x = .func (.func f) #[] caps) (xs : List Value) (hxs : args.map a.eval = xs)
    (h : Calls P f (xs.toArray ++ caps) w fun
      | .returned v, w'' => K (a.put o.dst v) w''
      | .panicked chain, w'' => Q (.panic chain) a w''
      | .outgrown, _ => LetsOut Q) : if Region.wanted o (yielded ops a.tmps) = true then Oper.wp P o a w K Q else E := by
  have hw : Region.wanted o (yielded ops a.tmps) = true := by simp [Region.wanted, hg]
  rw [if_pos hw]
  unfold Oper.wp
  subst hxs
  have hrun : (execOp a.eval o).run P w = .ok (.enter f ((args.map a.eval).toArray ++ caps)) w := by
    simp [execOp, hop, resolve, invoke, hx, Deferred.ofValue, hent]
  rw [hrun]
  exact h

abbrev tAS : TypeId := 62
abbrev tAE : TypeId := 64
theorem info_AS : (Try.prog.info? tAS).map (fun i => (i.zero, i.size, i.bytes)) = some (some (.agg #[.bool false, .slice none 0 0]), 2, 32) := by kernel_rfl
theorem info_AE : (Try.prog.info? tAE).map (fun i => (i.zero, i.size, i.bytes)) = some (some (.agg #[.int .u8 0, .int .i64 0]), 2, 16) := by kernel_rfl
abbrev tMI : TypeId := 107
abbrev tInt : TypeId := 3
abbrev tSl : TypeId := 22
abbrev tFn : TypeId := 153
theorem int_key : Keyed Try.prog tInt := Go.Maps.int_keyed Try.underlying3
abbrev plV (pl : List (Nat × Nat)) : List (Value × Value) := pl.map fun p => (.int .i64 p.1, .int .i64 p.2)
theorem plV_hit {M : List (Nat × Nat)} {k o : Nat} (h : lookN M k = some o) : ((Value.int .i64 k, Value.int .i64 o) : Value × Value) ∈ plV M := List.mem_map.2 ⟨_, lookN_some h, rfl⟩
theorem plV_miss {M : List (Nat × Nat)} {k : Nat} (h : lookN M k = none) : ∀ p ∈ plV M, p.1 ≠ Value.int .i64 k := by
  intro p hp e
  obtain ⟨q, hq, rfl⟩ := List.mem_map.1 hp
  apply lookN_none h q hq
  exact Int.ofNat_inj.1 (by simpa using e)
theorem keyOf_nat {n : Nat} (h : n ≤ 9223372036854775807) : keyOf Try.prog tInt (.int .i64 n) = some (.int .i64 n) :=
  Go.Maps.keyOf_int_mk Try.underlying3 (by simp [Lit.wf, IntKind.min, IntKind.max, IntKind.signed, IntKind.bits]; omega)
/-- What the walk keeps: its three variables, the places, the automaton so far, the nodes. -/
abbrev NumT (kp ko kv pb : Nat) (ov : Value) (xs : List (Sta × Value)) (pl : List (Nat × Nat)) (R : Thing) : Thing :=
  Both (CellT kp #[.map (some pb)] tMI) (Both (CellT ko #[ov] tSl) (Both (CellT kv #[.func (.func 71) #[] #[ptrN kp, ptrN ko, ptrN kv]] tFn) (Both (MapT Try.prog tInt pb (plV pl)) (Both (RowG tAS 2 ov xs.length (xs.flatMap stc)) (Both (EdsG tAE xs) R)))))
theorem NumT.stable {kp ko kv pb : Nat} {ov : Value} {xs : List (Sta × Value)} {pl : List (Nat × Nat)} {R : Thing} (h : Stable R) : Stable (NumT kp ko kv pb ov xs pl R) :=
  (CellT.stable _ _ _).both ((CellT.stable _ _ _).both ((CellT.stable _ _ _).both ((MapT.stable _ _ _ _).both ((RowG.stable _ _ _ _ _).both ((AllRows.stable _ _ _ _ _ _).both h)))))
theorem Both.inN {A k1 k2 k3 m r e T : Thing} {w : World} {fp : List Nat} (h : Both A (Both k1 (Both k2 (Both k3 (Both m (Both r (Both e T)))))) w fp) : Both k1 (Both k2 (Both k3 (Both m (Both r (Both e (Both A T)))))) w fp :=
  Both.mono (fun _ _ q => Both.mono (fun _ _ q => Both.mono (fun _ _ q => Both.mono (fun _ _ q => Both.mono (fun _ _ q => q.assoc) q.assoc) q.assoc) q.assoc) q.assoc) h.assoc
theorem Both.outN {A k1 k2 k3 m r e T : Thing} {w : World} {fp : List Nat} (h : Both k1 (Both k2 (Both k3 (Both m (Both r (Both e (Both A T)))))) w fp) : Both A (Both k1 (Both k2 (Both k3 (Both m (Both r (Both e T)))))) w fp :=
  Both.assoc (Both.mono (fun _ _ q => Both.assoc (Both.mono (fun _ _ q => Both.assoc (Both.mono (fun _ _ q => Both.assoc (Both.mono (fun _ _ q => Both.assoc (Both.mono (fun _ _ q => q.assoc) q)) q)) q)) q)) h)
theorem Both.pull5 {A B C D E F : Thing} {w : World} {fp : List Nat} (h : Both A (Both B (Both C (Both D (Both E F)))) w fp) : Both E (Both A (Both B (Both C (Both D F)))) w fp :=
  Both.assoc (Both.mono (fun _ _ q => Both.assoc (Both.mono (fun _ _ q => q.pull3) q)) h)
theorem Both.push5 {A B C D E F : Thing} {w : World} {fp : List Nat} (h : Both E (Both A (Both B (Both C (Both D F)))) w fp) : Both A (Both B (Both C (Both D (Both E F)))) w fp :=
  Both.mono (fun _ _ q => Both.mono (fun _ _ q => Both.mono (fun _ _ q => q.assoc) q.assoc) q.assoc) h.assoc
theorem Both.deepN {k1 k2 k3 m r e T T' : Thing} (hi : ∀ w fp, T w fp → T' w fp) {w : World} {fp : List Nat} (h : Both k1 (Both k2 (Both k3 (Both m (Both r (Both e T))))) w fp) : Both k1 (Both k2 (Both k3 (Both m (Both r (Both e T'))))) w fp :=
  Both.mono (fun _ _ q => Both.mono (fun _ _ q => Both.mono (fun _ _ q => Both.mono (fun _ _ q => Both.mono (fun _ _ q => Both.mono hi q) q) q) q) q) h
/-- A state that had no row gets its own. -/
theorem AllRows.setRow {α : Type} {e : TypeId} {size : Nat} {val : α → Value} {cells : α → List Value} {n : α → Nat} {xs : List α} {R : Thing} {w : World} {fp : List Nat} {i : Nat} {x y : α} (hx : xs[i]? = some x) (hv : rowOf (val x) = [])
    (q : Both (RowG e size (val y) (n y) (cells y)) (Both (AllRows e size val cells n xs) R) w fp) : Both (AllRows e size val cells n (xs.set i y)) R w fp := by
  obtain ⟨f, g, ⟨h1, rfl⟩, ⟨f2, g2, ⟨h2, h3⟩, h4, h5, h6⟩, h7, h8⟩ := q
  obtain ⟨hi, rfl⟩ := List.getElem?_eq_some_iff.1 hx
  have hmem : ∀ z ∈ xs.set i y, z = y ∨ z ∈ xs := fun z hz => (List.mem_or_eq_of_mem_set hz).symm
  have hy : y ∈ xs.set i y := List.mem_set hi y
  refine ⟨rowOf (val y) ++ f2, g2, ⟨fun z hz => ?_, fun k => ?_⟩, h4, fun k hk hk' => ?_, fun k => ?_⟩
  · rcases hmem z hz with rfl | hz
    · exact h1
    · exact h2 z hz
  · rw [List.mem_append, h3]
    constructor
    · rintro (hk | ⟨z, hz, hk⟩)
      · exact ⟨y, hy, hk⟩
      · obtain ⟨j, hj, rfl⟩ := List.getElem_of_mem hz
        by_cases hij : j = i
        · subst hij; rw [hv] at hk; cases hk
        · exact ⟨xs[j], List.mem_iff_getElem.2 ⟨j, by simpa using hj, by rw [List.getElem_set_ne (fun e => hij e.symm)]⟩, hk⟩
    · rintro ⟨z, hz, hk⟩
      rcases hmem z hz with rfl | hz
      · exact .inl hk
      · exact .inr ⟨z, hz, hk⟩
  · rcases List.mem_append.1 hk with hk | hk
    · exact h7 k hk ((h6 k).2 (.inr hk'))
    · exact h5 k hk hk'
  · rw [h8, h6, List.mem_append]
    constructor
    · rintro (h | h | h)
      · exact .inl (.inl h)
      · exact .inl (.inr h)
      · exact .inr h
    · rintro ((h | h) | h)
      · exact .inl h
      · exact .inr (.inl h)
      · exact .inr (.inr h)
theorem stc_set {xs : List (Sta × Value)} {i : Nat} {x : Sta × Value} (hx : xs[i]? = some x) (v : Value) : ∀ es, (xs.flatMap stc).set (i * 2 + 1) v = (xs.set i (⟨x.1.final, es⟩, v)).flatMap stc := by
  intro es
  induction xs generalizing i with
  | nil => simp at hx
  | cons y xs ih =>
    cases i with
    | zero =>
      simp at hx
      subst hx
      rfl
    | succ i =>
      have ih := ih (i := i) (by simpa using hx)
      have e1 : (i + 1) * 2 + 1 = (i * 2 + 1) + 1 + 1 := by omega
      simp only [List.flatMap_cons, List.set_cons_succ]
      rw [e1, ← ih]
      rfl
theorem x1_set (xs ys : List (Sta × Value)) (x y : Sta × Value) : (xs ++ [x] ++ ys).set xs.length y = xs ++ (y :: ys) := by simp
theorem x1_get (xs ys : List (Sta × Value)) (x : Sta × Value) : (xs ++ [x] ++ ys)[xs.length]? = some x := by simp
end Go.Proofs.Ythjkfiniafblbaa
