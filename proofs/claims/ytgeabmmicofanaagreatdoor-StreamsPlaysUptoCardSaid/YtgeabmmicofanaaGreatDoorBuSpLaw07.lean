/- The program's failures: package variables that hold errors, each its own. · The twelve failures of the records' rows (written by port/recsent.py). -/
import Derived.Test.YtgeabmmicofanaaGreatDoorRows
import Derived.Test.YtgeabmmicofanaaGreatDoorProg
import Derived.LaidLaws
import Derived.LaidEql
import Derived.ProofKit
import Derived.Below
import Derived.Lib.Hide
set_option linter.unusedSimpArgs false
set_option linter.unusedVariables false
namespace Go.Proofs.YtgeabmmicofanaaGreatDoor
open Go.ChangeShapes Go.WideShapes Go.RowKit

abbrev tES : TypeId := 161
abbrev tErr : TypeId := 58
theorem nameES : "*" ++ "errors.errorString" = "*errors.errorString" := by decide
theorem rowES (u : TypeId) (h : Tryz.prog.typeName? 3 u = some "*errors.errorString") : u = tES :=
  typeName_ptr_named (nm := "errors.errorString") (by rw [nameES]; kernel_rfl) (by kernel_rfl) (by decide) u (by rw [nameES]; exact h)
theorem cellsES : Tryz.prog.cellsOf 175 = 1 := by kernel_rfl
theorem cellsStr : Tryz.prog.cellsOf 9 = 1 := by kernel_rfl

/-- A sentinel as the rows list it. -/
def sentD (x : String × List UInt8) : String × DataW Unit := (x.1, .iface "*errors.errorString" (.ptr (.agg [.lit (.string x.2)])))

/-- A listed variable and what it holds. -/
def SentAt (P : Program) (tp : TypeId) (W : World) (n : String) (a : Addr) : Prop :=
  ∃ g, P.globalNamed n = some g ∧ W.cell? ⟨g, 0, none⟩ = some (.iface tp (.pointer (some a))) ∧ (∃ c t, W.heap[a.block]? = some (.cells c t (0, 0))) ∧ a.spot = none

theorem sents_of {P : Program} {ti tp te ts : TypeId} {ms : Array (String × TypeId)} {f : Field} (hi : P.underlying ti = some (.interface ms)) (hrow : ∀ u, P.typeName? 3 u = some "*errors.errorString" → u = tp)
    (hp : P.underlying tp = some (.pointer te)) (he : P.underlying te = some (.struct #[f])) (hft : f.type = ts) (hfo : f.offset = 0) (hs : P.underlying ts = some .string) (hc : P.cellsOf te = 1) (hcs : P.cellsOf ts = 1) {W : World} :
    ∀ (l : List (String × List UInt8)) (ps : List MemPlace), (∀ x ∈ l, ∃ g, P.globalNamed x.1 = some g ∧ (P.globals[g]?).map (·.type) = some ti) → DataW.LaidVars P W (l.map sentD) ps →
    (∀ b off, MemPlace.cell b off ∈ ps → (∃ c t, W.heap[b]? = some (.cells c t (0, 0))) ∧ ∀ u v, W.cell? ⟨b, off, none⟩ = some (.iface u v) → Value.okWide P W .any 0 u v) →
    ∃ al : List Addr, (al.map fun a => MemPlace.cell a.block a.off).Sublist ps ∧ al.length = l.length ∧ ∀ (i : Nat) (n : String), (l.map (·.1))[i]? = some n → ∃ a, al[i]? = some a ∧ SentAt P tp W n a
  | [], ps, _, h, _ => by
    have h' : ps = [] := h
    subst h'
    exact ⟨[], by simp, rfl, fun i n hi => by simp at hi⟩
  | x :: l, ps, hg, h, hrows => by
    obtain ⟨g0, t0, cs0, f0, p0, q0, hg0, ht0, hv0, hd0, hr, e0⟩ := h
    obtain ⟨g, hgg, hgt⟩ := hg x (by simp)
    obtain rfl := Option.some.inj (hgg.symm.trans hg0)
    obtain rfl := Option.some.inj (hgt.symm.trans ht0)
    obtain ⟨l0⟩ := cs0
    have ok0 : ∀ u v, l0 = [.iface u v] → Value.okWide P W .any 0 u v := fun u v e => by
      subst e
      exact (hrows g 0 (by rw [e0]; simp [MemPlace.row])).2 u v (by simpa using World.var?_cell hg0 hv0 0)
    obtain ⟨a, s, rfl, hcc, hss, hz, rfl⟩ := errorString_of_trod hi hrow hp he hft hfo hs hc hcs hd0 ok0
    obtain ⟨al, h1, h2, h3⟩ := sents_of hi hrow hp he hft hfo hs hc hcs l q0 (fun y hy => hg y (by simp [hy])) hr (fun b off hm => hrows b off (by rw [e0]; simp [hm]))
    have hrw : MemPlace.row a 1 = [.cell a.block a.off] := by simp [MemPlace.row]
    refine ⟨a :: al, ?_, by simp [h2], fun i n hi => ?_⟩
    · rw [e0, List.append_assoc]
      refine List.Sublist.trans ?_ (List.sublist_append_right _ _)
      rw [hrw, List.map_cons]
      exact h1.cons_cons _
    · cases i with
      | zero =>
        simp only [List.map_cons, List.getElem?_cons_zero, Option.some.injEq] at hi
        subst hi
        exact ⟨a, rfl, g, hgg, by simpa using World.var?_cell hg0 hv0 0, (hrows a.block a.off (by rw [e0, hrw]; simp)).1, World.cell?_spot hcc⟩
      | succ i =>
        obtain ⟨a', h4, h5⟩ := h3 i n (by simpa using hi)
        exact ⟨a', by simpa using h4, h5⟩

/-- The failures by the reference's numbers, and the variables that hold them. -/
def failsAll : List (Nat × Nat) := [(1, 2), (3, 4), (4, 5), (5, 8), (6, 9), (7, 1), (8, 0), (9, 3)]
def fails6 : List (Nat × Nat) := [(1, 2), (3, 4), (4, 5), (7, 1), (8, 0), (9, 3)]

/-- The failures of a list in memory: e gives each one's address. -/
structure Fails (W : World) (e : Nat → Nat × Nat) (fl : List (Nat × Nat)) : Prop where
  cell : ∀ x ∈ fl, W.cell? ⟨x.2, 0, none⟩ = some (.iface tES (.pointer (some ⟨(e x.1).1, (e x.1).2, none⟩)))
  block : ∀ x ∈ fl, ∃ c t, W.heap[(e x.1).1]? = some (.cells c t (0, 0))
  ne : ∀ x ∈ fl, ∀ y ∈ fl, x.1 ≠ y.1 → e x.1 ≠ e y.1
theorem Fails.below {W W' : World} {e : Nat → Nat × Nat} {fl : List (Nat × Nat)} (h : Fails W e fl) (hb : Below W.heap.size W W') : Fails W' e fl :=
  ⟨fun x hx => by rw [hb.cell (p := ⟨x.2, 0, none⟩) (World.block_lt_of_cell? W ⟨x.2, 0, none⟩ (h.cell x hx))]; exact h.cell x hx,
   fun x hx => by obtain ⟨c, t, h1⟩ := h.block x hx; exact ⟨c, t, by rw [hb.block _ (Array.getElem?_eq_some_iff.1 h1).1]; exact h1⟩, h.ne⟩
theorem Fails.less {W : World} {e : Nat → Nat × Nat} {fl fl' : List (Nat × Nat)} (h : Fails W e fl) (hs : ∀ x ∈ fl', x ∈ fl) : Fails W e fl' :=
  ⟨fun x hx => h.cell x (hs x hx), fun x hx => h.block x (hs x hx), fun x hx y hy => h.ne x (hs x hx) y (hs y hy)⟩

/-- An error as a value: 0 is none. -/
def errV (e : Nat → Nat × Nat) (c : Nat) : Value := if c = 0 then .nilIface else .iface tES (.pointer (some ⟨(e c).1, (e c).2, none⟩))

theorem pairwise_of {al : List Addr} {ps : List MemPlace} (h : (al.map fun a => MemPlace.cell a.block a.off).Sublist ps) (hn : ps.Nodup) : (al.map fun a => (a.block, a.off)).Nodup := by
  have h1 := h.nodup hn
  rw [List.nodup_iff_pairwise_ne, List.pairwise_map] at h1 ⊢
  exact h1.imp fun hne e => hne (by simp only [Prod.mk.injEq] at e; rw [e.1, e.2])

theorem sentAt_cell {P : Program} {tp : TypeId} {W : World} {n : String} {a : Addr} {g : Nat} (h : SentAt P tp W n a) (hg : P.globalNamed n = some g) : W.cell? ⟨g, 0, none⟩ = some (.iface tp (.pointer (some ⟨a.block, a.off, none⟩))) ∧ ∃ c t, W.heap[a.block]? = some (.cells c t (0, 0)) := by
  obtain ⟨g', h1, h2, h3, h4⟩ := h
  obtain rfl := Option.some.inj (hg.symm.trans h1)
  obtain ⟨b, o, sp⟩ := a
  have h4' : sp = none := h4
  subst h4'
  exact ⟨h2, h3⟩

/-- A list of numbers, names, variables: what 'laid' gives. -/
theorem fails_of {P : Program} {W : World} {fl : List (Nat × Nat)} {al : List Addr} {ns : List String} (tp : TypeId)
    (h : ∀ (i : Nat) (n : String), ns[i]? = some n → ∃ a, al[i]? = some a ∧ SentAt P tp W n a)
    (hn : ∀ (i : Nat) (x : Nat × Nat), fl[i]? = some x → ∃ n, ns[i]? = some n ∧ P.globalNamed n = some x.2) (hd : (al.map fun a => (a.block, a.off)).Nodup) (hc : (fl.map (·.1)).Nodup) :
    ∃ e : Nat → Nat × Nat, (∀ x ∈ fl, W.cell? ⟨x.2, 0, none⟩ = some (.iface tp (.pointer (some ⟨(e x.1).1, (e x.1).2, none⟩)))) ∧ (∀ x ∈ fl, ∃ c t, W.heap[(e x.1).1]? = some (.cells c t (0, 0))) ∧ (∀ x ∈ fl, ∀ y ∈ fl, x.1 ≠ y.1 → e x.1 ≠ e y.1) := by
  let e : Nat → Nat × Nat := fun c => (al.map fun a => (a.block, a.off)).getD ((fl.map (·.1)).idxOf c) (0, 0)
  have key : ∀ (i : Nat) (x : Nat × Nat), fl[i]? = some x → ∃ a, al[i]? = some a ∧ e x.1 = (a.block, a.off) ∧ (W.cell? ⟨x.2, 0, none⟩ = some (.iface tp (.pointer (some ⟨a.block, a.off, none⟩))) ∧ ∃ c t, W.heap[a.block]? = some (.cells c t (0, 0))) := fun i x hx => by
    obtain ⟨n, h1, h2⟩ := hn i x hx
    obtain ⟨a, h3, h4⟩ := h i n h1
    refine ⟨a, h3, ?_, sentAt_cell h4 h2⟩
    have hi : i < fl.length := (List.getElem?_eq_some_iff.1 hx).1
    have hxi : (fl.map (·.1))[i]'(by simpa using hi) = x.1 := by
      have := (List.getElem?_eq_some_iff.1 hx).2
      simp [this]
    have hidx : (fl.map (·.1)).idxOf x.1 = i := by
      rw [← hxi]; exact hc.idxOf_getElem i (by simpa using hi)
    show (al.map fun a => (a.block, a.off)).getD ((fl.map (·.1)).idxOf x.1) (0, 0) = _
    rw [hidx, List.getD_eq_getElem?_getD, List.getElem?_map, h3]; rfl
  refine ⟨e, fun x hx => ?_, fun x hx => ?_, fun x hx y hy hne heq => ?_⟩
  · obtain ⟨i, hi⟩ := List.getElem?_of_mem hx
    obtain ⟨a, _, h2, h3, _⟩ := key i x hi
    rw [h2]; exact h3
  · obtain ⟨i, hi⟩ := List.getElem?_of_mem hx
    obtain ⟨a, _, h2, _, h3⟩ := key i x hi
    rw [h2]; exact h3
  · obtain ⟨i, hi⟩ := List.getElem?_of_mem hx
    obtain ⟨j, hj⟩ := List.getElem?_of_mem hy
    obtain ⟨a, h1, h2, _⟩ := key i x hi
    obtain ⟨b, h3, h4, _⟩ := key j y hj
    rw [h2, h4] at heq
    have hij : i = j := by
      have hi' : i < al.length := (List.getElem?_eq_some_iff.1 h1).1
      have hj' : j < al.length := (List.getElem?_eq_some_iff.1 h3).1
      have e1 : (al.map fun a => (a.block, a.off))[i]'(by simpa using hi') = (a.block, a.off) := by simp [(List.getElem?_eq_some_iff.1 h1).2]
      have e2 : (al.map fun a => (a.block, a.off))[j]'(by simpa using hj') = (b.block, b.off) := by simp [(List.getElem?_eq_some_iff.1 h3).2]
      have hpw := List.pairwise_iff_getElem.1 (List.nodup_iff_pairwise_ne.1 hd)
      rcases Nat.lt_trichotomy i j with h | h | h
      · exact absurd (e1.trans (heq.trans e2.symm)) (hpw i j (by simpa using hi') (by simpa using hj') h)
      · exact h
      · exact absurd (e2.trans (heq.symm.trans e1.symm)) (hpw j i (by simpa using hj') (by simpa using hi') h)
    subst hij
    rw [hi] at hj
    cases hj
    exact hne rfl

/-- The listed variables of the rows that ask for six failures, and for all eight. -/
def names6 : List (String × List UInt8) := [("hornbook/api.FailNil", [110, 111, 32, 111, 98, 106, 101, 99, 116]), ("hornbook/api.FailNoRun", [110, 111, 32, 115, 117, 99, 104, 32, 114, 117, 110]), ("hornbook/api.FailSealed", [116, 104, 101, 32, 114, 117, 110, 32, 105, 115, 32, 115, 101, 97, 108, 101, 100]), ("hornbook/api.FailFull", [116, 104, 101, 32, 115, 116, 111, 114, 101, 32, 105, 115, 32, 102, 117, 108, 108]), ("hornbook/api.FailSpent", [110, 111, 32, 114, 117, 110, 32, 110, 117, 109, 98, 101, 114, 32, 105, 115, 32, 108, 101, 102, 116]), ("hornbook/api.FailBroken", [116, 104, 101, 32, 115, 116, 111, 114, 101, 32, 114, 101, 102, 117, 115, 101, 100, 32, 97, 32, 115, 116, 101, 112])]
end Go.Proofs.YtgeabmmicofanaaGreatDoor
namespace Go.Proofs.YtgeabmmicofanaaGreatDoor
open Go.ChangeShapes Go.WideShapes Go.RowKit

def names10 : List (String × List UInt8) := [("hornbook/api.FailNil", [110, 111, 32, 111, 98, 106, 101, 99, 116]), ("hornbook/api.FailLimits", [97, 32, 110, 117, 109, 98, 101, 114, 32, 111, 117, 116, 32, 111, 102, 32, 105, 116, 115, 32, 114, 97, 110, 103, 101]), ("hornbook/api.FailNoRun", [110, 111, 32, 115, 117, 99, 104, 32, 114, 117, 110]), ("hornbook/api.FailSealed", [116, 104, 101, 32, 114, 117, 110, 32, 105, 115, 32, 115, 101, 97, 108, 101, 100]), ("hornbook/api.FailOpen", [116, 104, 101, 32, 114, 117, 110, 32, 105, 115, 32, 110, 111, 116, 32, 115, 101, 97, 108, 101, 100]), ("hornbook/api.FailRange", [110, 111, 32, 115, 117, 99, 104, 32, 112, 108, 97, 99, 101, 32, 105, 110, 32, 116, 104, 101, 32, 114, 117, 110]), ("hornbook/api.FailFull", [116, 104, 101, 32, 115, 116, 111, 114, 101, 32, 105, 115, 32, 102, 117, 108, 108]), ("hornbook/api.FailSpent", [110, 111, 32, 114, 117, 110, 32, 110, 117, 109, 98, 101, 114, 32, 105, 115, 32, 108, 101, 102, 116]), ("hornbook/api.FailBroken", [116, 104, 101, 32, 115, 116, 111, 114, 101, 32, 114, 101, 102, 117, 115, 101, 100, 32, 97, 32, 115, 116, 101, 112]), ("hornbook/api.FailTorn", [116, 104, 101, 32, 114, 117, 110, 32, 105, 115, 32, 116, 111, 114, 110])]
def fails10 : List (Nat × Nat) := [(1, 2), (2, 6), (3, 4), (4, 5), (5, 8), (6, 9), (7, 1), (8, 0), (9, 3), (11, 7)]
theorem gt_names10 : ∀ x ∈ names10, ∃ g, Tryz.prog.globalNamed x.1 = some g ∧ (Tryz.prog.globals[g]?).map (·.type) = some tErr := by
  intro x hx
  simp only [names10, List.mem_cons, List.not_mem_nil, or_false] at hx
  rcases hx with rfl | rfl | rfl | rfl | rfl | rfl | rfl | rfl | rfl | rfl
  · exact ⟨2, by kernel_rfl, by kernel_rfl⟩
  · exact ⟨6, by kernel_rfl, by kernel_rfl⟩
  · exact ⟨4, by kernel_rfl, by kernel_rfl⟩
  · exact ⟨5, by kernel_rfl, by kernel_rfl⟩
  · exact ⟨8, by kernel_rfl, by kernel_rfl⟩
  · exact ⟨9, by kernel_rfl, by kernel_rfl⟩
  · exact ⟨1, by kernel_rfl, by kernel_rfl⟩
  · exact ⟨0, by kernel_rfl, by kernel_rfl⟩
  · exact ⟨3, by kernel_rfl, by kernel_rfl⟩
  · exact ⟨7, by kernel_rfl, by kernel_rfl⟩
theorem fails10_of {W : World} (h : laidMet Tryz.prog (names10.map sentD) W) : ∃ e, Fails W e fails10 := by
  obtain ⟨ps, h1, h2, h3⟩ := h
  obtain ⟨al, g1, _, g3⟩ := sents_of Tryz.underlying58 rowES Tryz.underlying161 Tryz.underlying175 rfl rfl Tryz.underlying9 cellsES cellsStr names10 ps gt_names10 h1 h3
  have hn : ∀ (i : Nat) (x : Nat × Nat), fails10[i]? = some x → ∃ n, (names10.map (·.1))[i]? = some n ∧ Tryz.prog.globalNamed n = some x.2 := fun i x hx => by
    match i with
    | 0 => cases hx; exact ⟨_, rfl, by kernel_rfl⟩
    | 1 => cases hx; exact ⟨_, rfl, by kernel_rfl⟩
    | 2 => cases hx; exact ⟨_, rfl, by kernel_rfl⟩
    | 3 => cases hx; exact ⟨_, rfl, by kernel_rfl⟩
    | 4 => cases hx; exact ⟨_, rfl, by kernel_rfl⟩
    | 5 => cases hx; exact ⟨_, rfl, by kernel_rfl⟩
    | 6 => cases hx; exact ⟨_, rfl, by kernel_rfl⟩
    | 7 => cases hx; exact ⟨_, rfl, by kernel_rfl⟩
    | 8 => cases hx; exact ⟨_, rfl, by kernel_rfl⟩
    | 9 => cases hx; exact ⟨_, rfl, by kernel_rfl⟩
    | i + 10 => simp [fails10] at hx
  obtain ⟨e, f1, f2, f3⟩ := fails_of (fl := fails10) tES g3 hn (pairwise_of g1 h2) (by decide)
  exact ⟨e, f1, f2, f3⟩

end Go.Proofs.YtgeabmmicofanaaGreatDoor
