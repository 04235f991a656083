/- The builder of automata in memory. -/
import Derived.Test.YthjkfiniafblbaaCellT
import Derived.Test.YthjkfiniafblbaaMapT
import Derived.Test.YthjkfiniafblbaaDawgP
import Derived.Test.YthjkfiniafblbaaStructRows
import Derived.Test.YthjkfiniafblbaaAutG
import Derived.Test.YthjkfiniafblbaaWByte
import Derived.Test.YthjkfiniafblbaaUint
import Derived.Test.YthjkfiniafblbaaShelf
import Derived.Test.YthjkfiniafblbaaStill
import Derived.DeepKeys4
import Derived.Deep.RegionHeld3
import Derived.Deep.QuietTactic
import Derived.BigQuiet
import Derived.BigRegion
import Derived.Lib.Hide
namespace Go.Proofs.Ythjkfiniafblbaa
open Go.RowKit Go.WideMaps
open Go.Maps (Keyed)

abbrev tNd : TypeId := 136
abbrev tEg : TypeId := 150
abbrev tBd : TypeId := 140
abbrev tKy : TypeId := 152
abbrev tPN : TypeId := 133
theorem info_Eg : (Try.prog.info? tEg).map (fun i => (i.zero, i.size, i.bytes)) = some (some (.agg #[.int .u8 0, .pointer none]), 2, 16) := by kernel_rfl
theorem info_PN : (Try.prog.info? tPN).map (fun i => (i.zero, i.size, i.bytes)) = some (some (.pointer none), 1, 8) := by kernel_rfl
theorem laidOut_key : laidOutB Try.prog = true := by kernel_rfl
theorem row_key : (tKy : TypeId) < Try.prog.types.size := of_decide_eq_true (by kernel_rfl)
theorem types_pos : 0 < Try.prog.types.size := of_decide_eq_true (by kernel_rfl)
theorem key_keyed : Keyed Try.prog tKy := Keyed.of_law (deep_law_laid laidOut_key (m := 2) (by omega) row_key (by kernel_rfl) (by rw [Try.underlying152]))

abbrev ptrN (b : Nat) : Value := .pointer (some ⟨b, 0, none⟩)
abbrev egc (bl : Nat → Nat) (e : UInt8 × Nat) : List Value := [bv e.1, ptrN (bl e.2)]
theorem egc_len (bl : Nat → Nat) : ∀ e, (egc bl e).length = 2 := fun _ => rfl
/-- A key as a value. -/
abbrev keyV (k : NdKey) : Value := .agg #[.bool k.1, .string ⟨k.2.toArray⟩]
theorem keyV_inj {a b : NdKey} (h : keyV a = keyV b) : a = b := by
  obtain ⟨a1, a2⟩ := a
  obtain ⟨b1, b2⟩ := b
  simpa [keyV] using h
theorem keyLits_bool1 {P : Program} {t : TypeId} (d : Nat) (hu : P.underlying t = some .bool) (b : Bool) : P.keyLits (d + 1) t [.bool b] = some [.bool b] := by simp [Program.keyLits, hu]
theorem keyLits_str1 {P : Program} {t : TypeId} (d : Nat) (hu : P.underlying t = some .string) (s : ByteArray) (hs : s.size ≤ maxLen) : P.keyLits (d + 1) t [.string s] = some [.string s.data.toList] := by simp [Program.keyLits, hu, hs]
theorem keyOf_key (k : NdKey) (h : k.2.length ≤ maxLen) : ∃ kl, keyOf Try.prog tKy (keyV k) = some kl := by
  have e1 : Try.prog.keyType tKy = true := by kernel_rfl
  have c0 : Try.prog.cellsOf tKy = 2 := by kernel_rfl
  have c1 : Try.prog.cellsOf 4 = 1 := by kernel_rfl
  have c2 : Try.prog.cellsOf 9 = 1 := by kernel_rfl
  have e2 : (keyV k).formed Try.prog tKy = true := by simp [Value.formed, Try.underlying152, c0]
  obtain ⟨d, hd⟩ : ∃ d, Try.prog.types.size = d + 1 := Nat.exists_eq_add_one.2 types_pos
  have e3 : Try.prog.keyLits (Try.prog.types.size + 1) tKy (keyV k).cells.toList = some [.bool k.1, .string k.2] := by
    have k1 := keyLits_bool1 (P := Try.prog) d Try.underlying4 k.1
    have k2 := keyLits_str1 (P := Try.prog) d Try.underlying9 ⟨k.2.toArray⟩ (by simpa [ByteArray.size] using h)
    unfold Program.keyLits
    rw [hd, Try.underlying152]
    simp [c0, c1, c2, k1, k2, Value.cells]
  exact ⟨_, by simp only [keyOf, Try.underlying152, e1, e2, e3]; rfl⟩
/-- A node, its edges in the slice e. -/
abbrev NodeT (bl : Nat → Nat) (b : Nat) (e : Value) (nd : Nd) : Thing := Both (CellT b #[.bool nd.final, e, .int .i64 nd.id] tNd) (RowG tEg 2 e nd.edges.length (nd.edges.flatMap (egc bl)))
theorem NodeT.stable (bl : Nat → Nat) (b : Nat) (e : Value) (nd : Nd) : Stable (NodeT bl b e nd) := (CellT.stable _ _ _).both (RowG.stable _ _ _ _ _)
abbrev NodesT (bl : Nat → Nat) (ev : Nat → Value) (N : List Nd) : Thing := AllT (fun i => NodeT bl (bl i) (ev i) (nodeAt N i)) N.length
theorem NodesT.stable (bl : Nat → Nat) (ev : Nat → Value) (N : List Nd) : Stable (NodesT bl ev N) := AllT.stable fun _ _ => NodeT.stable _ _ _ _
abbrev HoleT (bl : Nat → Nat) (ev : Nat → Value) (N : List Nd) (n : Nat) : Thing := AllT (putT (fun i => NodeT bl (bl i) (ev i) (nodeAt N i)) n Nought) N.length
theorem HoleT.stable (bl : Nat → Nat) (ev : Nat → Value) (N : List Nd) (n : Nat) : Stable (HoleT bl ev N n) := AllT.stable fun i _ => by
  by_cases he : i = n
  · subst he; rw [putT_same]; exact Stable.nought
  · rw [putT_other he]; exact NodeT.stable _ _ _ _
/-- The known ones' entries. -/
abbrev knV (bl : Nat → Nat) (M : List (NdKey × Nat)) : List (Value × Value) := M.map fun p => (keyV p.1, ptrN (bl p.2))
abbrev FzT (bl : Nat → Nat) (ev : Nat → Value) (mb : Nat) (s : Fz) (R : Thing) : Thing := Both (MapT Try.prog tKy mb (knV bl s.known)) (Both (NodesT bl ev s.N) R)
theorem FzT.stable {bl : Nat → Nat} {ev : Nat → Value} {mb : Nat} {s : Fz} {R : Thing} (h : Stable R) : Stable (FzT bl ev mb s R) := (MapT.stable _ _ _ _).both ((NodesT.stable _ _ _).both h)
/-- f, but v at i. -/
def updF {α : Type} (f : Nat → α) (i : Nat) (v : α) : Nat → α := fun j => if j = i then v else f j
theorem updF_same {α : Type} {f : Nat → α} {i : Nat} {v : α} : updF f i v i = v := by simp [updF]
theorem updF_other {α : Type} {f : Nat → α} {i j : Nat} {v : α} (h : j ≠ i) : updF f i v j = f j := by simp [updF, h]
theorem updF_self {α : Type} {f : Nat → α} {i : Nat} : updF f i (f i) = f := by
  funext j
  by_cases h : j = i
  · subst h; rw [updF_same]
  · rw [updF_other h]

section
variable {W w : World} {R : Thing} {bl : Nat → Nat} {ev : Nat → Value} {N : List Nd}
theorem At.node (h : At W w (Both (NodesT bl ev N) R)) {i : Nat} (hi : i < N.length) :
    At W w (Both (CellT (bl i) #[.bool (nodeAt N i).final, ev i, .int .i64 (nodeAt N i).id] tNd) (Both (RowG tEg 2 (ev i) (nodeAt N i).edges.length ((nodeAt N i).edges.flatMap (egc bl))) (Both (HoleT bl ev N i) R))) :=
  (h.takeT hi).impl fun _ q => Both.unassoc q
theorem At.nodeBack {i : Nat} (hi : i < N.length) {nd : Nd} {e : Value} (h : At W w (Both (CellT (bl i) #[.bool nd.final, e, .int .i64 nd.id] tNd) (Both (RowG tEg 2 e nd.edges.length (nd.edges.flatMap (egc bl))) (Both (HoleT bl ev N i) R)))) :
    At W w (Both (NodesT bl (updF ev i e) (N.set i nd)) R) := by
  have h1 : At W w (Both (NodeT bl (bl i) e nd) (Both (HoleT bl ev N i) R)) := h.impl fun _ q => q.assoc'
  have h2 := h1.giveT hi
  have e : N.length = (N.set i nd).length := by simp
  rw [e] at h2
  refine h2.congrT fun j hj => ?_
  by_cases he : j = i
  · subst he
    rw [putT_same, nodeAt_set_same hi, updF_same]
  · rw [putT_other he, nodeAt_set_other (fun e => he e.symm), updF_other he]
theorem At.nodeBack0 {i : Nat} (hi : i < N.length) {nd : Nd} (h : At W w (Both (CellT (bl i) #[.bool nd.final, ev i, .int .i64 nd.id] tNd) (Both (RowG tEg 2 (ev i) nd.edges.length (nd.edges.flatMap (egc bl))) (Both (HoleT bl ev N i) R)))) :
    At W w (Both (NodesT bl ev (N.set i nd)) R) := by
  have h1 := h.nodeBack hi
  rwa [updF_self] at h1
end
/-- The builder's cells. -/
abbrev bdC (most : Int) (last : ByteArray) (any : Bool) (pv : Value) (mb : Nat) (st cnt : Int) : Array Value := #[.int .i64 most, .string last, .bool any, pv, .map (some mb), .int .i64 st, .int .i64 cnt]
abbrev pathV (bl : Nat → Nat) (path : List Nat) : List Value := path.map fun i => ptrN (bl i)
end Go.Proofs.Ythjkfiniafblbaa
