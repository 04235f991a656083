/- StreamsPlays: a node made: its stream, the document's list, how many parts; what stays true of it. · StreamsPlays: a run created, appended to and sealed holds its text; hornbooklaw08.first walked. -/
import Derived.Test.YtgeabmmicofanaaGreatDoorBuSpLaw24
import Derived.Test.YtgeabmmicofanaaGreatDoorBuSpLaw37
import Derived.Test.YtgeabmmicofanaaGreatDoorBuSpLaw39
import Derived.Test.YtgeabmmicofanaaGreatDoorBuSpLaw48
import Derived.Test.YtgeabmmicofanaaGreatDoorBuSpLaw19
import Derived.Test.YtgeabmmicofanaaGreatDoorBuSpLaw23
import Derived.Test.YtgeabmmicofanaaGreatDoorBuSpLaw42
set_option linter.unusedSimpArgs false
set_option linter.unusedVariables false
namespace Go.Proofs.YtgeabmmicofanaaGreatDoor
open Go.RowKit

abbrev RunsOf := List (Nat × List UInt8)
def HoldsT (S : St) (rs : RunsOf) : Prop := ∀ q ∈ rs, HasT S q.1 q.2
/-- What is said of a node that stands in memory N, whatever the store b holds beside the runs rs. -/
structure NdOk (W : World) (b : Nat) (rs : RunsOf) (N : Thing) (d : Nd) : Prop where
  str : ∀ S, HoldsT S rs → IsStr W (Both N (StoreT b S)) d.u d.L
  want : ∀ w' R, At W w' (Both N R) → RdRow w' d.wv d.L.length 1 (strs d.L)
  one : d.u.oneCell' = true
  rises : RisesL d.L
  p1 : 1 ≤ d.p
  len : d.L.length ≤ d.p * 67108864
theorem At.cells_ne {W w : World} {R : Thing} {a c : Nat} {x y : Array Value} {t s : TypeId} (h : At W w (Both (CellT a x t) (Both (CellT c y s) R))) : a ≠ c := by
  obtain ⟨_, fp, ⟨f, g, ⟨_, h1⟩, ⟨f2, g2, ⟨_, h2⟩, _, _, h4⟩, h5, _⟩, _⟩ := h
  subst h1 h2
  intro e
  subst e
  exact h5 a (by simp) ((h4 a).2 (.inl (by simp)))
theorem cell_setP {w : World} {g s o : Nat} {u : Option Value} {v : Value} (hne : g ≠ s) (h : w.cell? ⟨g, o, none⟩ = u) : (w.setCell ⟨s, 0, none⟩ v).cell? ⟨g, o, none⟩ = u := by
  rw [← h]
  simp [World.cell?, World.setCell, Array.getElem?_modify, Ne.symm hne]
section
variable {W : World} {b : Nat} {rs rs' : RunsOf} {N M : Thing} {d : Nd}
theorem NdOk.zero : NdOk W b rs N Nd.zero :=
  ⟨fun _ _ => .inl ⟨rfl, rfl⟩, fun _ _ _ => ⟨rfl, none, 0, rfl, Nat.le_refl _, by simp [maxLen], fun j u hj => by simp [Nd.zero, strs] at hj⟩, rfl, List.Pairwise.nil, Nat.le_refl _, by simp [Nd.zero]⟩
theorem NdOk.mono (h : NdOk W b rs N d) (hN : Stable N) (hM : Stable M) (hrs : ∀ q ∈ rs, q ∈ rs') : NdOk W b rs' (Both M N) d :=
  ⟨fun S hS => ((h.str S fun q hq => hS q (hrs q hq)).frame (hN.both (StoreT.stable b S)) hM).perm (by ac_rfl), fun w' R hw => h.want w' (Both M R) (hw.perm (by ac_rfl)), h.one, h.rises, h.p1, h.len⟩
theorem HoldsT.nil {S : St} : HoldsT S [] := fun _ h => by cases h
theorem HoldsT.create {S : St} (h : HoldsT S rs) : HoldsT (createP S).1 rs := fun q hq => (h q hq).create
theorem HoldsT.append {S : St} (h : HoldsT S rs) (z : Int) (t : List UInt8) : HoldsT (appendP S z t).1 rs := fun q hq => (h q hq).append z t
theorem HoldsT.seal {S : St} (h : HoldsT S rs) (z : Int) : HoldsT (sealP S z).1 rs := fun q hq => (h q hq).seal z
theorem strs2 {vs vt : Value} {L M : List (List UInt8)} {Φ : Thing} (hs : IsStr W Φ vs L) (ht : IsStr W Φ vt M) : IsStrs W Φ [vs, vt] [L, M] := ⟨rfl, fun i v K hv hK => by
  match i with
  | 0 => simp at hv hK; subst hv hK; exact hs
  | 1 => simp at hv hK; subst hv hK; exact ht
  | i + 2 => simp at hv⟩
theorem NdOk.mk2 {M : Thing} {u v : Value} {L : List (List UInt8)} {p : Nat} (hK : ∀ S2, HoldsT S2 rs → IsStr W (Both (Both M N) (StoreT b S2)) u L) (hw : ∀ w' R, At W w' (Both (Both M N) R) → RdRow w' v L.length 1 (strs L)) (h1 : u.oneCell' = true) (hr : RisesL L) (hp : 1 ≤ p) (hl : L.length ≤ p * 67108864) :
    NdOk W b rs (Both M N) ⟨u, v, L, p⟩ := ⟨hK, hw, h1, hr, hp, hl⟩
theorem row_want {Nn : Thing} {v : Value} {L : List (List UInt8)} {w' : World} {R : Thing} (h : At W w' (Both (Both (Both (RowG tTx 1 v L.length (strs L)) Nn) N) R)) : RdRow w' v L.length 1 (strs L) :=
  RdRow.of_own (h.perm (show _ = Both (RowG tTx 1 v L.length (strs L)) (Both Nn (Both N R)) by ac_rfl)).rowG
theorem IsStr.more {Φ M : Thing} {u : Value} {L : List (List UInt8)} (h : IsStr W Φ u L) (hΦ : Stable Φ) (hM : Stable M) {Ψ : Thing} (e : Both M Φ = Ψ) : IsStr W Ψ u L := (h.frame hΦ hM).perm e
end
end Go.Proofs.YtgeabmmicofanaaGreatDoor
namespace Go.Proofs.YtgeabmmicofanaaGreatDoor
open Go.RowKit

theorem create_find {S : St} (hG : GoodS S) (h : (createP S).2.2 = 0) : (createP S).1.find ((createP S).2.1 : Int) = some ((createP S).2.1, ⟨[], false⟩) := by
  unfold createP at h ⊢
  split at h
  · cases h
  · rename_i h1
    split at h
    · cases h
    · rename_i h2
      rw [if_neg h1, if_neg h2]
      unfold St.find
      simp only [createS, stepS]
      rw [List.find?_append]
      have hn : (S.runs.find? fun q => decide ((q.1 : Int) = ((S.made + 1 : Nat) : Int))) = none := by
        rw [List.find?_eq_none]
        intro q hq
        have := (hG.inside q hq).2
        simp
        omega
      rw [hn]
      simp
theorem find_stepS (S : St) (z : Int) : (stepS S).find z = S.find z := rfl
theorem append_find {S : St} {z : Nat} {t t' : List UInt8} (h : S.find (z : Int) = some (z, ⟨t, false⟩)) (hc : (appendP S z t').2 = 0) : (appendP S z t').1.find (z : Int) = some (z, ⟨t ++ t', false⟩) := by
  unfold appendP withRun at hc ⊢
  split at hc
  · cases hc
  · rename_i h1
    rw [if_neg h1]
    rw [h] at hc ⊢
    dsimp only at hc ⊢
    rw [if_neg (by simp)] at hc ⊢
    split at hc
    · cases hc
    · rename_i h2
      rw [if_neg h2]
      show ((stepS S).setRun z ⟨t ++ t', false⟩).find (z : Int) = _
      rw [find_setRun, find_stepS, h]
      simp
theorem seal_find {S : St} {z : Nat} {t : List UInt8} (h : S.find (z : Int) = some (z, ⟨t, false⟩)) (hc : (sealP S z).2 = 0) : HasT (sealP S z).1 z t := by
  unfold sealP withRun at hc ⊢
  split at hc
  · cases hc
  · rename_i h1
    rw [if_neg h1]
    rw [h]
    dsimp only
    rw [if_neg (by simp)]
    exact ⟨(z, ⟨t, true⟩), by rw [find_setRun, find_stepS, h]; simp, rfl⟩
theorem made_has {S : St} (hG : GoodS S) {T : List UInt8} {z : Nat} (hz : (createP S).2.1 = z) (h1 : (createP S).2.2 = 0) (h2 : (appendP (createP S).1 z T).2 = 0) (h3 : (sealP (appendP (createP S).1 z T).1 z).2 = 0) :
    HasT (sealP (appendP (createP S).1 z T).1 z).1 z T := by
  have h := create_find hG h1
  rw [hz] at h
  have h4 := append_find h h2
  rw [List.nil_append] at h4
  exact seal_find h4 h3
theorem frame_sum : ∀ {ss : List (List UInt8)}, (∀ r ∈ ss, r.length ≤ 1048576) → (frameL ss).length ≤ 10 * ss.length + sumLen ss
  | [], _ => by simp [frameL, sumLen]
  | r :: ss, h => by
    have h1 := frame_sum (ss := ss) fun x hx => h x (by simp [hx])
    have h2 := h r (by simp)
    have h3 := uintL_length10 (n := r.length) (by omega)
    have e : frameL (r :: ss) = uintL r.length ++ r ++ frameL ss := by simp [frameL]
    rw [e, List.length_append, List.length_append, List.length_cons]
    have e2 : sumLen (r :: ss) = r.length + sumLen ss := by simp [sumLen]
    omega
theorem mem_sum : ∀ {ss : List (List UInt8)}, ∀ r ∈ ss, r.length ≤ sumLen ss
  | x :: ss, r, h => by
    have e2 : sumLen (x :: ss) = x.length + sumLen ss := by simp [sumLen]
    rcases List.mem_cons.1 h with rfl | h
    · omega
    · have := mem_sum (ss := ss) r h; omega
theorem frameR_len {ss : List (List UInt8)} (h : ss.length + sumLen ss ≤ 1048576) : (frameL ss).length ≤ 12582912 ∧ (frameR ss).1.length ≤ 12582912 := by
  have h1 := frame_sum (ss := ss) fun r hr => by have := mem_sum r hr; omega
  refine ⟨by omega, ?_⟩
  unfold frameR
  split
  · show (frameL ss).length ≤ _; omega
  · simp
theorem create_z {S : St} (hG : GoodS S) (h : (createP S).2.2 = 0) : (createP S).2.1 ≤ 16777216 := by
  have h1 := (find_mem (create_find hG h)).1
  have h2 := hG.create.inside _ h1
  have h3 := hG.create.sizes
  dsimp only at h2
  omega
set_option maxRecDepth 100000 in
set_option maxHeartbeats 1600000 in
theorem first8_calls (ss : List (List UInt8)) (v : Value) (w : World) (hv : RdRow w v ss.length 1 (strs ss)) :
    Calls Tryz.prog 19 #[v] w fun e w' => e = .returned (.string ⟨(ss.headD []).toArray⟩) ∧ w' = w := by
  obtain ⟨a, cap, rfl, _, _⟩ := hv.shape
  match ss, hv with
  | [], _ =>
    go_enter Tryz.func19, Tryz.ntmps19
    (repeat' (first | (go_big_may; fail) | go_values | go_skip | go_guarded | go_step | go_upon | go_back | dsimp only))
    go_ret
    exact ⟨rfl, rfl⟩
  | x :: l, hv =>
    obtain ⟨g, off, cp, hsl, hc⟩ := hv.str (k := 0) (r := x) rfl
    cases hsl
    have hn : ((l.length + 1 : Nat) == 0) = false := by simp
    have hn2 : ((((l.length + 1 : Nat)) : Int) == 0) = false := by rw [beq_eq_false_iff_ne]; omega
    have hc0 : w.cell? ⟨g, off, none⟩ = some (.string ⟨x.toArray⟩) := hc
    have h0 : (0 : Int) < ((l.length + 1 : Nat) : Int) := by omega
    have h1 : 0 < l.length + 1 := by omega
    clear hv
    show Calls Tryz.prog _ #[.slice (some ⟨g, off, none⟩) (l.length + 1) cap] w _
    generalize l.length + 1 = n at *
    go_enter Tryz.func19, Tryz.ntmps19
    (repeat' (first | (go_big_may; fail) | go_values | go_skip | go_guarded | go_step | go_upon | go_back | dsimp only))
    go_ret
    exact ⟨rfl, rfl⟩
end Go.Proofs.YtgeabmmicofanaaGreatDoor
