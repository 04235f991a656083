/- runs: Live walked. -/
import Derived.Test.YtadokkffmekndaaGreatDoorBuMgPlLaw13
import Derived.Test.YtadokkffmekndaaGreatDoorBuMgPlLaw14
import Derived.Maps.RangeWalk
set_option linter.unusedSimpArgs false
set_option linter.unusedVariables false
namespace Go.Proofs.YtadokkffmekndaaGreatDoor
open Go.RowKit
def St.keys (S : St) : List Int := S.runs.map fun p => (p.1 : Int)
theorem nodup_le : ∀ (l r : List Int), l.Nodup → (∀ x ∈ l, x ∈ r) → l.length ≤ r.length
  | [], r, _, _ => Nat.zero_le _
  | x :: l, r, hn, hs => by
    have hx := hs x (by simp)
    have h1 := nodup_le l (r.erase x) (List.nodup_cons.1 hn).2 (fun y hy => (List.mem_erase_of_ne (by rintro rfl; exact (List.nodup_cons.1 hn).1 hy)).2 (hs y (by simp [hy])))
    rw [List.length_erase_of_mem hx] at h1
    have : 0 < r.length := List.length_pos_of_mem hx
    simp; omega
structure MetK (D : DataW Unit) (left : Lit → Bool) (zs : List Int) : Prop where
  nodup : zs.Nodup
  mem : ∀ x : Int, x ∈ zs ↔ (Maps.has D (.int .i64 x) = true ∧ left (.int .i64 x) = false)
theorem MetK.start (D : DataW Unit) : MetK D (Maps.has D) [] := ⟨List.nodup_nil, fun x => by simp⟩
theorem MetK.step {D : DataW Unit} {left : Lit → Bool} {zs : List Int} (h : MetK D left zs) {x : Int} (hx : left (.int .i64 x) = true) {y : DataW Unit} (hat : ∀ zd, D.atKey (.int .i64 x) zd = y) :
    MetK D (fun z => left z && !z.sameKey (.int .i64 x)) (zs ++ [x]) := by
  have hhas := Maps.has_true_of_atKey hat
  refine ⟨?_, fun z => ?_⟩
  · rw [List.nodup_append]
    refine ⟨h.nodup, by simp, fun a ha b hb => ?_⟩
    simp only [List.mem_singleton] at hb
    subst hb
    rintro rfl
    have := ((h.mem a).1 ha).2
    rw [hx] at this
    cases this
  · rw [List.mem_append, h.mem, List.mem_singleton]
    by_cases hz : z = x
    · subst hz
      simp [hhas, Lit.sameKey]
    · simp [hz, Lit.sameKey]
theorem MetK.all {D : DataW Unit} {left : Lit → Bool} {zs : List Int} (h : MetK D left zs) (hl : ∀ kl, left kl = false) {S : St} {blk : Nat → Nat} (hD : ∀ (z : Int) (zd : DataW Unit), D.atKey (.int .i64 z) zd = lookZ S blk z zd)
    (hr : S.runs.Pairwise fun p q => p.1 < q.1) : zs.mergeSort (fun x y => decide (x ≤ y)) = S.keys := by
  have hk : S.keys.Pairwise fun x y => x < y := by
    unfold St.keys
    rw [List.pairwise_map]
    exact hr.imp fun h => by omega
  have hmem : ∀ x, x ∈ zs ↔ x ∈ S.keys := fun x => by
    rw [h.mem x]
    constructor
    · rintro ⟨h1, _⟩
      cases hf : S.find x with
      | none =>
        have : Maps.has D (.int .i64 x) = false := Maps.has_false_of_atKey fun zd => by rw [hD]; unfold lookZ; rw [hf]
        rw [this] at h1; cases h1
      | some p =>
        have := find_mem hf
        exact List.mem_map.2 ⟨p, this.1, this.2⟩
    · intro hx
      refine ⟨?_, hl _⟩
      obtain ⟨p, hp, hpx⟩ := List.mem_map.1 hx
      cases hf : S.find x with
      | none =>
        unfold St.find at hf
        rw [List.find?_eq_none] at hf
        exact absurd hpx (by simpa using hf p hp)
      | some q => exact Maps.has_true_of_atKey (y := .lit (.int .i64 (blk q.1 : Int))) fun zd => by rw [hD]; unfold lookZ; rw [hf]
  have hnk : S.keys.Nodup := hk.imp fun h => by omega
  have hperm : zs.Perm S.keys := (List.perm_ext_iff_of_nodup h.nodup hnk).2 hmem
  refine List.Perm.eq_of_pairwise (le := fun a b : Int => a ≤ b) (fun a b _ _ h1 h2 => by omega) ?_ (hk.imp fun h => by omega) ((List.mergeSort_perm _ _).trans hperm)
  have := List.pairwise_mergeSort (le := fun x y : Int => decide (x ≤ y)) (fun a b c h1 h2 => by simp at *; omega) (fun a b => by simp; omega) zs
  exact this.imp fun h => by simpa using h
theorem MetK.len {D : DataW Unit} {left : Lit → Bool} {zs : List Int} (h : MetK D left zs) {S : St} {blk : Nat → Nat} (hD : ∀ (z : Int) (zd : DataW Unit), D.atKey (.int .i64 z) zd = lookZ S blk z zd)
    (hin : ∀ p ∈ S.runs, 1 ≤ p.1 ∧ p.1 ≤ S.made) : zs.length ≤ S.made := by
  have := nodup_le zs ((List.range S.made).map fun k : Nat => ((k : Int) + 1)) h.nodup (fun x hx => by
    have h1 := ((h.mem x).1 hx).1
    cases hf : S.find x with
    | none =>
      have : Maps.has D (.int .i64 x) = false := Maps.has_false_of_atKey fun zd => by rw [hD]; unfold lookZ; rw [hf]
      rw [this] at h1; cases h1
    | some p =>
      obtain ⟨h2, h3⟩ := find_mem hf
      have := hin p h2
      exact List.mem_map.2 ⟨p.1 - 1, List.mem_range.2 (by omega), by omega⟩)
  simpa using this
def mkP (c : Option Nat) : Value := .pointer (c.map fun b => ⟨b, 0, none⟩)
theorem ptrR_inv (v : Value) (y : DataW Unit × List MemPlace) (h : ptrR v = some y) : ∃ c, v = mkP c := by
  unfold ptrR at h
  split at h
  · exact ⟨none, rfl⟩
  · rename_i b; exact ⟨some b, rfl⟩
  · cases h
theorem info_intL : (Tryz.prog.info? 3).map (fun i => (i.zero, i.size, i.bytes)) = some (some (.int .i64 0), 1, 8) := by kernel_rfl
theorem ownsRow_base {w : World} {B B' : Nat} {e : TypeId} {size : Nat} {v : Value} {n : Nat} {xs : List Value} (h : w.ownsRow B e size v n xs) (hb : B' ≤ B) : w.ownsRow B' e size v n xs := by
  refine ⟨h.1, ?_⟩
  rcases h.2 with h2 | ⟨g, cap, cur, h2, h3, h4⟩
  · exact .inl h2
  · exact .inr ⟨g, cap, cur, h2, Nat.le_trans hb h3, h4⟩
set_option maxHeartbeats 1600000 in
theorem Live_calls {w : World} {b mb : Nat} {blk : Nat → Nat} {val : Nat → Value} {S : St} (h : StoreI w b mb blk val S) :
    Calls Tryz.prog 15 #[.pointer (some ⟨b, 0, none⟩)] w fun e w' => ∃ v, e = .returned v ∧ w'.ownsRow w.heap.size tInt 1 v S.keys.length (intsV S.keys) ∧ Below w.heap.size w w' := by
  have c5 := h.facts.c5
  obtain ⟨D, hown, hD⟩ := h.map
  have hmb := hown.lt
  have HS := Lib.hid h
  have HD := Lib.hid hD
  have HO := Lib.hid hown
  clear h hD hown
  go_enter Tryz.func15, Tryz.ntmps15
  (repeat' (first | (go_big_may; (at_range; refine wpList_range_own _ rfl _ tMapR rfl tInt 84 keyedInt Tryz.underlying67 ptrR mb S.made D rfl HO.out ?_; intro w0 hrg0 hg0 hs0)) | go_values | go_skip | go_guarded | go_step | go_upon | go_back | dsimp only))
  go_frame
  have HR0 := Lib.hid hrg0
  have HB0 := Lib.hid (show Below w.heap.size w w0 from ⟨hg0.os, hg0.tape, hg0.output, hg0.size, fun k hk => hg0.block k hk (by simp)⟩)
  clear hrg0 hg0
  go_loopw [3] (fun x wr => ∃ left cnt zs, wr.ranges Tryz.prog tInt ptrR mb w.heap.size S.made D left cnt ∧ MetK D left zs ∧ wr.ownsRow (w.heap.size + 1) tInt 1 x zs.length (intsV zs) ∧ Below w.heap.size w wr ∧ w.heap.size + 1 ≤ wr.heap.size) (fun _ wr => wr.rangeLeft mb w.heap.size)
  case atStart => exact ⟨_, _, [], HR0.out, MetK.start D, World.ownsRow_nil _ _ _ _, HB0.out, by omega⟩
  case round =>
    obtain ⟨left, cnt, zs, hrg, hmet, hown, hb, hsz⟩ := hrel
    have HRG := Lib.hid hrg
    have HMET := Lib.hid hmet
    have HOWN := Lib.hid hown
    have HB := Lib.hid hb
    clear hrg hmet hown hb
    (repeat' (first | (go_big_may; (at_next; refine wpList_next_ranges _ rfl _ rfl tInt keyedInt ptrR (Value.int .i64) mkP (fun key kl hkey => by obtain ⟨x, rfl, _⟩ := Maps.keyOf_int_inv Tryz.underlying3 hkey; exact ⟨x, rfl⟩) ptrR_inv mb w.heap.size S.made D left cnt rfl HRG.out ?_ ?_)) | go_values | go_skip | go_guarded | go_step | go_upon | go_back | dsimp only))
    · intro hc0 hl0
      have HL0 := Lib.hid hl0
      clear hl0 hc0
      have hall := HMET.out.all HL0.out HD.out HS.out.rising
      have hlen := HMET.out.len HD.out HS.out.inside
      have hmade := HS.out.sizes.2.2.2.1
      have hl2 : zs.length = S.keys.length := by rw [← hall]; simp
      have HALL := Lib.hid hall
      have HL2 := Lib.hid hl2
      clear hall hl2
      (repeat' (first | go_values | go_skip | go_guarded | go_step | go_upon | go_back | dsimp only))
      refine (Sort_own HOWN.out (by omega)).mono ?_
      rintro e w2 ⟨rfl, hown2, hg2⟩
      rw [HALL.out, HL2.out] at hown2
      have HO2 := Lib.hid hown2
      have HB2 := Lib.hid (grownOwn HB.out HB.out.size (ownsRow_base HOWN.out (Nat.le_succ _)) hg2)
      clear hown2 hg2
      (repeat' (first | go_values | go_skip | go_guarded | go_step | go_upon | go_back | dsimp only))
      go_ret
      exact ⟨_, rfl, ownsRow_base HO2.out (Nat.le_succ _), HB2.out⟩
    · intro x c kl y w1 cnt1 hkey hlk hv hat hrg1 hlt hg1 hs1 hen
      obtain ⟨x', ex, rfl, hwx⟩ := Maps.keyOf_int_inv Tryz.underlying3 hkey
      cases ex
      have hrb : ∀ j, u3.ownBlock = some j → w.heap.size + 1 ≤ j := fun j hj => (HOWN.out.lt j hj).1
      have HO1 := Lib.hid (ownsRow_block HOWN.out fun j hj => hg1.block j (HOWN.out.lt j hj).2 (fun e => by have := hrb j hj; cases e; omega))
      have HB1 := Lib.hid (HB.out.grown hg1 HB.out.size (fun j e => by cases e; exact Nat.le_refl _))
      have HM1 := Lib.hid (HMET.out.step hlk hat)
      have HR1 := Lib.hid hrg1
      have hlen := HM1.out.len HD.out HS.out.inside
      simp only [List.length_append, List.length_cons, List.length_nil] at hlen
      have hmade := HS.out.sizes.2.2.2.1
      have HLT := Lib.hid hlt
      have HS1 := Lib.hid hs1
      clear hkey hlk hv hat hrg1 hg1 hlt hs1
      (repeat' (first | (go_big_may; (at_builtin; go_must (refine wpList_append_new rfl _ _ 23 3 rfl Tryz.underlying23 info_intL rfl (by decide) rfl HO1.out rfl rfl (one_int _ _) (by have := HS1.out; omega) (by unfold maxLen; omega) (by omega) ?_); intro v2 w2 hown2 hg2 _)) | go_values | go_skip | go_guarded | go_step | go_upon | go_back | dsimp only))
      have HO2 := Lib.hid hown2
      have HB2 := Lib.hid (grownOwn HB1.out HB1.out.size (ownsRow_base HO1.out (Nat.le_succ _)) hg2)
      have HR2 := Lib.hid (HR1.out.kept hg2 (fun e => by have := hrb mb e.symm; omega) (fun e => by have := hrb _ e.symm; omega))
      have hsz2 := hg2.size
      clear hown2 hg2
      go_roundw
      case rel => exact ⟨_, _, zs ++ [x], HR2.out, HM1.out, by simpa using HO2.out, HB2.out, by have := HS1.out; omega⟩
      case measure => rw [HR2.out.left_eq, HRG.out.left_eq]; exact HLT.out
end Go.Proofs.YtadokkffmekndaaGreatDoor
