/- slices.Values of texts: its iterator gives the slice's texts. -/
import Derived.Test.YtbmfaffnbjmipaaRng
import Derived.Test.YtbmfaffnbjmipaaProg
import Derived.Shelf.Abstract
import Derived.WalkKit
import Derived.TacticsInMore
import Derived.LoopNIn
import Derived.LoopIn
namespace Go.Proofs.Ytbmfaffnbjmipaa
open Go.RowKit
attribute [local go_sem] Oper.semAt_some

abbrev encS (x : List UInt8) : Array Value := #[.string ⟨x.toArray⟩]
abbrev tTx : TypeId := 9
abbrev tTxs : TypeId := 22
theorem strs_at {L : List (List UInt8)} {k : Nat} (h : k < L.length) : (strs L)[k]? = some (.string ⟨(L[k]).toArray⟩) := by simp [strs, h]
theorem take_one {α : Type} {L : List α} {k : Nat} (h : k < L.length) : L.take k ++ [L[k]] = L.take (k + 1) := by rw [List.take_add_one, List.getElem?_eq_getElem h]; rfl
/-- The memory of slices.Values: the boxed slice, and its texts. -/
abbrev ValT (b : Nat) (v : Value) (L : List (List UInt8)) : Thing := Both (CellT b #[v] tTxs) (RowG tTx 1 v L.length (strs L))
theorem ValT.stable (b : Nat) (v : Value) (L : List (List UInt8)) : Stable (ValT b v L) := (CellT.stable _ _ _).both (RowG.stable _ _ _ _ _)
set_option maxRecDepth 100000 in
set_option maxHeartbeats 2000000 in
theorem values1_seqs (W : World) (b : Nat) (v : Value) (L : List (List UInt8)) (hn : L.length ≤ 1099511627776) :
    Seqs Try.prog encS 45 #[.pointer (some ⟨b, 0, none⟩)] L W (ValT b v L) := by
  intro l J Jx hJ hJx hY w R hR h0
  have hS : ∀ p, Stable (Both (J p) (Both (ValT b v L) R)) := fun p => (hJ p).both ((ValT.stable b v L).both hR)
  have h1 : At W w (Both (CellT b #[v] tTxs) (Both (RowG tTx 1 v L.length (strs L)) (Both (J []) R))) := h0.swap.impl fun _ q => Both.toR q
  have c0 := (h1.cellF (o := 0) (u := v) rfl).1
  rcases Nat.eq_zero_or_pos L.length with hz | hz
  · obtain rfl : L = [] := List.eq_nil_of_length_eq_zero hz
    obtain ⟨ao, cap, rfl, _, _⟩ := own_shape h1.drop.rowG
    (refine (callsIn_wide (n := 0)).1 (callsIn_of_wp Try.func45 rfl trivial ?_ rfl); simp only [Try.ntmps45, List.size_toArray, List.length_cons, List.length_nil, Nat.reduceAdd, Nat.reduceSub, Array.replicate_succ, Array.replicate_zero, List.push_toArray, List.append_toArray, List.nil_append, List.cons_append])
    (repeat' (first | (gi_big_may; fail) | go_values | gi_guarded | gi_step | gi_upon | gi_back | dsimp only))
    gi_loopw [7] (fun i wr => i = .int .i64 0 ∧ At W wr (Both (J []) (Both (ValT b (.slice ao 0 cap) []) R))) (fun _ _ => 0)
    case atStart => exact ⟨rfl, h0⟩
    case round =>
      obtain ⟨rfl, hJs⟩ := hrel
      (repeat' (first | (gi_big_may; fail) | go_values | gi_guarded | gi_step | gi_upon | gi_back | dsimp only))
      go_end0
      exact ⟨⟨_, rfl⟩, .inl hJs⟩
  · obtain ⟨g, cap, rfl, _, _, _⟩ := own_cut h1.drop.rowG hz
    (refine (callsIn_wide (n := 0)).1 (callsIn_of_wp Try.func45 rfl trivial ?_ rfl); simp only [Try.ntmps45, List.size_toArray, List.length_cons, List.length_nil, Nat.reduceAdd, Nat.reduceSub, Array.replicate_succ, Array.replicate_zero, List.push_toArray, List.append_toArray, List.nil_append, List.cons_append])
    (repeat' (first | (gi_big_may; fail) | go_values | gi_guarded | gi_step | gi_upon | gi_back | dsimp only))
    gi_loopw [7] (fun i wr => ∃ k : Nat, k ≤ L.length ∧ i = .int .i64 k ∧ At W wr (Both (J (L.take k)) (Both (ValT b (.slice (some ⟨g, 0, none⟩) L.length cap) L) R))) (fun i _ => L.length - (intOf i).toNat)
    case atStart => exact ⟨0, Nat.zero_le _, rfl, h0⟩
    case round =>
      obtain ⟨k, hk, rfl, hJs⟩ := hrel
      by_cases hlt : k < L.length
      · obtain ⟨fn, tmps, assign, body, hy, hRd⟩ := hY (L.take k) (L[k]) (by rw [take_one hlt]; exact List.take_prefix _ _) wr R hR hJs
        have h2 : At W wr (Both (RowG tTx 1 (.slice (some ⟨g, 0, none⟩) L.length cap) L.length (strs L)) (Both (CellT b #[.slice (some ⟨g, 0, none⟩) L.length cap] tTxs) (Both (J (L.take k)) R))) := (hJs.swap.impl fun _ q => Both.toR q).swap
        have hcx := (h2.rowCell (strs_at hlt)).1
        unfold encS at hy
        rw [take_one hlt] at hRd
        generalize L[k] = x at *
        (repeat' (first | (gi_big_may; fail) | go_values | gi_guarded | gi_step | gi_upon | gi_back | dsimp only))
        refine ⟨rfl, hRd.mono ?_⟩
        rintro e W3 (⟨rfl, hJ3⟩ | ⟨rfl, hJx3⟩)
        · (repeat' (first | (gi_big_may; fail) | go_values | gi_guarded | gi_step | gi_upon | gi_back | dsimp only))
          go_roundw
          case rel => exact ⟨k + 1, by omega, by simp, hJ3⟩
          case measure => simp [intOf]; omega
        · (repeat' (first | (gi_big_may; fail) | go_values | gi_guarded | gi_step | gi_upon | gi_back | dsimp only))
          refine bodyPost_ret (results_none rfl _ _ _) rfl ?_
          exact ⟨⟨_, rfl⟩, .inr ⟨_, List.take_prefix _ _, hJx3⟩⟩
      · obtain rfl : k = L.length := by omega
        (repeat' (first | (gi_big_may; fail) | go_values | gi_guarded | gi_step | gi_upon | gi_back | dsimp only))
        go_end0
        rw [List.take_of_length_le (Nat.le_refl _)] at hJs
        exact ⟨⟨_, rfl⟩, .inl hJs⟩
end Go.Proofs.Ytbmfaffnbjmipaa
