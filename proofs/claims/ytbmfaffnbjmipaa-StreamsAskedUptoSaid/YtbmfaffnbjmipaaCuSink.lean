/- heap: rise, sink walked. -/
import Derived.Test.YtbmfaffnbjmipaaCuAhead
namespace Go.Proofs.Ytbmfaffnbjmipaa.cu
open Go.RowKit

theorem ahead_at {w : World} {b : Nat} {fl : FuncId} {lt : Cur → Cur → Bool} (hL : LessI fl lt) {l : List (Cur × Nat)} {turns : Nat} {v : Value} (h : HeapI w b (.func (.func fl) #[] #[]) l turns v) {i j : Nat} (hi : i < l.length) (hj : j < l.length) (zi zj : Int) (ei : zi = i) (ej : zj = j) :
    Calls Try.prog 64 #[.pointer (some ⟨b, 0, none⟩), .int .i64 zi, .int .i64 zj] w fun e w' => e = .returned (.bool (hp.ahead lt (l.getD i default) (l.getD j default))) ∧ Below w.heap.size w w' := by
  subst ei; subst ej; exact ahead_calls hL h hi hj
theorem swap_at {w : World} {b : Nat} {f : Value} {l : List (Cur × Nat)} {turns : Nat} {v : Value} (h : HeapI w b f l turns v) {i j : Nat} (hi : i < l.length) (hj : j < l.length) (zi zj : Int) (ei : zi = i) (ej : zj = j) :
    Calls Try.prog 52 #[.pointer (some ⟨b, 0, none⟩), .int .i64 zi, .int .i64 zj] w fun e w' => e = .returned (.tuple #[]) ∧ HeapI w' b f (hp.swapL l i j) turns v ∧ Upd (b :: rowOf v) w w' := by
  subst ei; subst ej; exact swap_calls h hi hj

/-- A heap on its way: what is still to do comes to 'goal'. -/
def RiseAt (w : World) (b : Nat) (f : Value) (R : Cur × Nat → Cur × Nat → Bool) (turns : Nat) (v : Value) (goal : List (Cur × Nat)) (i : Nat) (wr : World) : Prop :=
  ∃ l, HeapI wr b f l turns v ∧ i < l.length ∧ l.length = goal.length ∧ hp.riseL R l i = goal ∧ Upd (b :: rowOf v) w wr

set_option maxHeartbeats 1600000 in
theorem rise_calls {w : World} {b : Nat} {fl : FuncId} {lt : Cur → Cur → Bool} (hL : LessI fl lt) {l : List (Cur × Nat)} {turns : Nat} {v : Value} (h : HeapI w b (.func (.func fl) #[] #[]) l turns v) {i : Nat} (hi : i < l.length) (hn : l.length ≤ 4611686018427387904) :
    Calls Try.prog 49 #[.pointer (some ⟨b, 0, none⟩), .int .i64 i] w fun e w' => e = .returned (.tuple #[]) ∧ HeapI w' b (.func (.func fl) #[] #[]) (hp.riseL (hp.ahead lt) l i) turns v ∧ Upd (b :: rowOf v) w w' := by
  have h0 : RiseAt w b (.func (.func fl) #[] #[]) (hp.ahead lt) turns v (hp.riseL (hp.ahead lt) l i) i w := ⟨l, h, hi, by rw [hp.riseL_length], rfl, Upd.refl _ _⟩
  have hgl : (hp.riseL (hp.ahead lt) l i).length ≤ 4611686018427387904 := by rw [hp.riseL_length]; exact hn
  have hi' : i ≤ 4611686018427387904 := by omega
  generalize hp.riseL (hp.ahead lt) l i = goal at *
  clear h hi
  go_enter Try.func49, Try.ntmps49
  (repeat' (first | (go_big_may; fail) | go_values | go_skip | go_guarded | go_step | go_upon | go_back | dsimp only))
  go_loopw [1] (fun x wr => ∃ k : Nat, x = .int .i64 k ∧ k ≤ 4611686018427387904 ∧ RiseAt w b (.func (.func fl) #[] #[]) (hp.ahead lt) turns v goal k wr) (fun x _ => (intOf x).toNat)
  case atStart => exact ⟨i, rfl, hi', h0⟩
  case round =>
    obtain ⟨k, rfl, hk, lr, hh, hkl, hlen, hgo, hup⟩ := hrel
    clear h0
    have HG := Lib.hid hgo
    have HN := Lib.hid hlen
    clear hgo hlen
    by_cases hk0 : 0 < k
    · have hpl : (k - 1) / 2 < lr.length := by omega
      have hcp : (((k : Int) - 1) / 2) = (((k - 1) / 2 : Nat) : Int) := by omega
      have HCP := Lib.hid hcp
      clear hcp
      cases hr : hp.ahead lt (lr.getD k default) (lr.getD ((k - 1) / 2) default)
      · (repeat' (first | (go_big_may; (go_at_call 64; go_must (refine (ahead_at hL hh hkl hpl _ _ rfl HCP.out).mono ?_); rintro e w1 ⟨rfl, hb1⟩; rw [hr])) | go_values | go_skip | go_guarded | go_step | go_upon | go_back | dsimp only))
        go_end0
        have hstop : hp.riseL (hp.ahead lt) lr k = lr := hp.riseL_stop (fun h => by rw [hr] at h; exact absurd h.2 (by simp))
        have := HG.out
        rw [hstop] at this
        subst this
        exact ⟨rfl, hh.below hb1, hup.trans (Upd.of_below hb1 []) (Grow.nil _ _)⟩
      · (repeat' (first | (go_big_may; (go_at_call 64; go_must (refine (ahead_at hL hh hkl hpl _ _ rfl HCP.out).mono ?_); rintro e w1 ⟨rfl, hb1⟩; rw [hr])) | go_values | go_skip | go_guarded | go_step | go_upon | go_back | dsimp only))
        have hh1 := hh.below hb1
        refine (swap_at hh1 hkl hpl _ _ rfl HCP.out).mono ?_
        rintro e w2 ⟨rfl, hh2, hu2⟩
        (repeat' (first | (go_big_may; fail) | go_values | go_skip | go_guarded | go_step | go_upon | go_back | dsimp only))
        go_roundw
        case rel =>
          refine ⟨(k - 1) / 2, by rw [HCP.out], by omega, _, hh2, by rw [hp.swapL_length]; exact hpl, by rw [hp.swapL_length]; exact HN.out, ?_, ?_⟩
          · rw [← hp.riseL_go hk0 hr]; exact HG.out
          · exact (hup.trans (Upd.of_below hb1 []) (Grow.nil _ _)).trans hu2 (Grow.refl _ _)
        case measure => simp [intOf] <;> omega
    · have hk00 : k = 0 := by omega
      subst hk00
      (repeat' (first | (go_big_may; fail) | go_values | go_skip | go_guarded | go_step | go_upon | go_back | dsimp only))
      go_end0
      have hstop : hp.riseL (hp.ahead lt) lr 0 = lr := hp.riseL_stop (fun h => absurd h.1 (by simp))
      have := HG.out
      rw [hstop] at this
      subst this
      exact ⟨rfl, hh, hup⟩

/-- The least so far. -/
def LeAt (R : Cur × Nat → Cur × Nat → Bool) (l : List (Cur × Nat)) (i k le : Nat) : Prop :=
  (k = 2 * i + 1 ∧ le = i) ∨ (k = 2 * i + 2 ∧ 2 * i + 1 < l.length ∧ le = (if 2 * i + 1 < l.length ∧ R (l.getD (2 * i + 1) default) (l.getD i default) = true then 2 * i + 1 else i)) ∨ (k = 2 * i + 3 ∧ 2 * i + 2 < l.length ∧ le = hp.leastL R l i)
theorem LeAt.lt {R : Cur × Nat → Cur × Nat → Bool} {l : List (Cur × Nat)} {i k le : Nat} (h : LeAt R l i k le) (hi : i < l.length ∨ l = []) (hk : k < l.length) : le < l.length ∧ i < l.length := by
  have hi : i < l.length := hi.resolve_right (fun e => by subst e; simp at hk)
  refine ⟨?_, hi⟩
  rcases h with ⟨_, h⟩ | ⟨_, h1, h⟩ | ⟨h1, h2, h⟩
  · omega
  · subst h; split <;> omega
  · have := hp.leastL_bound R l i; omega
theorem LeAt.step {R : Cur × Nat → Cur × Nat → Bool} {l : List (Cur × Nat)} {i k le : Nat} (h : LeAt R l i k le) (hk : k < l.length) (hk2 : k ≤ 2 * i + 2) : LeAt R l i (k + 1) (if R (l.getD k default) (l.getD le default) = true then k else le) := by
  rcases h with ⟨h1, h⟩ | ⟨h1, h2, h⟩ | ⟨h1, _⟩
  · subst h1; subst h
    refine .inr (.inl ⟨rfl, hk, ?_⟩)
    by_cases hr : R (l.getD (2 * le + 1) default) (l.getD le default) = true
    · rw [if_pos hr, if_pos ⟨hk, hr⟩]
    · rw [if_neg hr, if_neg (fun h => hr h.2)]
  · subst h1
    refine .inr (.inr ⟨rfl, hk, ?_⟩)
    unfold hp.leastL
    dsimp only
    rw [← h]
    by_cases hr : R (l.getD (2 * i + 2) default) (l.getD le default) = true
    · rw [if_pos hr, if_pos ⟨hk, hr⟩]
    · rw [if_neg hr, if_neg (fun h => hr h.2)]
  · omega
theorem LeAt.done {R : Cur × Nat → Cur × Nat → Bool} {l : List (Cur × Nat)} {i k le : Nat} (h : LeAt R l i k le) (hk : ¬ (k ≤ 2 * i + 2 ∧ k < l.length)) : le = hp.leastL R l i := by
  unfold hp.leastL
  rcases h with ⟨h1, h⟩ | ⟨h1, h2, h⟩ | ⟨h1, h2, h⟩
  · dsimp only
    rw [if_neg (show ¬ (2 * i + 1 < l.length ∧ _) from fun h => by omega), if_neg (show ¬ (2 * i + 2 < l.length ∧ _) from fun h => by omega)]; exact h
  · dsimp only
    rw [← h, if_neg (show ¬ (2 * i + 2 < l.length ∧ _) from fun h => by omega)]
  · exact h

def SinkAt (w : World) (b : Nat) (f : Value) (R : Cur × Nat → Cur × Nat → Bool) (turns : Nat) (v : Value) (goal : List (Cur × Nat)) (i : Nat) (wr : World) : Prop :=
  ∃ l, HeapI wr b f l turns v ∧ (i < l.length ∨ l = []) ∧ l.length = goal.length ∧ hp.sinkL R l i = goal ∧ Upd (b :: rowOf v) w wr

set_option maxRecDepth 100000 in
set_option maxHeartbeats 3200000 in
theorem sink_calls {w : World} {b : Nat} {fl : FuncId} {lt : Cur → Cur → Bool} (hL : LessI fl lt) {l : List (Cur × Nat)} {turns : Nat} {v : Value} (h : HeapI w b (.func (.func fl) #[] #[]) l turns v) {i : Nat} (hi : i < l.length ∨ l = []) (hi0 : i ≤ 4611686018427387) (hn : l.length ≤ 4611686018427387) :
    Calls Try.prog 51 #[.pointer (some ⟨b, 0, none⟩), .int .i64 i] w fun e w' => e = .returned (.tuple #[]) ∧ HeapI w' b (.func (.func fl) #[] #[]) (hp.sinkL (hp.ahead lt) l i) turns v ∧ Upd (b :: rowOf v) w w' := by
  have h0 : SinkAt w b (.func (.func fl) #[] #[]) (hp.ahead lt) turns v (hp.sinkL (hp.ahead lt) l i) i w := ⟨l, h, hi, by rw [hp.sinkL_length], rfl, Upd.refl _ _⟩
  have hgl : (hp.sinkL (hp.ahead lt) l i).length ≤ 4611686018427387 := by rw [hp.sinkL_length]; exact hn
  generalize hp.sinkL (hp.ahead lt) l i = goal at *
  clear h hi hn
  go_enter Try.func51, Try.ntmps51
  (repeat' (first | (go_big_may; fail) | go_values | go_skip | go_guarded | go_step | go_upon | go_back | dsimp only))
  go_loopw [1] (fun x wr => ∃ k : Nat, x = .int .i64 k ∧ k ≤ 4611686018427387 ∧ SinkAt w b (.func (.func fl) #[] #[]) (hp.ahead lt) turns v goal k wr) (fun x _ => goal.length - (intOf x).toNat)
  case atStart => exact ⟨i, rfl, hi0, h0⟩
  case round =>
    obtain ⟨k, rfl, hk, lr, hh, hkl, hlen, hgo, hup⟩ := hrel
    clear h0
    have HG := Lib.hid hgo
    have hlen' : lr.length ≤ 4611686018427387 := by omega
    have HN := Lib.hid hlen
    clear hgo hlen
    obtain ⟨wo, rfl⟩ : ∃ wo : World, wo = wr := ⟨_, rfl⟩
    (repeat' (first | (go_big_may; fail) | go_values | go_skip | go_guarded | go_step | go_upon | go_back | dsimp only))
    go_loopw [4, 5] (fun x y wi => ∃ le q : Nat, x = .int .i64 le ∧ y = .int .i64 q ∧ q ≤ 2 * k + 3 ∧ le ≤ 2 * k + 2 ∧ LeAt (hp.ahead lt) lr k q le ∧ Below wo.heap.size wo wi) (fun _ y _ => 2 * k + 4 - (intOf y).toNat)
    case atStart => exact ⟨k, 2 * k + 1, rfl, by go_num, by omega, by omega, .inl ⟨rfl, rfl⟩, Below.refl _ _⟩
    case round =>
      obtain ⟨le, q, rfl, rfl, hq, hle, hat, hbi⟩ := hrel
      have hhi := hh.below hbi
      have hfc := hhi.facts
      have c1 := hfc.c1
      obtain ⟨ao, cap, hv, hcap, hcap2⟩ := (RdRow.of_own hhi.2.1).shape
      unfold maxLen at hcap2
      rw [hv] at c1
      clear hfc hv
      by_cases hq2 : q ≤ 2 * k + 2
      · by_cases hql : q < lr.length
        · have hlt := hat.lt hkl hql
          have hst := hat.step hql hq2
          clear hat
          cases hr : hp.ahead lt (lr.getD q default) (lr.getD le default)
          · rw [hr] at hst
            have HS := Lib.hid hst
            clear hst
            (repeat' (first | (go_big_may; (go_at_call 64; go_must (refine (ahead_at hL hhi hql hlt.1 _ _ rfl rfl).mono ?_); rintro e w1 ⟨rfl, hb1⟩; rw [hr])) | go_values | go_skip | go_guarded | go_step | go_upon | go_back | dsimp only))
            go_roundw
            case rel => exact ⟨le, q + 1, rfl, by go_num, by omega, hle, HS.out, hbi.trans (hb1.mono hbi.size)⟩
            case measure => simp [intOf] <;> omega
          · rw [hr] at hst
            have HS := Lib.hid hst
            clear hst
            (repeat' (first | (go_big_may; (go_at_call 64; go_must (refine (ahead_at hL hhi hql hlt.1 _ _ rfl rfl).mono ?_); rintro e w1 ⟨rfl, hb1⟩; rw [hr])) | go_values | go_skip | go_guarded | go_step | go_upon | go_back | dsimp only))
            go_roundw
            case rel => exact ⟨q, q + 1, rfl, by go_num, by omega, hq2, HS.out, hbi.trans (hb1.mono hbi.size)⟩
            case measure => simp [intOf] <;> omega
        · have hd := hat.done (fun h => hql h.2)
          have hqi : ¬ ((q : Int) < lr.length) := by omega
          have hbd := hp.leastL_bound (hp.ahead lt) lr k
          have hup1 := hup.trans (Upd.of_below hbi []) (Grow.nil _ _)
          by_cases hc : le = k
          · have hstop : hp.sinkL (hp.ahead lt) lr k = lr := hp.sinkL_stop (by rw [← hd, hc])
            have hgl2 := HG.out
            rw [hstop] at hgl2
            have heq : ((le : Int) == k) = true := by simp [hc]
            have HGL := Lib.hid hgl2
            clear hd hc hat hstop hgl2 hbd
            (repeat' (first | (go_big_may; fail) | go_values | go_skip | go_guarded | go_step | go_upon | go_back | dsimp only))
            refine bodyPost_ret (results_none rfl _ _ _) rfl ?_
            exact ⟨rfl, by rw [← HGL.out]; exact hhi, hup1⟩
          · have hne : hp.leastL (hp.ahead lt) lr k ≠ k := by rw [← hd]; exact hc
            have hgo2 := HG.out
            rw [hp.sinkL_go hne, ← hd] at hgo2
            rw [← hd] at hbd
            have hb2 := hbd.resolve_left hc
            have heq : ((le : Int) == k) = false := by rw [beq_eq_false_iff_ne]; omega
            have HGO := Lib.hid hgo2
            have hk' : k < lr.length := by omega
            clear hd hat hne hgo2 hbd
            (repeat' (first | (go_big_may; fail) | go_values | go_skip | go_guarded | go_step | go_upon | go_back | dsimp only))
            refine (swap_at hhi hk' hb2.2 _ _ rfl rfl).mono ?_
            rintro e w2 ⟨rfl, hh2, hu2⟩
            (repeat' (first | (go_big_may; fail) | go_values | go_skip | go_guarded | go_step | go_upon | go_back | dsimp only))
            go_roundw
            case rel => exact ⟨le, rfl, by omega, _, hh2, .inl (by rw [hp.swapL_length]; exact hb2.2), by rw [hp.swapL_length]; exact HN.out, HGO.out, hup1.trans hu2 (Grow.refl _ _)⟩
            case measure => have := HN.out; simp [intOf] <;> omega
      · have hd := hat.done (fun h => hq2 h.1)
        have hqi : ¬ ((q : Int) ≤ 2 * k + 2) := by omega
        have hbd := hp.leastL_bound (hp.ahead lt) lr k
        have hup1 := hup.trans (Upd.of_below hbi []) (Grow.nil _ _)
        by_cases hc : le = k
        · have hstop : hp.sinkL (hp.ahead lt) lr k = lr := hp.sinkL_stop (by rw [← hd, hc])
          have hgl2 := HG.out
          rw [hstop] at hgl2
          have heq : ((le : Int) == k) = true := by simp [hc]
          have HGL := Lib.hid hgl2
          clear hd hc hat hstop hgl2 hbd
          (repeat' (first | (go_big_may; fail) | go_values | go_skip | go_guarded | go_step | go_upon | go_back | dsimp only))
          refine bodyPost_ret (results_none rfl _ _ _) rfl ?_
          exact ⟨rfl, by rw [← HGL.out]; exact hhi, hup1⟩
        · have hne : hp.leastL (hp.ahead lt) lr k ≠ k := by rw [← hd]; exact hc
          have hgo2 := HG.out
          rw [hp.sinkL_go hne, ← hd] at hgo2
          rw [← hd] at hbd
          have hb2 := hbd.resolve_left hc
          have heq : ((le : Int) == k) = false := by rw [beq_eq_false_iff_ne]; omega
          have HGO := Lib.hid hgo2
          have hk' : k < lr.length := by omega
          clear hd hat hne hgo2 hbd
          (repeat' (first | (go_big_may; fail) | go_values | go_skip | go_guarded | go_step | go_upon | go_back | dsimp only))
          refine (swap_at hhi hk' hb2.2 _ _ rfl rfl).mono ?_
          rintro e w2 ⟨rfl, hh2, hu2⟩
          (repeat' (first | (go_big_may; fail) | go_values | go_skip | go_guarded | go_step | go_upon | go_back | dsimp only))
          go_roundw
          case rel => exact ⟨le, rfl, by omega, _, hh2, .inl (by rw [hp.swapL_length]; exact hb2.2), by rw [hp.swapL_length]; exact HN.out, HGO.out, hup1.trans hu2 (Grow.refl _ _)⟩
          case measure => have := HN.out; simp [intOf] <;> omega

end Go.Proofs.Ytbmfaffnbjmipaa.cu
