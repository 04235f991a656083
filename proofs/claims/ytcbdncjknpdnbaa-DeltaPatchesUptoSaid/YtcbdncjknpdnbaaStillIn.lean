/- A region that draws its order, in a round of a range over a function: its first operations only read: walked in the order of the text. · A region that draws its order, with calls, in a round of a range over a function: its operations read what the calls leave alone. -/
import Derived.Test.YtcbdncjknpdnbaaStill
import Derived.OrdersIn
import Derived.RangeFuncCalls
import Derived.OwnWalkIn
import Derived.OrdersHeld
import Derived.Deep.RegionHeld3
namespace Go.Proofs.Ytcbdncjknpdnbaa
section
open Go.RowKit

def noDefer (ops : Array Oper) : Bool := ops.toList.all fun o => match o.op with | .defer _ => false | _ => true
section
variable {l : Nat} {P : Program} {ops : Array Oper} {md : Region.Mode} {w : World} {Q' : Exit → Act → World → Prop}
theorem wpIn_of_still {o : Oper} {a : Act} {K : Act → Prop} {K' : Act → World → Prop} (hnd : ∀ c, o.op ≠ .defer c) (h : ∀ a, K a → K' a w) (hh : o.still P a w K) : o.wpIn (Fence.wide.inRound l) 0 P a w K' Q' := by
  refine ⟨fun _ _ => trivial, ?_⟩
  rw [Oper.semAt_plain _ _ _ hnd]
  unfold Oper.still at hh
  generalize (execOp a.eval o).run P w = r at *
  cases r with
  | ok n w' =>
    cases n <;> simp only [Oper.stillUpon] at hh <;> simp only [Oper.uponIn]
    case enter f args =>
      obtain ⟨rfl, v, hc, hn⟩ := hh
      refine ⟨fun h => by simp [Fence.wide] at h, CallsIn.inRound l (callsIn_wide.2 (hc.mono fun e w'' ⟨he, hw⟩ => by subst he; subst hw; exact h _ hn))⟩
    all_goals (obtain ⟨rfl, h2⟩ := hh; exact h _ h2)
  | halt x w' => simp only [Oper.stillUpon] at hh
theorem wpOpIn_of_stOp (hnd : noDefer ops = true) {i : Nat} {a : Act} {K : Act → Prop} {K' : Act → World → Prop} (h : ∀ a, K a → K' a w) (hh : stOp P ops w i K a) : wpOpIn (Fence.wide.inRound l) 0 P ops Q' i K' a w := by
  unfold stOp at hh
  unfold wpOpIn
  split
  · rename_i ho; simp only [ho] at hh; exact h _ hh
  · rename_i o ho
    simp only [ho] at hh
    split
    · rename_i hw
      simp only [hw, if_true] at hh
      refine wpIn_of_still (fun c hc => ?_) h hh
      have := List.all_eq_true.1 hnd o (Array.mem_toList_iff.2 (Array.mem_of_getElem? ho))
      rw [hc] at this
      cases this
    · rename_i hw; simp only [hw] at hh; exact ⟨fun _ _ => trivial, h _ hh⟩
theorem wpAnyIn_of_head (hnd : noDefer ops = true) {n g : Nat} {L : Array Bool → Act → Prop} (hL : ∀ listed a, L listed a → wpAnyIn (Fence.wide.inRound l) 0 P md ops Q' g listed a w) :
    ∀ (f : Nat) (listed : Array Bool) (a : Act), wpAnyL P md ops w n L f listed a → wpAnyIn (Fence.wide.inRound l) 0 P md ops Q' (f + g) listed a w
  | 0, listed, a, h => by rw [Nat.zero_add]; exact hL _ _ h
  | f + 1, listed, a, h => by
    rw [show f + 1 + g = (f + g) + 1 by omega]
    exact ⟨fun h0 => absurd h0 h.1, fun i hi => wpOpIn_of_stOp hnd (fun a' h' => wpAnyIn_of_head hnd hL f _ a' h') (h.2 i hi).2⟩
theorem wpAnyIn_of_seq : ∀ (l1 : List Oper) (k : Nat) (listed : Array Bool) (a : Act) (w : World), (∀ j, l1[j]? = ops[k + j]?) →
    Region.seqB md ops l1.length k listed = true → wpListIn (Fence.wide.inRound l) 0 P ops Q' l1 a w → wpAnyIn (Fence.wide.inRound l) 0 P md ops Q' l1.length listed a w
  | [], _, _, _, _, _, hB, h => ⟨by simpa [Region.seqB] using hB, h⟩
  | o :: l1, k, listed, a, w, hl, hB, h => by
    have h0 : ops[k]? = some o := by simpa using (hl 0).symm
    simp only [List.length_cons, Region.seqB, Bool.and_eq_true, decide_eq_true_eq] at hB
    refine ⟨fun h1 => (by rw [hB.1] at h1; cases h1), fun i hi => ?_⟩
    rw [hB.1] at hi
    have hik : i = k := by simpa using hi
    subst hik
    have hw : wpOpIn (Fence.wide.inRound l) 0 P ops Q' i (wpListIn (Fence.wide.inRound l) 0 P ops Q' l1) a w := by unfold wpOpIn; simp only [h0]; exact h
    exact wpOpIn_mono (fun a' w' h' => wpAnyIn_of_seq l1 (i + 1) _ a' w' (fun j => by have := hl (j + 1); simpa [Nat.add_assoc, Nat.add_comm 1 j] using this) hB.2 h') hw
end
theorem region_still_tailIn {l : Nat} {P : Program} {id : Nat} {Q : Exit → Act → World → Prop} {a : Act} {w : World} {l1 : List Oper} (n : Nat) (hm : P.follows .mixedOrders = true) (hB : Region.lexTailB .any l1.toArray n = true) (hnd : noDefer l1.toArray = true)
    (h : wpStill P l1.toArray w.drew (fun a' => wpListIn (Fence.wide.inRound l) 0 P l1.toArray Q (l1.drop n) a' w.drew) (l1.take n) a) : (Code.region id l1.toArray true).wpIn (Fence.wide.inRound l) 0 P Q a w := by
  simp only [Region.lexTailB, Bool.and_eq_true, decide_eq_true_eq] at hB
  obtain ⟨⟨⟨⟨hsel, hn⟩, hs⟩, hc⟩, hlex⟩ := hB
  have hn' : n < l1.length := by simpa using hn
  have htl : (l1.take n).length = n := by simp; omega
  have hdl : (l1.drop n).length = l1.toArray.size - n := by simp
  have inv0 : HeadInv .any l1.toArray n (Array.replicate l1.toArray.size false) :=
    ⟨by simp, fun j oj _ hl => (by rw [getD_replicate_false] at hl; cases hl), fun t _ ht => getD_in (by simpa using ht) (getD_replicate_false _ _)⟩
  have H := wpAnyL_lex (md := .any) (g := l1.toArray.size - n) hsel hs hc hn (l1.take n) 0 _ a (fun j hj => by
    have hj' : j < n := by rw [htl] at hj; exact hj
    simp [hj']) (by simpa using htl) inv0 (by rw [htl]; exact hlex) h
  refine wpIn_region_any hm ?_
  have := wpAnyIn_of_head (Q' := Q) (l := l) hnd (g := l1.toArray.size - n) (fun listed a' hL => by
    have := wpAnyIn_of_seq (md := .any) (Q' := Q) (l := l) (l1.drop n) n listed a' w.drew (fun j => by simp [List.getElem?_drop]) (by rw [hdl]; exact hL.1) hL.2
    rwa [hdl] at this) _ _ _ H
  rw [htl, show n + (l1.toArray.size - n) = l1.toArray.size by omega] at this
  exact this
end

section
open Go.RowKit

/-- A region that only ends normally. -/
abbrev onlyN (Q : Exit → Act → World → Prop) : Exit → Act → World → Prop := fun e a w => match e with | .normal => Q .normal a w | _ => False
section
variable {l : Nat} {P : Program} {ops : Array Oper} {md : Region.Mode} {Q : Exit → Act → World → Prop}
theorem onlyN_lets : ¬ LetsOut (onlyN Q) := fun ⟨_, _, h⟩ => h
theorem wpIn_of_wp {o : Oper} {a : Act} {w : World} {K K' : Act → World → Prop} (hnd : ∀ c, o.op ≠ .defer c) (h : ∀ a w, K a w → K' a w) (hh : o.wp P a w K (onlyN Q)) : o.wpIn (Fence.wide.inRound l) 0 P a w K' Q := by
  refine ⟨fun _ _ => trivial, ?_⟩
  rw [Oper.semAt_plain _ _ _ hnd]
  unfold Oper.wp at hh
  generalize (execOp a.eval o).run P w = r at *
  cases r with
  | ok n w' =>
    cases n <;> simp only [Oper.upon] at hh <;> simp only [Oper.uponIn]
    case enter f args =>
      refine ⟨fun h => by simp [Fence.wide] at h, CallsIn.inRound l (callsIn_wide.2 (hh.mono fun e w'' hq => ?_))⟩
      cases e with
      | returned v => exact h _ _ hq
      | panicked c => exact hq.elim
      | outgrown => exact absurd hq onlyN_lets
    case row row args =>
      refine ⟨fun h => by simp [Fence.wide] at h, fun c cs hr => ?_⟩
      obtain ⟨v, w2, hr2, hs⟩ := hh c cs
      exact ⟨v, w2, h _ _ hr2, stepsIn_wide.2 hs⟩
    all_goals exact h _ _ hh
  | halt x w' =>
    cases x <;> simp only [Oper.upon] at hh
    all_goals exact hh.elim
theorem wpOpIn_of_wpOp (hnd : noDefer ops = true) {i : Nat} {a : Act} {w : World} {K K' : Act → World → Prop} (h : ∀ a w, K a w → K' a w) (hh : wpOp P ops (onlyN Q) i K a w) : wpOpIn (Fence.wide.inRound l) 0 P ops Q i K' a w := by
  unfold wpOp at hh
  unfold wpOpIn
  split
  · rename_i ho; simp only [ho] at hh; exact h _ _ hh
  · rename_i o ho
    simp only [ho] at hh
    split
    · rename_i hw
      simp only [hw, if_true] at hh
      rcases hh with hh | ⟨_, hh⟩
      · refine wpIn_of_wp (fun c hc => ?_) h hh
        have := List.all_eq_true.1 hnd o (Array.mem_toList_iff.2 (Array.mem_of_getElem? ho))
        rw [hc] at this
        cases this
      · exact absurd hh onlyN_lets
    · rename_i hw; simp only [hw] at hh; exact ⟨fun _ _ => trivial, h _ _ hh⟩
theorem wpAnyIn_of_held (hnd : noDefer ops = true) {S : World → Prop} : ∀ (f : Nat) (listed : Array Bool) (a : Act) (w : World), wpAnyH P md ops (onlyN Q) S f listed a w → wpAnyIn (Fence.wide.inRound l) 0 P md ops Q f listed a w
  | 0, _, _, _, h => h
  | f + 1, listed, a, w, h => ⟨h.1, fun i hi => wpOpIn_of_wpOp hnd (fun a' w' h' => wpAnyIn_of_held hnd f _ a' w' h'.2) (h.2 i hi)⟩
end
theorem wpIn_region_held {l : Nat} {P : Program} {id : Nat} {ops : Array Oper} {Q : Exit → Act → World → Prop} {a : Act} {w : World} {S : World → Prop} (hm : P.follows .mixedOrders = true) (hnd : noDefer ops = true) (hS : S w.drew)
    (h : S w.drew → wpAnyH P .any ops (onlyN Q) S ops.size (Array.replicate ops.size false) a w.drew) : (Code.region id ops true).wpIn (Fence.wide.inRound l) 0 P Q a w :=
  wpIn_region_any hm (wpAnyIn_of_held hnd _ _ _ _ (h hS))
/-! ### The first operations held, the last ones in the order of the text -/
theorem onlyN_lets' {Q : Exit → Act → World → Prop} : ¬ LetsOut (onlyN Q) := fun ⟨_, _, h⟩ => h
theorem wpIn_of_wp' {l : Nat} {P : Program} {Q Q2 : Exit → Act → World → Prop} {o : Oper} {a : Act} {w : World} {K K' : Act → World → Prop} (hnd : ∀ c, o.op ≠ .defer c) (h : ∀ a w, K a w → K' a w) (hh : o.wp P a w K (onlyN Q)) : o.wpIn (Fence.wide.inRound l) 0 P a w K' Q2 := by
  refine ⟨fun _ _ => trivial, ?_⟩
  rw [Oper.semAt_plain _ _ _ hnd]
  unfold Oper.wp at hh
  generalize (execOp a.eval o).run P w = r at *
  cases r with
  | ok n w' =>
    cases n <;> simp only [Oper.upon] at hh <;> simp only [Oper.uponIn]
    case enter f args =>
      refine ⟨fun h => by simp [Fence.wide] at h, CallsIn.inRound l (callsIn_wide.2 (hh.mono fun e w'' hq => ?_))⟩
      cases e with
      | returned v => exact h _ _ hq
      | panicked c => exact hq.elim
      | outgrown => exact absurd hq onlyN_lets'
    case row row args =>
      refine ⟨fun h => by simp [Fence.wide] at h, fun c cs hr => ?_⟩
      obtain ⟨v, w2, hr2, hs⟩ := hh c cs
      exact ⟨v, w2, h _ _ hr2, stepsIn_wide.2 hs⟩
    all_goals exact h _ _ hh
  | halt x w' =>
    cases x <;> simp only [Oper.upon] at hh
    all_goals exact hh.elim
/-- All lists of n bits. -/
def bitsL : Nat → List (List Bool)
  | 0 => [[]]
  | n + 1 => (bitsL n).flatMap fun l => [false :: l, true :: l]
theorem mem_bitsL : ∀ (n : Nat) (l : List Bool), l.length = n → l ∈ bitsL n
  | 0, l, h => by rw [List.eq_nil_of_length_eq_zero h]; simp [bitsL]
  | n + 1, [], h => by simp at h
  | n + 1, b :: l, h => by
    have := mem_bitsL n l (by simpa using h)
    simp only [bitsL, List.mem_flatMap]
    exact ⟨l, this, by cases b <;> simp⟩
abbrev fullL (l : List Bool) (m : Nat) : Array Bool := (l ++ List.replicate m false).toArray
/-- What has come up stands behind what it waits for. -/
def shutB (md : Region.Mode) (ops : Array Oper) (L : Array Bool) : Bool := (List.range ops.size).all fun i => !L.getD i false || ((ops[i]?).map (·.after.all fun e => !Region.binds md e || L.getD e.on false)).getD true
def headB (md : Region.Mode) (l1 : List Oper) (n : Nat) : Bool :=
  decide (n ≤ l1.length) && ((l1.take n).all fun o => match o.guard with | none => true | some (j, _) => decide (j < n)) && shutB md l1.toArray (fullL (List.replicate n false) (l1.length - n)) &&
  Region.seqB md l1.toArray (l1.length - n) n (fullL (List.replicate n true) (l1.length - n)) &&
  (bitsL n).all fun l => l.all id || !shutB md l1.toArray (fullL l (l1.length - n)) ||
    (!(Region.ready md l1.toArray (fullL l (l1.length - n))).isEmpty && decide (Region.ready md l1.toArray (fullL l (l1.length - n)) = Region.ready md (l1.take n).toArray l.toArray) &&
      (Region.ready md l1.toArray (fullL l (l1.length - n))).all fun i => decide (i < n) && decide ((l.set i true).countP id = l.countP id + 1) && shutB md l1.toArray (fullL (l.set i true) (l1.length - n)))
section
variable {l : Nat} {P : Program} {Q QT : Exit → Act → World → Prop} {md : Region.Mode} {S : World → Prop} {l1 : List Oper} {n : Nat}
theorem countP_all {l : List Bool} (h : l.countP id = l.length) : l = List.replicate l.length true := by
  rw [List.countP_eq_length] at h
  exact List.eq_replicate_of_mem fun b hb => h b hb
theorem full_set {l : List Bool} {i m : Nat} (h : i < l.length) : (fullL l m).setIfInBounds i true = fullL (l.set i true) m := by
  unfold fullL
  rw [List.setIfInBounds_toArray, List.set_append_left _ _ h]
theorem wpOpIn_of_head (hn : n ≤ l1.length) (hg : ∀ o ∈ l1.take n, ∀ j b, o.guard = some (j, b) → j < n) (hnd : noDefer l1.toArray = true) {i : Nat} (hi : i < n) {a : Act} {w : World} {K K' : Act → World → Prop} (h : ∀ a w, K a w → K' a w)
    (hh : wpOp P (l1.take n).toArray (onlyN QT) i K a w) : wpOpIn (Fence.wide.inRound l) 0 P l1.toArray Q i K' a w := by
  obtain ⟨o, ho⟩ : ∃ o, l1[i]? = some o := ⟨_, List.getElem?_eq_getElem (by omega)⟩
  have ho' : (l1.take n)[i]? = some o := by rw [List.getElem?_take_of_lt hi]; exact ho
  have hw : Region.wanted o (yielded (l1.take n).toArray a.tmps) = Region.wanted o (yielded l1.toArray a.tmps) := by
    unfold Region.wanted
    cases hgd : o.guard with
    | none => rfl
    | some p =>
      obtain ⟨j, b⟩ := p
      have hj := hg o (List.mem_of_getElem? ho') j b hgd
      simp only [yielded, List.getElem?_toArray, List.getElem?_take_of_lt hj]
  unfold wpOp at hh
  unfold wpOpIn
  simp only [List.getElem?_toArray, ho, ho'] at hh ⊢
  rw [hw] at hh
  split
  · rename_i hwt
    simp only [hwt, if_true] at hh
    rcases hh with hh | ⟨_, hh⟩
    · refine wpIn_of_wp' (fun c hc => ?_) h hh
      have := List.all_eq_true.1 hnd o (List.mem_of_getElem? ho)
      rw [hc] at this
      cases this
    · exact absurd hh onlyN_lets'
  · rename_i hwt; simp only [hwt] at hh; exact ⟨fun _ _ => trivial, h _ _ hh⟩
theorem wpAnyIn_of_headH (hnd : noDefer l1.toArray = true) (hB : headB md l1 n = true) : ∀ (f : Nat) (L : List Bool) (a : Act) (w : World), L.length = n → L.countP id + f = n → shutB md l1.toArray (fullL L (l1.length - n)) = true →
    wpAnyH P md (l1.take n).toArray (onlyN fun _ a w => wpListIn (Fence.wide.inRound l) 0 P l1.toArray Q (l1.drop n) a w) S f L.toArray a w → wpAnyIn (Fence.wide.inRound l) 0 P md l1.toArray Q (f + (l1.length - n)) (fullL L (l1.length - n)) a w := by
  simp only [headB, Bool.and_eq_true, decide_eq_true_eq] at hB
  obtain ⟨⟨⟨⟨hn, hg⟩, _⟩, hseq⟩, hall⟩ := hB
  have hg2 : ∀ o ∈ l1.take n, ∀ j b, o.guard = some (j, b) → j < n := fun o ho j b hgd => by
    have := List.all_eq_true.1 hg o ho
    rw [hgd] at this
    simpa using this
  intro f
  induction f with
  | zero =>
    intro L a w hL hc _ h
    obtain rfl : L = List.replicate n true := by have := countP_all (l := L) (by omega); rwa [hL] at this
    have h2 := h.2
    dsimp only [onlyN] at h2
    have hdl : (l1.drop n).length = l1.length - n := List.length_drop
    have h3 := wpAnyIn_of_seq (P := P) (md := md) (Q' := Q) (l := l) (ops := l1.toArray) (l1.drop n) n (fullL (List.replicate n true) (l1.length - n)) a w (fun j => by simp) (by rw [hdl]; exact hseq) h2
    rw [hdl] at h3
    rw [Nat.zero_add]
    exact h3
  | succ f ih =>
    intro L a w hL hc hs h
    have h1 := List.all_eq_true.1 hall L (mem_bitsL n L hL)
    have hna : L.all id = false := by
      cases ha : L.all id with
      | false => rfl
      | true =>
        have : L.countP id = L.length := List.countP_eq_length.2 fun b hb => List.all_eq_true.1 ha b hb
        omega
    rw [hna, hs] at h1
    simp only [Bool.not_true, Bool.or_false, Bool.false_or, Bool.and_eq_true, decide_eq_true_eq, Bool.not_eq_true', List.all_eq_true] at h1
    obtain ⟨⟨hne, hrd⟩, hst⟩ := h1
    rw [show f + 1 + (l1.length - n) = (f + (l1.length - n)) + 1 by omega]
    refine ⟨fun h0 => (by rw [h0] at hne; cases hne), fun i hi => ?_⟩
    obtain ⟨⟨hi1, hi2⟩, hi3⟩ := hst i hi
    have h2 := h.2 i (by rw [← hrd]; exact hi)
    refine wpOpIn_of_head hn hg2 hnd hi1 (fun a' w' h' => ?_) h2
    have h3 := h'.2
    rw [List.setIfInBounds_toArray] at h3
    have h4 := ih (L.set i true) a' w' (by simpa using hL) (by omega) hi3 h3
    rw [full_set (by omega)]
    exact h4
end
theorem wpIn_region_head {l : Nat} {P : Program} {id : Nat} {l1 : List Oper} {Q : Exit → Act → World → Prop} {a : Act} {w : World} (n : Nat) {S : World → Prop} (hm : P.follows .mixedOrders = true) (hnd : noDefer l1.toArray = true) (hB : headB .any l1 n = true) (_hS : S w.drew)
    (h : S w.drew → wpAnyH P .any (l1.take n).toArray (onlyN fun _ a w => wpListIn (Fence.wide.inRound l) 0 P l1.toArray Q (l1.drop n) a w) S n (List.replicate n false).toArray a w.drew) : (Code.region id l1.toArray true).wpIn (Fence.wide.inRound l) 0 P Q a w := by
  have hB2 := hB
  simp only [headB, Bool.and_eq_true, decide_eq_true_eq] at hB2
  obtain ⟨⟨⟨⟨hn, _⟩, hs⟩, _⟩, _⟩ := hB2
  refine wpIn_region_any hm ?_
  have h1 := wpAnyIn_of_headH (Q := Q) (l := l) (P := P) (S := S) hnd hB n (List.replicate n false) a w.drew (by simp) (by simp [List.countP_replicate]) hs (h _hS)
  rw [show n + (l1.length - n) = l1.toArray.size by simp; omega] at h1
  have e : fullL (List.replicate n false) (l1.length - n) = Array.replicate l1.toArray.size false := by
    unfold fullL
    rw [List.replicate_append_replicate, show n + (l1.length - n) = l1.length by omega]
    simp
  rw [e] at h1
  exact h1
end
end Go.Proofs.Ytcbdncjknpdnbaa
