/- heap: Drain walked. -/
import Derived.Test.YtgahkodbjokgfaaHeapPop
namespace Go.Proofs.Ytgahkodbjokgfaa
open Go.RowKit

/-- All items in their order. -/
def drainH (R : It × Nat → It × Nat → Bool) : Nat → List (It × Nat) → List It
  | 0, _ => []
  | n + 1, l => if l = [] then [] else (l.getD 0 default).1 :: drainH R n (hp.popL R l)
theorem popL_length {R : It × Nat → It × Nat → Bool} {l : List (It × Nat)} (h : l ≠ []) : (hp.popL R l).length + 1 = l.length := by
  have := (hp.pop_perm (R := R) h).length_eq
  simpa using this
/-- What is still to come: of an item at hand (if there is one), and of the heap. -/
def toCome (R : It × Nat → It × Nat → Bool) (r : It × Bool) (l : List (It × Nat)) : List It := if r.2 then r.1 :: drainH R l.length l else []
theorem drainH_length (R : It × Nat → It × Nat → Bool) : ∀ (n : Nat) (l : List (It × Nat)), (drainH R n l).length ≤ n
  | 0, _ => Nat.le_refl _
  | n + 1, l => by
    unfold drainH
    by_cases h : l = []
    · rw [if_pos h]; simp
    · rw [if_neg h]; have := drainH_length R n (hp.popL R l); simp; omega
theorem toCome_peek (R : It × Nat → It × Nat → Bool) (l : List (It × Nat)) : toCome R (peekR l) (popR R l) = drainH R l.length l := by
  by_cases h : l = []
  · subst h; rfl
  · unfold toCome peekR popR
    rw [if_neg h, if_neg h]
    have := popL_length (R := R) h
    rw [← this]
    simp only [if_true, drainH, if_neg h]

theorem pop_false {R : It × Nat → It × Nat → Bool} {l : List (It × Nat)} (h : (peekR l).2 = false) : popR R l = [] := by
  unfold peekR at h
  unfold popR
  by_cases hl : l = []
  · rw [if_pos hl]
  · rw [if_neg hl] at h; cases h
theorem cellsI_append (l r : List It) : cellsI (l ++ r) = cellsI l ++ cellsI r := by simp [cellsI]
theorem info_It : (Try.prog.info? 25).map (fun i => (i.zero, i.size, i.bytes)) = some (some (.agg #[.int .i64 0, .int .i64 0]), 2, 16) := by kernel_rfl
theorem two_oneCell (a b : Int) : ∀ u ∈ (#[Value.int .i64 a, .int .i64 b] : Array Value).toList, u.oneCell' = true := by
  intro u hu; simp at hu; rcases hu with rfl | rfl <;> rfl

def sliceLen : Value → Nat | .slice _ n _ => n | _ => 0
theorem sliceLen_own {w : World} {B : Nat} {e : TypeId} {size : Nat} {v : Value} {n : Nat} {xs : List Value} (h : w.ownsRow B e size v n xs) : sliceLen v = n := by
  rcases h.2 with ⟨rfl, rfl⟩ | ⟨g, cap, cur, rfl, _⟩ <;> rfl

set_option maxHeartbeats 400000 in
theorem Clip_calls (w : World) (ao : Option Addr) (n cap : Nat) (hn : n ≤ cap) (hc : cap ≤ 9223372036854775807) (h0 : ao = none → cap = 0) :
    Calls Try.prog 33 #[.slice ao n cap] w fun e w' => e = .returned (.slice ao n n) ∧ w = w' := by
  cases ao with
  | none =>
    have := h0 rfl
    subst this
    obtain rfl : n = 0 := by omega
    go_enter Try.func33, Try.ntmps33
    (repeat' (first | (go_big_may; fail) | go_values | go_skip | go_guarded | go_step | go_upon | go_back | dsimp only))
    go_ret
    exact ⟨rfl, rfl⟩
  | some a =>
    go_enter Try.func33, Try.ntmps33
    (repeat' (first | (go_big_may; fail) | go_values | go_skip | go_guarded | go_step | go_upon | go_back | dsimp only))
    go_ret
    exact ⟨rfl, rfl⟩

/-- 'append(s, x, ..)', the new elements in a block laid just ahead; and which row it is behind it. -/
theorem wpList_append_new2 {P : Program} {w : World} {ops : Array Oper} {rest : List Oper} {o : Oper} {a : Act} {Q : Exit → Act → World → Prop} (hgd : o.guard = none)
    (s x : Operand) (t e : TypeId) (ho : o.op = .call { callee := .builtin .append, args := #[s, x], argTypes := #[t, t] }) (ht : P.underlying t = some (.slice e))
    {z : Value} {size bytes : Nat} (hinfo : (P.info? e).map (fun i => (i.zero, i.size, i.bytes)) = some (some z, size, bytes)) (hzs : z.cells.size = size) (hsz : 0 < size)
    {base : Nat} {v : Value} {n : Nat} {xs : List Value} (hs : a.eval s = v) (hown : w.ownsRow base e size v n xs)
    {C : Array Value} {m c : Nat} (hx : a.eval x = .slice (some ⟨w.heap.size, 0, none⟩) m c) (hC : C.size = m * size) (h1 : ∀ u ∈ C.toList, u.oneCell' = true)
    (hB : base ≤ w.heap.size) (h63 : n + m ≤ maxLen) (hbytes : (n + m) * bytes ≤ 140737488355328)
    (h : ∀ v' w', w'.ownsRow base e size v' (n + m) (xs ++ C.toList) → w.grownBy w' v.ownBlock → (∀ k, v'.ownBlock = some k → v.ownBlock = some k ∨ w.heap.size ≤ k) → wpList P ops Q rest (a.put o.dst v') w') :
    wpList P ops Q (o :: rest) a (w.alloc (.cells C e)) := by
  obtain ⟨i0, hi, hz0, hz1, hz2⟩ := info_parts hinfo
  have hcells : ∀ j u, C.toList[j]? = some u → (w.alloc (.cells C e)).cell? ((⟨w.heap.size, 0, none⟩ : Addr).add j) = some u := by
    intro j u hu
    have : (⟨w.heap.size, 0, none⟩ : Addr).add j = ⟨w.heap.size, j, none⟩ := by unfold Addr.add; split <;> simp_all
    rw [this, World.cell?_alloc_at _ _ _ _ rfl]
    simpa using hu
  refine wpList_plain hgd fun K hK' => ?_
  obtain ⟨v', w', hr, h2, h3, _⟩ := run_append_own (P := P) (w.alloc (.cells C e)) base t o.type e i0 z size bytes ht hi hz0 hz1 hz2 hzs hsz v n xs (hown.alloc _) ⟨w.heap.size, 0, none⟩ m c C.toList (by simpa using hC) hcells h1 h63 hbytes (by simp; omega)
  have hb := append_block (P := P) (w.alloc (.cells C e)) t o.type e i0 z size bytes ht hi hz0 hz1 hz2 hzs hsz (hown.alloc _) ⟨w.heap.size, 0, none⟩ m c C.toList (by simpa using hC) hcells h1 h63 hbytes hr
  unfold Oper.wp
  simp [execOp, ho, resolve, invoke, builtin, hs, hx, hr, Result.andThen]
  exact hK' _ _ (h v' w' h2 (World.grownBy.of_alloc h3) fun k hk => (hb k hk).imp id (fun h => by simp at h; omega))

/-- Behind the append of Drain's round. -/
theorem dr_mid {w wr w2 : World} {b p : Nat} {f vh vo vo1 : Value} {lr : List (It × Nat)} {turns n : Nat} {xs : List Value} {fp : List Nat} {C : Array Value}
    (hs : wr.heap[p]? = some (.cells C 25 (0, 0))) (hh : HeapI wr b f lr turns vh) (hup : Upd fp w wr) (hdis : ∀ k, vo.ownBlock = some k → k ∉ b :: rowOf vh) (hp3 : vo.ownBlock ≠ some p)
    (hown : wr.ownsRow w.heap.size 25 2 vo n xs) (hg1 : wr.grownBy w2 vo.ownBlock) (hbk : ∀ k, vo1.ownBlock = some k → vo.ownBlock = some k ∨ wr.heap.size ≤ k) :
    w2.heap[p]? = some (.cells C 25 (0, 0)) ∧ HeapI w2 b f lr turns vh ∧ Upd fp w w2 ∧ wr.heap.size ≤ w2.heap.size ∧ (∀ k, vo1.ownBlock = some k → k ∉ b :: rowOf vh) := by
  refine ⟨?_, hh.of_block fun k hk => hg1.block k (hh.lt k hk) (fun e => hdis k e.symm hk), hup.grown hg1 (fun k hk => .inr (hown.lt k hk).1), hg1.size, fun k hk hm => ?_⟩
  · rw [hg1.block p (lt_of_heap hs) (fun e => hp3 e.symm)]; exact hs
  · rcases hbk k hk with h | h
    · exact hdis k h hm
    · have := hh.lt k hm; omega

/-- The loop of Drain. -/
def DrAt (w : World) (b : Nat) (f : Value) (R : It × Nat → It × Nat → Bool) (turns : Nat) (v0 : Value) (goal : List It) (vo : Value) (p : Nat) (ok : Bool) (wr : World) : Prop :=
  ∃ acc l v x, HeapI wr b f l turns v ∧ wr.ownsRow w.heap.size 25 2 vo acc.length (cellsI acc) ∧ wr.heap[p]? = some (.cells #[.int .i64 x.key, .int .i64 x.tag] 25 (0, 0)) ∧ w.heap.size ≤ p ∧
    p ∉ b :: rowOf v ∧ vo.ownBlock ≠ some p ∧ (∀ k, vo.ownBlock = some k → k ∉ b :: rowOf v) ∧ acc ++ toCome R (x, ok) l = goal ∧ (ok = false → l = []) ∧ l.length ≤ 1099511627776 ∧ Upd (b :: rowOf v0) w wr ∧ Grow w (b :: rowOf v0) (b :: rowOf v)

/-- What Drain answers: items in memory of the call's own. -/
def Items (w : World) (D : List It) (v : Value) (w' : World) : Prop :=
  ∃ g cap cur, (v = .slice none 0 0 ∧ D = []) ∨ (v = .slice (some ⟨g, 0, none⟩) D.length cap ∧ w.heap.size ≤ g ∧ w'.heap[g]? = some (.cells cur 25 (0, 0)) ∧ D.length ≤ cap ∧ cap ≤ maxLen ∧ cap * 2 ≤ cur.size ∧ cur.toList.take (D.length * 2) = cellsI D)

set_option maxRecDepth 100000 in
set_option maxHeartbeats 3200000 in
theorem Drain_calls2 {w : World} {b : Nat} {fl : FuncId} {lt : It → It → Bool} (hL : LessI fl lt) {l : List (It × Nat)} {turns : Nat} {v : Value} (h : HeapI w b (.func (.func fl) #[] #[]) l turns v) (hn : l.length ≤ 1099511627776) :
    Calls Try.prog 16 #[.pointer (some ⟨b, 0, none⟩)] w fun e w' => ∃ vr, e = .returned vr ∧ Items w (drainH (hp.ahead lt) l.length l) vr w' ∧ ∃ v', HeapI w' b (.func (.func fl) #[] #[]) [] turns v' ∧ Upd (b :: rowOf v) w w' ∧ Grow w (b :: rowOf v) (b :: rowOf v') ∧ (∀ k, vr.ownBlock = some k → k ∉ b :: rowOf v') ∧ ∀ a n c, vr = .slice a n c → c = n := by
  have hbs := lt_of_heap h.1
  have H := Lib.hid h
  clear h
  go_enter Try.func16, Try.ntmps16
  (repeat' (first | (go_big_may; fail) | go_values | go_skip | go_guarded | go_step | go_upon | go_back | dsimp only))
  refine (Pop_calls hL H.out hn).mono ?_
  rintro e w1 ⟨rfl, v1, hh1, hu1, hg1⟩
  obtain ⟨x, ok, hx⟩ : ∃ x ok, peekR l = (x, ok) := ⟨_, _, rfl⟩
  have htc := toCome_peek (hp.ahead lt) l
  rw [hx] at htc
  rw [hx]
  have HX := Lib.hid hx
  have HT := Lib.hid htc
  have HH1 := Lib.hid hh1
  have HU1 := Lib.hid hu1
  have HG1 := Lib.hid hg1
  have hs1 := hu1.size
  clear hx htc hh1 hu1 hg1
  (repeat' (first | (go_big_may; fail) | go_values | go_skip | go_guarded | go_step | go_upon | go_back | dsimp only))
  go_loopw [3, 4, 5] (fun vo q ok wr => ∃ p okb, q = .pointer (some ⟨p, 0, none⟩) ∧ ok = .bool okb ∧ DrAt w b (.func (.func fl) #[] #[]) (hp.ahead lt) turns v (drainH (hp.ahead lt) l.length l) vo p okb wr) (fun vo _ _ _ => (drainH (hp.ahead lt) l.length l).length - sliceLen vo)
  case atStart =>
    refine ⟨w1.heap.size, ok, rfl, rfl, [], popR (hp.ahead lt) l, v1, x, HH1.out.below ((Below.refl _ _).alloc (Nat.le_refl _) _), World.ownsRow_nil _ _ _ _, heap_alloc_new w1 _, hs1, ?_, by simp [Value.ownBlock], by simp [Value.ownBlock], by simpa using HT.out, fun e => pop_false (by rw [HX.out, e]), ?_, HU1.out.alloc _, HG1.out⟩
    · intro hm; have := HH1.out.lt _ hm; omega
    · have : (popR (hp.ahead lt) l).length ≤ l.length := by
        unfold popR
        by_cases hl : l = []
        · rw [if_pos hl]; simp
        · rw [if_neg hl]; have := popL_length (R := hp.ahead lt) hl; omega
      omega
  case round =>
    obtain ⟨p, okb, rfl, rfl, acc, lr, vh, x', hh, hown, hsl, hp1, hp2, hp3, hdis, hgo, hfl, hnn, hup, hgr⟩ := hrel
    have hlen := sliceLen_own hown
    clear HX HT HH1 HU1 HG1 hs1
    cases okb
    · have hacc : acc = drainH (hp.ahead lt) l.length l := by rw [← hgo]; simp [toCome]
      have HA := Lib.hid hacc
      clear hacc hgo
      have hl0 := hfl rfl
      subst hl0
      have HH := Lib.hid hh
      have HOWN := Lib.hid hown
      have HUP := Lib.hid hup
      have HGR := Lib.hid hgr
      obtain ⟨ao, cap, hv, hcap, hcap2⟩ := (RdRow.of_own hown).shape
      have hnone : ao = none → cap = 0 := by
        intro e
        subst e
        rcases hown.2 with ⟨hv2, _⟩ | ⟨g, cap', cur, hv2, _⟩
        · rw [hv] at hv2; simp only [Value.slice.injEq] at hv2; exact hv2.2.2
        · rw [hv] at hv2; cases hv2
      unfold maxLen at hcap2
      have hdis2 : ∀ k, (Value.slice ao acc.length acc.length).ownBlock = some k → k ∉ b :: rowOf vh := fun k hk => hdis k (by rw [hv]; cases ao with | none => simp [Value.ownBlock] at hk | some a => exact hk)
      have HDIS := Lib.hid hdis2
      have HV := Lib.hid hv
      subst hv
      clear hh hown hup hgr hsl hp2 hp3 hdis hdis2 hlen HV
      (repeat' (first | (go_big_may; fail) | go_values | go_skip | go_guarded | go_step | go_upon | go_back | dsimp only))
      refine (Clip_calls _ ao acc.length cap hcap hcap2 hnone).mono ?_
      rintro e w' ⟨rfl, rfl⟩
      (repeat' (first | (go_big_may; fail) | go_values | go_skip | go_guarded | go_step | go_upon | go_back | dsimp only))
      go_ret
      refine ⟨_, rfl, ?_, vh, HH.out, HUP.out, HGR.out, HDIS.out, fun a n c e => by cases e; rfl⟩
      rw [← HA.out]
      rcases HOWN.out.2 with ⟨hv2, h0⟩ | ⟨g, cap', cur, hv2, hg1, hg2, hg3, hg4, hg5, hg6⟩
      · simp only [Value.slice.injEq] at hv2
        obtain ⟨rfl, _, _⟩ := hv2
        exact ⟨0, 0, #[], .inl ⟨by rw [h0]; rfl, List.length_eq_zero_iff.1 h0⟩⟩
      · cases hv2
        exact ⟨g, acc.length, cur, .inr ⟨rfl, hg1, hg2, Nat.le_refl _, by omega, by omega, hg6⟩⟩
    · have hgo' : acc ++ x' :: drainH (hp.ahead lt) lr.length lr = drainH (hp.ahead lt) l.length l := by rw [← hgo]; rfl
      have hgl := congrArg List.length hgo'
      simp only [List.length_append, List.length_cons] at hgl
      have hdl := drainH_length (hp.ahead lt) l.length l
      have htc := toCome_peek (hp.ahead lt) lr
      have hpr : (popR (hp.ahead lt) lr).length + 1 ≤ lr.length ∨ lr = [] := by
        by_cases hl : lr = []
        · exact .inr hl
        · left; unfold popR; rw [if_neg hl]; have := popL_length (R := hp.ahead lt) hl; omega
      obtain ⟨x0, x1, y0, y1, hsz⟩ := slot_facts hsl
      have HGO := Lib.hid hgo'
      have HGL := Lib.hid hgl
      have HTC := Lib.hid htc
      have HPR := Lib.hid hpr
      have HS := Lib.hid hsl
      have HH := Lib.hid hh
      have HUP := Lib.hid hup
      have HGR := Lib.hid hgr
      have HDIS := Lib.hid hdis
      have HLN := Lib.hid hlen
      have hBw : w.heap.size ≤ wr.heap.size := hup.size
      have hacc : acc.length ≤ 1099511627776 := by omega
      clear hgo hgo' hgl htc hpr hsl hh hup hgr hdis hlen
      (repeat' (first | (go_big_may; (at_builtin; go_must (refine wpList_append_new2 rfl _ _ 22 25 rfl Try.underlying22 info_It rfl (by decide) rfl hown rfl rfl (two_oneCell _ _) hBw (by unfold maxLen; omega) (by omega) ?_); intro vo1 w2 hown1 hg1 hbk; obtain ⟨hs2, hh2, hup2, hw2, hdis2⟩ := dr_mid HS.out HH.out HUP.out HDIS.out hp3 hown hg1 hbk; obtain ⟨x0', x1', y0', y1', hsz2⟩ := slot_facts hs2; have HOWN1 := Lib.hid hown1; have HS2 := Lib.hid hs2; have HH2 := Lib.hid hh2; have HUP2 := Lib.hid hup2; have HDIS2 := Lib.hid hdis2; clear x0 x1 y0 y1 hown1 hs2 hh2 hup2 hdis2 hg1 hbk)) | go_values | go_skip | go_guarded | go_step | go_upon | go_back | dsimp only))
      have hba : Below w2.heap.size w2 (w2.alloc (.cells #[.int .i64 x'.key, .int .i64 x'.tag] 25)) := (Below.refl _ _).alloc (Nat.le_refl _) _
      have hh3 := HH2.out.below hba
      have hq3 := heap_alloc_new w2 (.cells #[.int .i64 x'.key, .int .i64 x'.tag] 25)
      have hup3 := HUP2.out.trans (Upd.of_below hba []) (Grow.nil _ _)
      have hown3 := ownsRow_below HOWN1.out hba
      have hqn : w2.heap.size ∉ b :: rowOf vh := fun hm => by have := HH2.out.lt _ hm; omega
      have hqo : vo1.ownBlock ≠ some w2.heap.size := fun e => by have := (HOWN1.out.lt _ e).2; omega
      have hqw : w.heap.size ≤ w2.heap.size := HUP2.out.size
      generalize w2.alloc (.cells #[.int .i64 x'.key, .int .i64 x'.tag] 25) = W3 at *
      refine (Pop_calls hL hh3 (by omega)).mono ?_
      rintro e w4 ⟨rfl, v4, hh4, hu4, hg4⟩
      have hq4 : w4.heap[w2.heap.size]? = some (.cells #[.int .i64 x'.key, .int .i64 x'.tag] 25 (0, 0)) := by
        rw [hu4.block _ (lt_of_heap hq3) hqn]; exact hq3
      have hown4 : w4.ownsRow w.heap.size 25 2 vo1 (acc.length + 1) (cellsI acc ++ [.int .i64 x'.key, .int .i64 x'.tag]) :=
        ownsRow_block hown3 fun k hk => hu4.block k (hown3.lt k hk).2 (HDIS2.out k hk)
      have hup4 := hup3.trans hu4 HGR.out
      have hgr4 := HGR.out.trans hg4 hup3.size
      have hdis4 : ∀ k, vo1.ownBlock = some k → k ∉ b :: rowOf v4 := fun k hk hm => by
        rcases hg4 k hm with h | h
        · exact HDIS2.out k hk h
        · have := (hown3.lt k hk).2; omega
      have hqn4 : w2.heap.size ∉ b :: rowOf v4 := fun hm => by
        rcases hg4 _ hm with h | h
        · exact hqn h
        · have := lt_of_heap hq3; omega
      generalize hqq : w2.heap.size = q at *
      obtain ⟨y, okn, hy⟩ : ∃ y okn, peekR lr = (y, okn) := ⟨_, _, rfl⟩
      rw [hy]
      have htc := HTC.out
      rw [hy] at htc
      have HOK := Lib.hid (show (peekR lr).2 = okn by rw [hy])
      obtain ⟨z0, z1, f0, f1, hqs⟩ := slot_facts hq4
      have HQ4 := Lib.hid hq4
      have HTC2 := Lib.hid htc
      have HH4 := Lib.hid hh4
      have HOWN4 := Lib.hid hown4
      have HUP4 := Lib.hid hup4
      have HGR4 := Lib.hid hgr4
      have HDIS4 := Lib.hid hdis4
      clear hba hh3 hq3 hup3 hown3 hqn hh4 hu4 hg4 hq4 hown4 hup4 hgr4 hdis4 hqq hy htc x0' x1' y0' y1' hsz2
      (repeat' (first | (go_big_may; fail) | go_values | go_skip | go_guarded | go_step | go_upon | go_back | dsimp only))
      go_roundw
      case rel =>
        refine ⟨q, okn, rfl, rfl, acc ++ [x'], popR (hp.ahead lt) lr, v4, y, ?_, ?_, heap_setCell (heap_setCell HQ4.out _) _, hqw, hqn4, hqo, HDIS4.out, ?_, ?_, ?_, ?_, HGR4.out⟩
        · refine HH4.out.of_block fun k hk => ?_
          have hk' : k ≠ q := fun e => hqn4 (e ▸ hk)
          rw [Below.heap_setCell _ _ _ _ hk', Below.heap_setCell _ _ _ _ hk']
        · rw [cellsI_append]
          refine ownsRow_block (by simpa [cellsI] using HOWN4.out) fun k hk => ?_
          have hk' : k ≠ q := fun e => hqo (by rw [hk, e])
          rw [Below.heap_setCell _ _ _ _ hk', Below.heap_setCell _ _ _ _ hk']
        · rw [HTC2.out, ← HGO.out]; simp
        · intro e
          cases hl : lr with
          | nil => rfl
          | cons a r => exact absurd e (by rw [← HOK.out, hl]; simp [peekR])
        · have h1 := HPR.out
          rcases h1 with h1 | h1
          · omega
          · rw [h1]; simp [popR]
        · exact (HUP4.out.setCell (p := ⟨q, 0, none⟩) (.inr hqw) _).setCell (p := ⟨q, 1, none⟩) (.inr hqw) _
      case measure =>
        have h1 := sliceLen_own HOWN4.out
        have h2 := HLN.out
        have h3 := HGL.out
        rw [h1, h2]; omega

theorem Drain_calls {w : World} {b : Nat} {fl : FuncId} {lt : It → It → Bool} (hL : LessI fl lt) {l : List (It × Nat)} {turns : Nat} {v : Value} (h : HeapI w b (.func (.func fl) #[] #[]) l turns v) (hn : l.length ≤ 1099511627776) :
    Calls Try.prog 16 #[.pointer (some ⟨b, 0, none⟩)] w fun e w' => ∃ vr, e = .returned vr ∧ Items w (drainH (hp.ahead lt) l.length l) vr w' ∧ ∃ v', HeapI w' b (.func (.func fl) #[] #[]) [] turns v' ∧ Upd (b :: rowOf v) w w' ∧ Grow w (b :: rowOf v) (b :: rowOf v') :=
  (Drain_calls2 hL h hn).mono fun _ _ ⟨vr, h1, h2, v', h3, h4, h5, _⟩ => ⟨vr, h1, h2, v', h3, h4, h5⟩
end Go.Proofs.Ytgahkodbjokgfaa
