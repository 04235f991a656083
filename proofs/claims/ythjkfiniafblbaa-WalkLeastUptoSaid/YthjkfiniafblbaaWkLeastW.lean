/- WalkLeast walked. -/
import Derived.Test.YthjkfiniafblbaaRefMin
import Derived.Test.YthjkfiniafblbaaWkEqual
import Derived.Test.YthjkfiniafblbaaMinMz
import Derived.Test.YthjkfiniafblbaaSmP
import Derived.Test.YthjkfiniafblbaaWkWakes
import Derived.Test.YthjkfiniafblbaaWkOpenI
namespace Go.Proofs.Ythjkfiniafblbaa
open Go.RowKit

/-- Rows of the call's own, whatever lies in them. -/
def LooseRows (e : TypeId) (size : Nat) (L : List (Value × Nat)) : Thing := fun w fp => (∀ x ∈ L, ∃ cs, w.ownsRow 0 e size x.1 x.2 cs) ∧ ∀ k, k ∈ fp ↔ ∃ x ∈ L, k ∈ rowOf x.1
theorem LooseRows.stable (e : TypeId) (size : Nat) (L : List (Value × Nat)) : Stable (LooseRows e size L) :=
  ⟨fun w fp h k hk => by
      obtain ⟨x, hx, hm⟩ := (h.2 k).1 hk
      obtain ⟨cs, h1⟩ := h.1 x hx
      exact (h1.lt k (mem_rowOf.1 hm)).2,
   fun w w' fp h hs => ⟨fun x hx => by
      obtain ⟨cs, h1⟩ := h.1 x hx
      exact ⟨cs, ownsRow_block h1 fun k hk => hs k ((h.2 k).2 ⟨x, hx, mem_rowOf.2 hk⟩)⟩, h.2⟩⟩
theorem AllRows.loose {α : Type} {e : TypeId} {size : Nat} {val : α → Value} {cells : α → List Value} {n : α → Nat} {xs : List α} {w : World} {fp : List Nat} (h : AllRows e size val cells n xs w fp) : LooseRows e size (xs.map fun x => (val x, n x)) w fp :=
  ⟨fun x hx => by
    obtain ⟨y, hy, rfl⟩ := List.mem_map.1 hx
    exact ⟨_, h.1 y hy⟩, fun k => by
    rw [h.2 k]
    constructor
    · rintro ⟨x, hx, hk⟩; exact ⟨_, List.mem_map.2 ⟨x, hx, rfl⟩, hk⟩
    · rintro ⟨x, hx, hk⟩
      obtain ⟨y, hy, rfl⟩ := List.mem_map.1 hx
      exact ⟨y, hy, hk⟩⟩
theorem own_set {w : World} {e : TypeId} {size : Nat} {v : Value} {n : Nat} {cs : List Value} (h : w.ownsRow 0 e size v n cs) (g o : Nat) (u : Value) : ∃ cs', (w.setCell ⟨g, o, none⟩ u).ownsRow 0 e size v n cs' := by
  rcases h.2 with ⟨rfl, rfl⟩ | ⟨g', cap, cur, rfl, hB, hg, hn, hc, hs, ht⟩
  · exact ⟨cs, h.1, .inl ⟨rfl, rfl⟩⟩
  · by_cases he : g = g'
    · subst he
      refine ⟨(cur.setIfInBounds o u).toList.take (n * size), ?_, .inr ⟨g, cap, cur.setIfInBounds o u, rfl, hB, heap_setCell hg u, hn, hc, by simpa using hs, rfl⟩⟩
      rw [List.length_take]
      have : n * size ≤ cap * size := Nat.mul_le_mul_right _ hn
      simp
      omega
    · refine ⟨cs, h.1, .inr ⟨g', cap, cur, rfl, hB, ?_, hn, hc, hs, ht⟩⟩
      rw [Below.heap_setCell _ _ _ _ (fun e => he e.symm)]
      exact hg
theorem At.looseSet {W w : World} {R : Thing} {e : TypeId} {size : Nat} {L : List (Value × Nat)} (h : At W w (Both (LooseRows e size L) R)) (hR : Stable R) {g n cap : Nat} (hm : (Value.slice (some ⟨g, 0, none⟩) n cap, n) ∈ L) (o : Nat) (u : Value) : At W (w.setCell ⟨g, o, none⟩ u) (Both (LooseRows e size L) R) := by
  obtain ⟨fp, h1, h2, h3⟩ := h.step
  refine h3 hR _ _ ⟨fp, ⟨fun x hx => ?_, h1.2⟩, (Upd.refl _ _).setCell (.inl ((h1.2 g).2 ⟨_, hm, mem_rowOf.2 rfl⟩)) u, fun j hj => .inl hj⟩
  obtain ⟨cs, h4⟩ := h1.1 x hx
  exact own_set h4 g o u
theorem At.looseRow {W w : World} {R : Thing} {e : TypeId} {size : Nat} {L : List (Value × Nat)} (h : At W w (Both (LooseRows e size L) R)) {x : Value × Nat} (hx : x ∈ L) : ∃ cs, w.ownsRow 0 e size x.1 x.2 cs := by
  obtain ⟨_, fp, ⟨f, g, h1, _⟩, _⟩ := h
  exact h1.1 x hx
theorem own_cell {w : World} {e : TypeId} {size g n cap : Nat} {cs : List Value} (h : w.ownsRow 0 e size (.slice (some ⟨g, 0, none⟩) n cap) n cs) {j : Nat} (hj : j < n * size) : ∃ u, w.cell? ⟨g, j, none⟩ = some u ∧ w.frozen? ⟨g, j, none⟩ = false ∧ g < w.heap.size := by
  have hl := h.1
  have h2 := h.cells (g := g) rfl j cs[j] (List.getElem?_eq_getElem (by omega))
  rw [show (⟨g, 0, none⟩ : Addr).add j = ⟨g, j, none⟩ from by unfold Addr.add; split <;> simp_all] at h2
  rcases h.2 with ⟨h3, _⟩ | ⟨g', cap', cur, h3, _, hg, _⟩
  · cases h3
  · cases h3
    exact ⟨_, h2, by simp [World.frozen?, hg], lt_of_heap hg⟩
theorem stc_set0 {xs : List (Sta × Value)} {i : Nat} {x : Sta × Value} (hx : xs[i]? = some x) (f : Bool) : (xs.flatMap stc).set (i * 2) (.bool f) = (xs.set i (⟨f, x.1.edges⟩, x.2)).flatMap stc := by
  induction xs generalizing i with
  | nil => simp at hx
  | cons y xs ih =>
    cases i with
    | zero =>
      simp at hx
      subst hx
      rfl
    | succ i =>
      have ih := ih (i := i) (by simpa using hx)
      have e0 : (i + 1) * 2 = i * 2 + 1 + 1 := by omega
      simp only [List.flatMap_cons, List.set_cons_succ]
      rw [e0, ← ih]
      rfl
theorem set_same {α β : Type} (f : α → β) {l : List α} {i : Nat} {x y : α} (hx : l[i]? = some x) (e : f y = f x) : (l.set i y).map f = l.map f := by
  rw [List.map_set, e]
  refine List.ext_getElem? fun j => ?_
  by_cases hj : i = j
  · subst hj
    have hi := (List.getElem?_eq_some_iff.1 hx).1
    rw [List.getElem?_set_self (by simpa using hi), List.getElem?_map, hx]; rfl
  · rw [List.getElem?_set_ne hj]

set_option maxRecDepth 100000 in
set_option maxHeartbeats 6400000 in
theorem walkLeast_walk (W : World) (A : List Sta) (v0 : Value) (hA : RdAut W v0 A) (hl : A.length + edgesN A ≤ 1048576) :
    Calls Try.prog 8 #[v0] W fun e W' => e = .returned (.bool true) ∧ Below W.heap.size W W' := by
  have HW := Lib.hid (wakes_calls W)
  have HA := Lib.hid hA
  clear hA
  go_enter Try.func8, Try.ntmps8
  (repeat' (first | (go_big_may; fail) | go_values | go_skip | go_guarded | go_step | go_upon | go_back | dsimp only))
  refine HW.out.mono ?_
  rintro e1 w1 ⟨rfl, hb1⟩
  have HB1 := Lib.hid hb1
  have HRF := Lib.hid (ref_calls (HA.out.below hb1) hl)
  clear hb1 HW
  (repeat' (first | (go_big_may; fail) | go_values | go_skip | go_guarded | go_step | go_upon | go_back | dsimp only))
  refine HRF.out.mono ?_
  rintro e2 w2 ⟨vx, rfl, h2⟩
  have HS := Lib.hid (RShape_calls h2.autRd hl)
  have H2 := Lib.hid ((At.nought HB1.out).joint Stable.nought h2.keep)
  clear h2 HRF
  (repeat' (first | (go_big_may; fail) | go_values | go_skip | go_guarded | go_step | go_upon | go_back | dsimp only))
  refine HS.out.mono ?_
  rintro e3 w3 ⟨rfl, hb3⟩
  have hsx := (AutG.stable tRS tRE vx A).both Stable.nought
  have H3 := Lib.hid (H2.out.mono hsx hb3)
  clear hb3 HS H2
  cases hs : shapeB A with
  | false =>
    rw [shapeV_bad hs]
    clear hs
    (repeat' (first | (go_big_may; fail) | go_values | go_skip | go_guarded | go_step | go_upon | go_back | dsimp only))
    go_ret
    exact ⟨rfl, H3.out.below⟩
  | true =>
    rw [shapeV_ok hs]
    have hsh := shaped_of hs
    obtain ⟨t, ht, hgt, _⟩ := hsh.tr 0 hsh.pos
    have hml : (minT t).length + edgesN (minT t) ≤ 1048576 := by
      have := minT_le ht
      have := minT_edges ht
      omega
    have HMI := Lib.hid (RMin_calls H3.out.autRd hl hs ht)
    have HMZ := Lib.hid (fun (w : World) (v : Value) (h : RdAut w v A) => Minimize_calls h hl hs ht)
    have HEQA := Lib.hid (fun (w : World) (va vb : Value) (ha : RdAut w va A) (hb : RdAut w vb A) => by
      have h := Equal_calls ha hb hl hl
      rw [decide_eq_true rfl] at h
      exact h)
    have HEQM := Lib.hid (fun (w : World) (va vb : Value) (ha : RdAut w va (minT t)) (hb : RdAut w vb (minT t)) => by
      have h := Equal_calls ha hb hml hml
      rw [decide_eq_true rfl] at h
      exact h)
    clear hs hsh ht hgt
    generalize minT t = M at *
    (repeat' (first | (go_big_may; fail) | go_values | go_skip | go_guarded | go_step | go_upon | go_back | dsimp only))
    refine HMI.out.mono ?_
    rintro e4 w4 ⟨vw, rfl, h4⟩
    have H4 := Lib.hid (H3.out.joint hsx h4.keep)
    have hsw := (AutG.stable tRS tRE vw M).both hsx
    have HTW := Lib.hid (twin_calls (HA.out.below H4.out.below) hl)
    clear h4 HMI H3
    (repeat' (first | (go_big_may; fail) | go_values | go_skip | go_guarded | go_step | go_upon | go_back | dsimp only))
    refine HTW.out.mono ?_
    rintro e5 w5 ⟨vg, rfl, h5⟩
    have H5 := Lib.hid (H4.out.joint hsw h5.keep)
    have hsg := (AutG.stable tPS tPE vg A).both hsw
    have HMI := Lib.hid (HMZ.out w5 vg h5.autRd)
    clear h5 HTW H4
    (repeat' (first | (go_big_may; fail) | go_values | go_skip | go_guarded | go_step | go_upon | go_back | dsimp only))
    refine HMI.out.mono ?_
    rintro e6 w6 ⟨vb, rfl, h6⟩
    have H6 := Lib.hid (H5.out.joint hsg h6.keep)
    have HRF := Lib.hid (ref_calls h6.autRd hml)
    have hsb := (AutG.stable tAS tAE vb M).both hsg
    clear h6 HMI H5
    (repeat' (first | (go_big_may; fail) | go_values | go_skip | go_guarded | go_step | go_upon | go_back | dsimp only))
    refine HRF.out.mono ?_
    rintro e7 w7 ⟨v7, rfl, h7⟩
    have H7 := Lib.hid (H6.out.joint hsb h7.keep)
    have HEQ := Lib.hid (HEQM.out w7 v7 vw H7.out.autRd H7.out.drop.drop.drop.autRd)
    clear h7 HRF H6
    (repeat' (first | (go_big_may; fail) | go_values | go_skip | go_guarded | go_step | go_upon | go_back | dsimp only))
    refine HEQ.out.mono ?_
    rintro e8 w8 ⟨rfl, hb8⟩
    have H8 := Lib.hid (H7.out.drop.mono hsb hb8)
    have HRF := Lib.hid (ref_calls H8.out.drop.autRd hl)
    clear hb8 HEQ H7
    (repeat' (first | (go_big_may; fail) | go_values | go_skip | go_guarded | go_step | go_upon | go_back | dsimp only))
    refine HRF.out.mono ?_
    rintro e9 w9 ⟨v9, rfl, h9⟩
    have H9 := Lib.hid (H8.out.joint hsb h9.keep)
    have HEQ := Lib.hid (HEQA.out w9 v9 vx H9.out.autRd H9.out.drop.drop.drop.drop.autRd)
    clear h9 HRF H8
    (repeat' (first | (go_big_may; fail) | go_values | go_skip | go_guarded | go_step | go_upon | go_back | dsimp only))
    refine HEQ.out.mono ?_
    rintro e10 w10 ⟨rfl, hb10⟩
    obtain ⟨xs, hxs, h10⟩ := (H9.out.drop.mono hsb hb10).autRows
    have h11 := h10.impl fun _ q => Both.mono (fun _ _ q => Both.monoL (fun _ _ q => AllRows.loose q) q) q
    obtain ⟨ba, bc, hvb, _, _⟩ := own_shape h10.rowG
    subst hvb
    have hxl : xs.length ≤ 1048576 := by
      have := congrArg List.length hxs
      simp at this
      omega
    have hel : ∀ x ∈ xs, x.1.edges.length ≤ 1048576 := fun x hx => by
      have h1 : x.1 ∈ M := by rw [← hxs]; exact List.mem_map.2 ⟨x, hx, rfl⟩
      obtain ⟨i, hi⟩ := List.getElem?_of_mem h1
      have := edgesN_le hi
      omega
    have HEL := Lib.hid hel
    have H11 := Lib.hid h11
    clear h10 h11 hb10 HEQ H9 hxs hel
    (repeat' (first | (go_big_may; fail) | go_values | go_skip | go_guarded | go_step | go_upon | go_back | dsimp only))
    go_loopw [45] (fun vi wr => ∃ (i : Nat) (ys : List (Sta × Value)), vi = .int .i64 i ∧ i ≤ xs.length ∧ ys.map (fun y => (y.2, y.1.edges.length)) = xs.map (fun y => (y.2, y.1.edges.length)) ∧ At W wr (Both (RowG tAS 2 (.slice ba xs.length bc) xs.length (ys.flatMap stc)) (Both (LooseRows tAE 2 (xs.map fun x => (x.2, x.1.edges.length))) (Both (AutG tPS tPE vg A) (Both (AutG tRS tRE vw M) (Both (AutG tRS tRE vx A) Nought)))))) (fun vi _ => xs.length - (intOf vi).toNat)
    case atStart => exact ⟨0, xs, rfl, Nat.zero_le _, rfl, H11.out⟩
    case round =>
      obtain ⟨i, ys, rfl, hi, hys, h12⟩ := hrel
      have hyl : ys.length = xs.length := by have := congrArg List.length hys; simpa using this
      have hsr := (LooseRows.stable tAE 2 (xs.map fun x => (x.2, x.1.edges.length))).both hsg
      by_cases hlt : i < xs.length
      · have hiI : (i : Int) < (xs.length : Int) := by omega
        obtain ⟨g, cap, hg, _, _, _⟩ := own_cut h12.rowG (by omega)
        simp only [Value.slice.injEq] at hg
        obtain ⟨rfl, _, rfl⟩ := hg
        obtain ⟨y, hy⟩ : ∃ y, ys[i]? = some y := ⟨_, List.getElem?_eq_getElem (by omega)⟩
        have hyd : ys.getD i default = y := by rw [List.getD_eq_getElem?_getD, hy]; rfl
        have hget0 : (ys.flatMap stc)[i * 2]? = some (.bool y.1.final) := by
          have h9 := flatMap_get stc_len ys (i := i) (j := 0) (by omega) (by decide)
          rw [hyd] at h9
          exact h9
        obtain ⟨r1, r2, r3⟩ := h12.rowCell hget0
        have h13 := h12.storeG hsr (i * 2) (.bool (!y.1.final))
        rw [stc_set0 hy] at h13
        have hys2 : (ys.set i (⟨!y.1.final, y.1.edges⟩, y.2)).map (fun y => (y.2, y.1.edges.length)) = xs.map (fun y => (y.2, y.1.edges.length)) := by
          rw [set_same _ hy (by rfl)]
          exact hys
        have hy2 : (ys.set i (⟨!y.1.final, y.1.edges⟩, y.2))[i]? = some (⟨!y.1.final, y.1.edges⟩, y.2) := List.getElem?_set_self (by omega)
        have hmem : (y.2, y.1.edges.length) ∈ xs.map fun x => (x.2, x.1.edges.length) := by
          rw [← hys]
          exact List.mem_map.2 ⟨y, List.mem_of_getElem? hy, rfl⟩
        obtain ⟨x', hx', hxe⟩ := List.mem_map.1 hmem
        have hyel : y.1.edges.length ≤ 1048576 := by
          simp only [Prod.mk.injEq] at hxe
          rw [← hxe.2]
          exact HEL.out x' hx'
        obtain ⟨cs0, hcs0⟩ := h12.drop.looseRow hmem
        obtain ⟨ea, ec, hye, _, _⟩ := own_shape hcs0
        simp only at hye
        generalize hzs : ys.set i (⟨!y.1.final, y.1.edges⟩, y.2) = zs at *
        have hzd : zs.getD i default = (⟨!y.1.final, y.1.edges⟩, y.2) := by rw [List.getD_eq_getElem?_getD, hy2]; rfl
        have hzl : zs.length = xs.length := by rw [← hzs]; simpa using hyl
        have hget1 : (zs.flatMap stc)[i * 2 + 1]? = some (.slice ea y.1.edges.length ec) := by
          have h9 := flatMap_get stc_len zs (i := i) (j := 1) (by omega) (by decide)
          rw [hzd] at h9
          rw [← hye]
          exact h9
        rw [hye] at hmem
        have HMEM := Lib.hid hmem
        have HYS2 := Lib.hid hys2
        have HGET1 := Lib.hid hget1
        obtain ⟨s1, _, _⟩ := h13.rowCell hget1
        have H13 := Lib.hid h13
        clear h12 h13 hy hy2 hyd hzd hys hys2 hget0 hget1 hmem hcs0 hzs hxe hx'
        (repeat' (first | (go_big_may; fail) | go_values | go_skip | go_guarded | go_step | go_upon | go_back | dsimp only))
        go_loopw [64] (fun vk wx => ∃ k : Nat, vk = .int .i64 k ∧ k ≤ y.1.edges.length ∧ At W wx (Both (RowG tAS 2 (.slice (some ⟨g, 0, none⟩) xs.length bc) xs.length (zs.flatMap stc)) (Both (LooseRows tAE 2 (xs.map fun x => (x.2, x.1.edges.length))) (Both (AutG tPS tPE vg A) (Both (AutG tRS tRE vw M) (Both (AutG tRS tRE vx A) Nought)))))) (fun vk _ => y.1.edges.length - (intOf vk).toNat)
        case atStart => exact ⟨0, rfl, Nat.zero_le _, H13.out⟩
        case round =>
          obtain ⟨k, rfl, hk, h14⟩ := hrel
          by_cases hlk : k < y.1.edges.length
          · have hkI : (k : Int) < (y.1.edges.length : Int) := by omega
            obtain ⟨cs, hcs⟩ := h14.drop.looseRow HMEM.out
            obtain ⟨ge, ecap, hge, _, _, _⟩ := own_cut hcs (by simpa using (by omega : 0 < y.1.edges.length))
            simp only [Value.slice.injEq] at hge
            obtain ⟨rfl, _, rfl⟩ := hge
            obtain ⟨u0, o1, o2, o3⟩ := own_cell hcs (j := k * 2) (by omega)
            obtain ⟨u1, o4, o5, _⟩ := own_cell hcs (j := k * 2 + 1) (by omega)
            obtain ⟨s2, _, _⟩ := h14.rowCell HGET1.out
            have h15 := (h14.swap.looseSet ((RowG.stable _ _ _ _ _).both hsg) HMEM.out (k * 2) (.int .u8 7)).looseSet ((RowG.stable _ _ _ _ _).both hsg) HMEM.out (k * 2 + 1) (.int .i64 (-1))
            have H15 := Lib.hid h15.swap
            clear h14 h15 hcs
            (repeat' (first | (go_big_may; fail) | go_values | go_skip | go_guarded | go_step | go_upon | go_back | dsimp only))
            go_roundw
            case rel => exact ⟨k + 1, by simp, by omega, H15.out⟩
            case measure => simp [intOf] <;> omega
          · obtain rfl : k = y.1.edges.length := by omega
            have hkI : ¬ (y.1.edges.length : Int) < (y.1.edges.length : Int) := by omega
            have H14 := Lib.hid h14
            clear h14
            (repeat' (first | (go_big_may; fail) | go_values | go_skip | go_guarded | go_step | go_upon | go_back | dsimp only))
            go_roundw
            case rel => exact ⟨i + 1, zs, by simp, by omega, HYS2.out, H14.out⟩
            case measure => simp [intOf] <;> omega
      · obtain rfl : i = xs.length := by omega
        have hiI : ¬ (xs.length : Int) < (xs.length : Int) := by omega
        have H12 := Lib.hid h12.drop.drop
        have HMI := Lib.hid (HMZ.out wr vg H12.out.autRd)
        clear h12 hsr hys hyl
        (repeat' (first | (go_big_may; fail) | go_values | go_skip | go_guarded | go_step | go_upon | go_back | dsimp only))
        refine HMI.out.mono ?_
        rintro e13 w13 ⟨vc, rfl, h13⟩
        have H13 := Lib.hid (H12.out.joint hsg h13.keep)
        have hsc := (AutG.stable tAS tAE vc M).both hsg
        have HRF := Lib.hid (ref_calls H13.out.drop.autRd hl)
        clear h13 HMI H12
        (repeat' (first | (go_big_may; fail) | go_values | go_skip | go_guarded | go_step | go_upon | go_back | dsimp only))
        refine HRF.out.mono ?_
        rintro e14 w14 ⟨v14, rfl, h14⟩
        have H14 := Lib.hid (H13.out.joint hsc h14.keep)
        have HEQ := Lib.hid (HEQA.out w14 v14 vx H14.out.autRd H14.out.drop.drop.drop.drop.autRd)
        clear h14 HRF H13
        (repeat' (first | (go_big_may; fail) | go_values | go_skip | go_guarded | go_step | go_upon | go_back | dsimp only))
        refine HEQ.out.mono ?_
        rintro e15 w15 ⟨rfl, hb15⟩
        have H15 := Lib.hid (H14.out.drop.mono hsc hb15)
        have HRF := Lib.hid (ref_calls H15.out.autRd hml)
        clear hb15 HEQ H14
        (repeat' (first | (go_big_may; fail) | go_values | go_skip | go_guarded | go_step | go_upon | go_back | dsimp only))
        refine HRF.out.mono ?_
        rintro e16 w16 ⟨v16, rfl, h16⟩
        have H16 := Lib.hid (H15.out.joint hsc h16.keep)
        have HEQ := Lib.hid (HEQM.out w16 v16 vw H16.out.autRd H16.out.drop.drop.drop.autRd)
        clear h16 HRF H15
        (repeat' (first | (go_big_may; fail) | go_values | go_skip | go_guarded | go_step | go_upon | go_back | dsimp only))
        refine HEQ.out.mono ?_
        rintro e17 w17 ⟨rfl, hb17⟩
        have HB17 := Lib.hid ((H16.out.below.trans (hb17.mono H16.out.below.size)))
        clear hb17 HEQ H16
        (repeat' (first | (go_big_may; fail) | go_values | go_skip | go_guarded | go_step | go_upon | go_back | dsimp only))
        go_ret
        exact ⟨rfl, HB17.out⟩
end Go.Proofs.Ythjkfiniafblbaa
