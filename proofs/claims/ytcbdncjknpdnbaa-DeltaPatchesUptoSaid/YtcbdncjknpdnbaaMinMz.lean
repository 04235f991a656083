/- walk's fold walked: each state gets the class of its tree. · walk's lay walked: the classes numbered in the order of being met. · walk.Minimize walked: the least automaton of the tree. -/
import Derived.Test.YtcbdncjknpdnbaaMinPl
import Derived.Test.YtcbdncjknpdnbaaBuK
import Derived.Test.YtcbdncjknpdnbaaMapT
import Derived.Test.YtcbdncjknpdnbaaShelf
import Derived.Test.YtcbdncjknpdnbaaBuilder
import Derived.Test.YtcbdncjknpdnbaaDawgFz
import Derived.Test.YtcbdncjknpdnbaaWkRCnt
import Derived.Test.YtcbdncjknpdnbaaWkGather
import Derived.Deep.RegionLaw
import Derived.Deep.DeepCutAuto
import Derived.Test.YtcbdncjknpdnbaaDawgBuild
import Derived.Test.YtcbdncjknpdnbaaWkShape
import Derived.Test.YtcbdncjknpdnbaaWkNth
namespace Go.Proofs.Ytcbdncjknpdnbaa
section
open Go.RowKit
open Go.Maps (Keyed)

abbrev tFo : TypeId := 96
abbrev tMSI : TypeId := 89
theorem str_key : Keyed Try.prog tStr := Go.Maps.string_keyed Try.underlying9
theorem keyOf_str (l : List UInt8) (h : l.length ≤ maxLen) : ∃ kl, keyOf Try.prog tStr (.string ⟨l.toArray⟩) = some kl := by
  refine ⟨.string l, ?_⟩
  simp [keyOf, mapKey, Try.underlying9]
  simpa [ByteArray.size] using h
/-- The known keys. -/
def knT (Ts : List Trie) : List (Value × Value) := Ts.map fun t => (.string ⟨(keyT Ts t).toArray⟩, .int .i64 (clsT Ts t : Nat))
theorem knT_new {Ts : List Trie} {t : Trie} (hc : ClosedT Ts) (hk : ∀ c ∈ kids t, c ∈ Ts) (hn : t ∉ Ts) : knT (Ts ++ [t]) = knT Ts ++ [(.string ⟨(keyT Ts t).toArray⟩, .int .i64 ((Ts.length + 1 : Nat) : Int))] := by
  unfold knT
  rw [List.map_append]
  congr 1
  · exact List.map_congr_left fun s hs => by rw [keyT_ext (hc s hs), clsT_ext hs]
  · have h1 : clsT (Ts ++ [t]) t = Ts.length + 1 := by
      have : ∀ l : List Trie, t ∉ l → ixT (l ++ [t]) t = l.length := fun l => by
        induction l with
        | nil => intro _; simp [ixT]
        | cons a l ih =>
          intro h
          simp only [List.cons_append, ixT, List.length_cons]
          rw [if_neg (fun e => h (by simp [e])), ih fun hm => h (by simp [hm])]
      unfold clsT
      rw [this Ts hn]
    simp only [List.map_cons, List.map_nil]
    rw [keyT_ext hk, h1]
theorem knT_hit {Ts : List Trie} {t : Trie} (h : t ∈ Ts) : (Value.string ⟨(keyT Ts t).toArray⟩, Value.int .i64 (clsT Ts t : Nat)) ∈ knT Ts := List.mem_map.2 ⟨t, h, rfl⟩
theorem knT_miss {Ts : List Trie} {t : Trie} (hl : Ts.length < 18446744073709551616) (hc : ClosedT Ts) (hk : ∀ c ∈ kids t, c ∈ Ts) (hn : t ∉ Ts) : ∀ p ∈ knT Ts, p.1 ≠ Value.string ⟨(keyT Ts t).toArray⟩ := by
  intro p hp e
  obtain ⟨s, hs, rfl⟩ := List.mem_map.1 hp
  simp only [Value.string.injEq, ByteArray.mk.injEq] at e
  have e2 : keyT Ts s = keyT Ts t := by simpa using congrArg Array.toList e
  exact hn (keyT_inj hl (hc s hs) hk e2 ▸ hs)

theorem enters_string : ∀ (xs : Array Value) (w : World), (callFunc 65 xs).run Try.prog w = .ok (.enter 65 xs) w := fun xs w => enters_fn Try.func65 (by kernel_rfl) rfl xs w
/-- The folder in memory. -/
def FolT (kf gc mb N : Nat) (va vf : Value) (Ts : List Trie) (C F : List Nat) : Thing :=
  Both (CellT kf #[va, .slice (some ⟨gc, 0, none⟩) N N, .map (some mb), vf] tFo) (Both (RowG tInt 1 (.slice (some ⟨gc, 0, none⟩) N N) N (nats C)) (Both (MapT Try.prog tStr mb (knT Ts)) (RowG tInt 1 vf F.length (nats F))))
theorem FolT.stable (kf gc mb N : Nat) (va vf : Value) (Ts : List Trie) (C F : List Nat) : Stable (FolT kf gc mb N va vf Ts C F) := (CellT.stable _ _ _).both ((RowG.stable _ _ _ _ _).both ((MapT.stable _ _ _ _).both (RowG.stable _ _ _ _ _)))
theorem cell_nb (k : Nat) (cs : Array Value) (T : TypeId) (h1 : T ≠ tU8) (h2 : T ≠ tB) : NoBytes (CellT k cs T) := by
  rintro w fp ⟨h, rfl⟩ j hj
  rw [List.mem_singleton] at hj
  subst hj
  exact ⟨_, h, fun c fz e => h1 (by injection e), fun c fz e => h2 (by injection e)⟩
theorem row_nb (e : TypeId) (size : Nat) (v : Value) (n : Nat) (xs : List Value) (h1 : e ≠ tU8) (h2 : e ≠ tB) : NoBytes (RowG e size v n xs) := by
  rintro w fp ⟨h, rfl⟩ j hj
  rcases h.2 with ⟨rfl, _⟩ | ⟨g, cap, cur, rfl, _, hg, _⟩
  · simp [rowOf, Value.ownBlock] at hj
  · simp [rowOf, Value.ownBlock] at hj
    subst hj
    exact ⟨_, hg, fun c fz e => h1 (by injection e), fun c fz e => h2 (by injection e)⟩
theorem map_nb (P : Program) (k : TypeId) (b : Nat) (M : List (Value × Value)) : NoBytes (MapT P k b M) := by
  rintro w fp ⟨rfl, es, cl, h, _⟩ j hj
  rw [List.mem_singleton] at hj
  subst hj
  exact ⟨_, h, (by intro c fz e; cases e), (by intro c fz e; cases e)⟩
theorem FolT.nb (kf gc mb N : Nat) (va vf : Value) (Ts : List Trie) (C F : List Nat) : NoBytes (FolT kf gc mb N va vf Ts C F) :=
  (cell_nb _ _ _ (by decide) (by decide)).both ((row_nb _ _ _ _ _ (by decide) (by decide)).both ((map_nb _ _ _ _).both (row_nb _ _ _ _ _ (by decide) (by decide))))
theorem At.folOpen {W w : World} {kf gc mb N : Nat} {va vf : Value} {Ts : List Trie} {C F : List Nat} {R : Thing} (h : At W w (Both (FolT kf gc mb N va vf Ts C F) R)) :
    At W w (Both (CellT kf #[va, .slice (some ⟨gc, 0, none⟩) N N, .map (some mb), vf] tFo) (Both (RowG tInt 1 (.slice (some ⟨gc, 0, none⟩) N N) N (nats C)) (Both (MapT Try.prog tStr mb (knT Ts)) (Both (RowG tInt 1 vf F.length (nats F)) R)))) :=
  h.impl fun _ q => Both.mono (fun _ _ q => Both.mono (fun _ _ q => q.unassoc) q.unassoc) (Both.unassoc q)
theorem At.folShut {W w : World} {kf gc mb N : Nat} {va vf : Value} {Ts : List Trie} {C F : List Nat} {R : Thing}
    (h : At W w (Both (CellT kf #[va, .slice (some ⟨gc, 0, none⟩) N N, .map (some mb), vf] tFo) (Both (RowG tInt 1 (.slice (some ⟨gc, 0, none⟩) N N) N (nats C)) (Both (MapT Try.prog tStr mb (knT Ts)) (Both (RowG tInt 1 vf F.length (nats F)) R))))) : At W w (Both (FolT kf gc mb N va vf Ts C F) R) :=
  h.impl fun _ q => Both.assoc' (Both.mono (fun _ _ q => Both.assoc' (Both.mono (fun _ _ q => Both.assoc' q) q)) q)
theorem nats_get {C : List Nat} {i c : Nat} (h : C[i]? = some c) : (nats C)[i]? = some (.int .i64 (c : Nat)) := by simp [nats, h]
theorem nats_set (C : List Nat) (i c : Nat) : (nats C).set i (.int .i64 (c : Nat)) = nats (C.set i c) := by simp [nats, List.map_set]
theorem pk_bound {A : List Sta} {Ts : List Trie} {C F : List Nat} (h : FI A Ts C F) (hl : A.length ≤ 1048576 ∧ edgesN A ≤ 1048576) (i : Nat) : C.getD i 0 < 18446744073709551616 := by
  rw [List.getD_eq_getElem?_getD]
  cases hc : C[i]? with
  | none => simp
  | some v =>
    cases v with
    | zero => simp
    | succ c =>
      obtain ⟨t, u, e⟩ := h.cls i c hc
      have h1 := h.le
      have h2 := (List.getElem?_eq_some_iff.1 e).1
      simp
      omega

set_option maxRecDepth 100000 in
set_option maxHeartbeats 6400000 in
theorem fold_at {W : World} {A : List Sta} {va : Value} (hA : RdAut W va A) (hl : A.length ≤ 1048576 ∧ edgesN A ≤ 1048576) (kf gc mb : Nat) (k : Nat) : ∀ (w : World) (n : Nat) (t : Trie) (vf : Value) (Ts : List Trie) (C F : List Nat) (R : Thing),
    At W w (Both (FolT kf gc mb A.length va vf Ts C F) R) → Stable R → FI A Ts C F → Unf A n t → htT t < k →
    Calls Try.prog 41 #[ptrN kf, .int .i64 n] w fun e w' => ∃ vf' Ts' C' F' c, e = .returned (.int .i64 ((c + 1 : Nat) : Int)) ∧ FStep A Ts Ts' C C' F' ∧ C'[n]? = some (c + 1) ∧ At W w' (Both (FolT kf gc mb A.length va vf' Ts' C' F') R) := by
  induction k with
  | zero => intro w n t vf Ts C F R _ _ _ _ h; omega
  | succ k ih =>
    intro w n t vf Ts C F R h hR hi hu hk
    have hn := hu.lt
    have hnI : (n : Int) < (A.length : Int) := by omega
    obtain ⟨v, hv⟩ : ∃ v, C[n]? = some v := ⟨_, List.getElem?_eq_getElem (by rw [hi.clen]; exact hn)⟩
    have ho := h.folOpen
    obtain ⟨c0, _, _⟩ := ho.cellF (o := 0) rfl
    obtain ⟨c1, _, _⟩ := ho.cellF (o := 1) rfl
    obtain ⟨c3, _, _⟩ := ho.drop.rowCell (nats_get hv)
    cases v with
    | succ c =>
      have hpos : (0 : Int) < ((c + 1 : Nat) : Int) := by omega
      have H := Lib.hid h
      have HI := Lib.hid hi
      have HV := Lib.hid hv
      clear h hi hv hu ih ho hA
      go_enter Try.func41, Try.ntmps41
      (repeat' (first | (go_big_may; fail) | go_values | go_skip | go_guarded | go_step | go_upon | go_back | dsimp only))
      go_ret
      exact ⟨vf, Ts, C, F, c, rfl, ⟨HI.out, List.prefix_rfl, fun _ _ h => h⟩, HV.out, H.out⟩
    | zero =>
      obtain ⟨x, hx, hux⟩ := hu
      obtain ⟨b, off, cap, u, hsv, d0, d1, hue⟩ := hA.at hx
      obtain ⟨ua, uc, rfl, _, huc⟩ := hue.shape
      unfold maxLen at huc
      subst hsv
      have hel := edgesN_le hx
      have D0 := Lib.hid d0
      have D1 := Lib.hid d1
      have H := Lib.hid h
      have HR := Lib.hid hR
      have HI := Lib.hid hi
      have HU := Lib.hid hux
      have HX := Lib.hid hx
      have HV := Lib.hid hv
      have IH := Lib.hid ih
      have HE := Lib.hid (show RdEds W (.slice ua x.edges.length uc) x.edges from hue)
      have HFIN := Lib.hid hux.final
      have h0 := (h.under hR (Nat.le_refl _)).alloc ((FolT.stable _ _ _ _ _ _ _ _ _).both (UnderT.stable hR)) (.cells #[.pointer none, .slice none 0 0] tB)
      have HB0 := Lib.hid (Lib.fresh_isBuilder tB tU8 w)
      have H0 := Lib.hid h0
      have ho2 := h0.folOpen
      obtain ⟨g0, _, _⟩ := ho2.cellF (o := 0) rfl
      have q0 := (h0.below.cell (World.block_lt_of_cell? _ _ d0)).trans d0
      have hWs := h.below.size
      clear h hR hi hux hx ih hue d0 d1 ho ho2 h0 hA hv
      go_enter Try.func41, Try.ntmps41
      go_upto_if 32 with (fail)
      go_cut [] (fun wx => At W wx (Both (FolT kf gc mb A.length (.slice (some ⟨b, off, none⟩) A.length cap) vf Ts C F) (UnderT w.heap.size R)) ∧ Lib.IsBuilder tB tU8 w.heap.size w.heap.size (bvs [if x.final = true then 1 else 0]) wx)
      case first =>
        refine wp_norm ?_
        rename_i J K' hJ hK
        have HJ := Lib.hid hJ
        have HK := Lib.hid hK
        clear hJ hK
        cases hf : x.final with
        | true =>
          rw [hf] at q0
          have HC := Lib.hid (WriteByte_k w.heap.size w.heap.size [] 1 (w.alloc (.cells #[.pointer none, .slice none 0 0] tB)) HB0.out (by simp) (by simp))
          (repeat' (first | (go_big_may; fail) | go_values | go_skip | go_guarded | go_step | go_upon | go_back | dsimp only))
          refine HC.out.mono ?_
          rintro e1 w1 ⟨rfl, hi1, hb1, ho1⟩
          have h1 := H0.out.bytes (FolT.stable _ _ _ _ _ _ _ _ _) (FolT.nb _ _ _ _ _ _ _ _ _) HR.out hWs HB0.out hb1 ho1
          have H1 := Lib.hid (And.intro h1 hi1)
          clear h1 hi1 hb1 ho1
          (repeat' (first | (go_big_may; fail) | go_values | go_skip | go_guarded | go_step | go_upon | go_back | dsimp only))
          refine HK.out _ _ ?_
          have hJ := HJ.out
          go_meet
          case rel => exact ⟨H1.out.1, by rw [hf]; exact H1.out.2⟩
        | false =>
          rw [hf] at q0
          have HC := Lib.hid (WriteByte_k w.heap.size w.heap.size [] 0 (w.alloc (.cells #[.pointer none, .slice none 0 0] tB)) HB0.out (by simp) (by simp))
          (repeat' (first | (go_big_may; fail) | go_values | go_skip | go_guarded | go_step | go_upon | go_back | dsimp only))
          refine HC.out.mono ?_
          rintro e1 w1 ⟨rfl, hi1, hb1, ho1⟩
          have h1 := H0.out.bytes (FolT.stable _ _ _ _ _ _ _ _ _) (FolT.nb _ _ _ _ _ _ _ _ _) HR.out hWs HB0.out hb1 ho1
          have H1 := Lib.hid (And.intro h1 hi1)
          clear h1 hi1 hb1 ho1
          (repeat' (first | (go_big_may; fail) | go_values | go_skip | go_guarded | go_step | go_upon | go_back | dsimp only))
          refine HK.out _ _ ?_
          have hJ := HJ.out
          go_meet
          case rel => exact ⟨H1.out.1, by rw [hf]; exact H1.out.2⟩
      case rest =>
      obtain ⟨h1, hi1⟩ := hcut
      have ho1 := h1.folOpen
      obtain ⟨z0, _, _⟩ := ho1.cellF (o := 0) rfl
      have q1 := (h1.below.cell (World.block_lt_of_cell? _ _ D1.out)).trans D1.out
      have H1 := Lib.hid (And.intro h1 hi1)
      have hsz1 := h1.below.size
      clear h1 hi1 ho1 q0 g0 c0 c1 c3
      (repeat' (first | (go_big_may; fail) | go_values | go_skip | go_guarded | go_step | go_upon | go_back | dsimp only))
      go_loopw [44] (fun vj wr => ∃ (j : Nat) (vf2 : Value) (Ts2 : List Trie) (C2 F2 : List Nat), vj = .int .i64 j ∧ j ≤ x.edges.length ∧ FStep A Ts Ts2 C C2 F2 ∧ (∀ q e, q < j → x.edges[q]? = some e → ∃ d, C2[e.2.toNat]? = some (d + 1)) ∧
        w.heap.size < wr.heap.size ∧ At W wr (Both (FolT kf gc mb A.length (.slice (some ⟨b, off, none⟩) A.length cap) vf2 Ts2 C2 F2) (UnderT w.heap.size R)) ∧ Lib.IsBuilder tB tU8 w.heap.size w.heap.size (bvs ((if x.final = true then 1 else 0) :: pk C2 x.edges j)) wr) (fun vj _ => x.edges.length - (intOf vj).toNat)
      case atStart =>
        refine ⟨0, vf, Ts, C, F, rfl, Nat.zero_le _, ⟨HI.out, List.prefix_rfl, fun _ _ h => h⟩, fun q e h => absurd h (Nat.not_lt_zero _), ?_, H1.out.1, H1.out.2⟩
        rcases H1.out.2 with h | h
        · exact h.lt
        · exact h.lt
      case round =>
        obtain ⟨j, vf2, Ts2, C2, F2, rfl, hj, hst, hdone, hwlt, h2, hi2⟩ := hrel
        have hinv := hst.inv
        by_cases hlj : j < x.edges.length
        · obtain ⟨e, he⟩ : ∃ e, x.edges[j]? = some e := ⟨_, List.getElem?_eq_getElem hlj⟩
          obtain ⟨ct, he0, hct, hht⟩ := HU.out.mem e (List.mem_of_getElem? he)
          obtain ⟨m, hm⟩ := Int.eq_ofNat_of_zero_le he0
          rw [hm, Int.toNat_natCast] at hct
          have hjI : (j : Int) < (x.edges.length : Int) := by omega
          obtain ⟨be, oe, ce, hse, e0, e1⟩ := RdEds.at (HE.out.below h2.below) he
          cases hse
          rw [hm] at e1
          have hstF := (FolT.stable kf gc mb A.length (.slice (some ⟨b, off, none⟩) A.length cap) vf2 Ts2 C2 F2).both (UnderT.stable (b := w.heap.size) HR.out)
          have hal : Below wr.heap.size wr (wr.alloc (.cells #[bv e.1, .int .i64 m] tAE)) := (Below.refl _ _).alloc (Nat.le_refl _) _
          have h3 := h2.alloc hstF (.cells #[bv e.1, .int .i64 m] tAE)
          have hi3 := IsBuilder_below hi2 hal
          have hpl := pk_len (C := C2) (es := x.edges) (fun e he => by
            obtain ⟨q, hq, rfl⟩ := List.getElem_of_mem he
            exact pk_bound hinv hl _) j
          have hpl2 : (pk C2 x.edges j).length ≤ 11 * 1048576 := Nat.le_trans hpl (Nat.mul_le_mul_left 11 (by omega))
          have HC1 := Lib.hid (WriteByte_k w.heap.size w.heap.size _ e.1 _ hi3 (by rw [bvs_length, List.length_cons]; omega) (by simp; omega))
          have HED := Lib.hid (And.intro he hm)
          have HCT := Lib.hid hct
          have HDONE := Lib.hid hdone
          have HST := Lib.hid hst
          have H3 := Lib.hid (And.intro h3 hi3)
          have hht2 : htT ct < k := by omega
          clear h2 h3 hi2 hi3 hct hdone hst he hm he0 hal hstF hinv hht
          (repeat' (first | (go_big_may; fail) | go_values | go_skip | go_guarded | go_step | go_upon | go_back | dsimp only))
          refine HC1.out.mono ?_
          rintro e5 w5 ⟨rfl, hi5, hb5, ho5⟩
          have h5 := H3.out.1.bytes (FolT.stable _ _ _ _ _ _ _ _ _) (FolT.nb _ _ _ _ _ _ _ _ _) HR.out hWs H3.out.2 hb5 ho5
          have x1 : w5.cell? ⟨wr.heap.size, 1, none⟩ = some (.int .i64 m) := by
            have h9 := ho5 wr.heap.size _ (heap_alloc_new wr (.cells #[bv e.1, .int .i64 m] tAE)) (by intro e; simp at e; omega) (by intro c fz e; injection e with _ e; exact absurd e (by decide))
            simp [World.cell?, h9]
          have hws5 : w.heap.size ≤ w5.heap.size := by
            rcases hi5 with h | h
            · exact Nat.le_of_lt h.lt
            · exact Nat.le_of_lt h.lt
          have h6 := h5.withBu (FolT.nb _ _ _ _ _ _ _ _ _) hWs hi5
          have hcall := IH.out w5 m ct vf2 Ts2 C2 F2 _ h6 ((BuT.stable _ _ _).both (UnderT.stable HR.out)) HST.out.inv HCT.out hht2
          have HCALL := Lib.hid hcall
          clear h5 h6 hi5 hb5 ho5 hcall e0 e1
          (repeat' (first | (go_big_may; fail) | go_values | go_skip | go_guarded | go_step | go_upon | go_back | dsimp only))
          refine HCALL.out.mono ?_
          rintro e7 w7 ⟨vf7, Ts7, C7, F7, c7, rfl, hst7, hc7, h7⟩
          have hi7 := h7.swap.isBu
          have h8 := h7.swap.drop
          have hval := hst7.inv.val hc7 HCT.out
          have hcle : c7 + 1 ≤ 1048576 := by
            have h1 := clsT_le hval.1
            have h2 := hst7.inv.le
            rw [hval.2] at h1
            omega
          have hc64 : c7 + 1 < 18446744073709551616 := by omega
          have hwrap : IntKind.u64.wrap (((c7 + 1 : Nat) : Int)) = (((c7 + 1 : Nat) : Int)) := by rw [IntKind.wrap_u64]; omega
          have hwrap2 : IntKind.u64.wrap ((c7 : Int) + 1) = (((c7 + 1 : Nat) : Int)) := by rw [IntKind.wrap_u64]; omega
          have hws7 : w.heap.size < w7.heap.size := by
            rcases hi7 with h | h
            · exact h.lt
            · exact h.lt
          have hkeepq : ∀ q e', q < j → x.edges[q]? = some e' → C7.getD e'.2.toNat 0 = C2.getD e'.2.toNat 0 := fun q e' hq he' => by
            obtain ⟨d, hd⟩ := HDONE.out q e' hq he'
            rw [List.getD_eq_getElem?_getD, List.getD_eq_getElem?_getD, hd, hst7.keep _ _ hd]
          have hpk : pk C7 x.edges (j + 1) = pk C2 x.edges j ++ [e.1] ++ uintL (c7 + 1) := by
            rw [pk_succ HED.out.1, pk_keep hkeepq, HED.out.2, Int.toNat_natCast, List.getD_eq_getElem?_getD, hc7]; rfl
          have HPK := Lib.hid hpk
          have HI7 := Lib.hid hi7
          have H8 := Lib.hid h8
          have HST7 := Lib.hid (HST.out.trans hst7)
          have HDN7 := Lib.hid (show ∀ q e', q < j + 1 → x.edges[q]? = some e' → ∃ d, C7[e'.2.toNat]? = some (d + 1) from fun q e' hq he' => by
            by_cases hqj : q = j
            · subst hqj
              rw [HED.out.1] at he'
              cases he'
              exact ⟨c7, by rw [HED.out.2, Int.toNat_natCast]; exact hc7⟩
            · obtain ⟨d, hd⟩ := HDONE.out q e' (by omega) he'
              exact ⟨d, hst7.keep _ _ hd⟩)
          have HUI := Lib.hid (Uint_calls (c7 + 1) hc64 w7)
          have hul := uintL_length10 hc64
          clear h7 h8 hi7 hst7 hval hc7 hkeepq hpk x1 HCALL
          (repeat' (first | (go_big_may; fail) | go_values | go_skip | go_guarded | go_step | go_upon | go_back | dsimp only))
          refine HUI.out.mono ?_
          rintro e9 w9 ⟨rfl, hb9⟩
          have hi9 := IsBuilder_below HI7.out hb9
          have h9 := H8.out.mono ((FolT.stable _ _ _ _ _ _ _ _ _).both (UnderT.stable HR.out)) hb9
          have hsz9 := hb9.size
          have HWS := Lib.hid (WriteString_k w.heap.size w.heap.size _ ⟨(uintL (c7 + 1)).toArray⟩ w9 hi9 (by rw [List.length_append, bvs_length, List.length_cons]; simp [ByteArray.size]; omega) (by omega))
          have H9 := Lib.hid (And.intro h9 hi9)
          clear hi9 h9 hb9
          (repeat' (first | (go_big_may; fail) | go_values | go_skip | go_guarded | go_step | go_upon | go_back | dsimp only))
          refine HWS.out.mono ?_
          rintro e10 w10 ⟨rfl, hi10, hb10, ho10⟩
          have h10 := H9.out.1.bytes (FolT.stable _ _ _ _ _ _ _ _ _) (FolT.nb _ _ _ _ _ _ _ _ _) HR.out hWs H9.out.2 hb10 ho10
          have hi11 : Lib.IsBuilder tB tU8 w.heap.size w.heap.size (bvs ((if x.final = true then 1 else 0) :: pk C7 x.edges (j + 1))) w10 := by
            rw [HPK.out]
            have e1 : bvs ((if x.final = true then 1 else 0) :: (pk C2 x.edges j ++ [e.1] ++ uintL (c7 + 1))) = bvs ((if x.final = true then 1 else 0) :: pk C2 x.edges j) ++ [bv e.1] ++ Lib.strCells ⟨(uintL (c7 + 1)).toArray⟩ := by
              rw [strCells_mk]
              simp [Lib.byteCells]
            rw [e1]
            exact hi10
          have hws10 : w.heap.size < w10.heap.size := by
            rcases hi11 with h | h
            · exact h.lt
            · exact h.lt
          have H10 := Lib.hid (And.intro h10 hi11)
          clear h10 hi11 hi10 hb10 ho10 HWS
          (repeat' (first | (go_big_may; fail) | go_values | go_skip | go_guarded | go_step | go_upon | go_back | dsimp only))
          go_roundw
          case rel => exact ⟨j + 1, vf7, Ts7, C7, F7, by simp, by omega, HST7.out, HDN7.out, hws10, H10.out.1, H10.out.2⟩
          case measure => simp [intOf] <;> omega
        · obtain rfl : j = x.edges.length := by omega
          have hu2 : Unf A n t := ⟨x, HX.out, HU.out⟩
          have hall : ∀ e ∈ x.edges, ∃ d, C2[e.2.toNat]? = some (d + 1) := fun e he => by
            obtain ⟨q, hq, rfl⟩ := List.getElem_of_mem he
            exact hdone q _ hq (List.getElem?_eq_getElem hq)
          have hkids : ∀ c ∈ kids t, c ∈ Ts2 := fun c hc => by
            obtain ⟨e, he, hue⟩ := (kids_mem HU.out c).1 hc
            obtain ⟨d, hd⟩ := hall e he
            exact (hinv.val hd hue).1
          have hpk : pk C2 x.edges x.edges.length = sgE (clsT Ts2) t := by
            unfold pk
            rw [List.take_length]
            refine pk_sgE HU.out fun e he c hc => ?_
            obtain ⟨d, hd⟩ := hall e he
            rw [List.getD_eq_getElem?_getD, hd, (hinv.val hd hc).2]; rfl
          have hkey : (if x.final = true then 1 else 0) :: pk C2 x.edges x.edges.length = keyT Ts2 t := by
            unfold keyT
            rw [hpk, HFIN.out]
          rw [hkey] at hi2
          have hTl := hinv.le
          have hT64 : Ts2.length < 18446744073709551616 := by omega
          have hklen : (keyT Ts2 t).length ≤ maxLen := by
            rw [← hkey, List.length_cons]
            have h1 := pk_len (C := C2) (es := x.edges) (fun e he => by
              obtain ⟨q, hq, rfl⟩ := List.getElem_of_mem he
              exact pk_bound hinv hl _) x.edges.length
            have h2 : 11 * min x.edges.length x.edges.length ≤ 11 * 1048576 := Nat.mul_le_mul_left 11 (by omega)
            unfold maxLen
            omega
          have HINV := Lib.hid hinv
          have HST := Lib.hid hst
          have HALL := Lib.hid hall
          have HKIDS := Lib.hid hkids
          have HU2 := Lib.hid hu2
          have HKL := Lib.hid hklen
          have H2 := Lib.hid (And.intro h2 hi2)
          clear h2 hi2 hinv hst hall hkids hu2 hpk hkey hklen hdone
          (repeat' (first | (go_big_may; fail) | go_values | go_skip | go_guarded | go_step | go_upon | go_back | dsimp only))
          go_cut [8, 9] (fun v8 v9 wx => (if t ∈ Ts2 then v8 = .int .i64 (clsT Ts2 t : Nat) ∧ v9 = .bool true else v9 = .bool false) ∧ At W wx (Both (FolT kf gc mb A.length (.slice (some ⟨b, off, none⟩) A.length cap) vf2 Ts2 C2 F2) (UnderT w.heap.size R)) ∧ Lib.IsBuilderF tB tU8 w.heap.size w.heap.size (bvs (keyT Ts2 t)) wx)
          case first =>
            refine wp_norm ?_
            rename_i J K' hJ hK
            have HJ := Lib.hid hJ
            have HK := Lib.hid hK
            clear hJ hK
            have hid : Lib.IsBuilderF tB tU8 w.heap.size w.heap.size (bvs (keyT Ts2 t)) wr.drew := .of (show Lib.IsBuilder tB tU8 w.heap.size w.heap.size (bvs (keyT Ts2 t)) wr.drew from H2.out.2)
            have HSTR := Lib.hid (Any.Builder_String_any_k lays169 extra169 w.heap.size w.heap.size (keyT Ts2 t) wr.drew hid (Nat.le_of_lt hwlt))
            have ho2 := H2.out.1.folOpen
            obtain ⟨z2, _, _⟩ := ho2.cellF (o := 2) rfl
            obtain ⟨kl, hkl⟩ := keyOf_str (keyT Ts2 t) HKL.out
            have HKO := Lib.hid hkl
            clear ho2 hkl
            by_cases hmem : t ∈ Ts2
            · have STEP := Lib.hid (fun w5 (hb5 : Below w.heap.size wr.drew w5) (ho5 : Lib.OthersKept tU8 (some w.heap.size) wr.drew w5) => show At W w5 (Both (FolT kf gc mb A.length (.slice (some ⟨b, off, none⟩) A.length cap) vf2 Ts2 C2 F2) (UnderT w.heap.size R)) from (H2.out.1.drew ((FolT.stable _ _ _ _ _ _ _ _ _).both (UnderT.stable HR.out))).bytesF (FolT.stable _ _ _ _ _ _ _ _ _) (FolT.nb _ _ _ _ _ _ _ _ _) HR.out hWs hid hb5 ho5)
              have HMEM := Lib.hid hmem
              clear hid hmem
              go_region_law (refine step_call_fn rfl 65 _ _ rfl enters_string [ptrN w.heap.size] rfl ?_; refine HSTR.out.mono ?_; rintro e5 w5 ⟨rfl, hi5, hb5, ho5⟩; dsimp only; have h5 := STEP.out w5 hb5 ho5; obtain ⟨z5, _, _⟩ := h5.folOpen.cellF (o := 2) rfl; have hlook := h5.folOpen.drop.drop.mapHit (t := tMSI) (e := tInt) true str_key Try.underlying89 HKO.out (knT_hit HMEM.out); rw [if_pos rfl] at hlook; have H5 := Lib.hid (And.intro h5 hi5); clear h5 hi5 hb5 ho5)
              all_goals
                refine HK.out _ _ ?_
                have hJ := HJ.out
                go_meet
                case rel => exact ⟨by rw [if_pos HMEM.out]; exact ⟨rfl, rfl⟩, H5.out.1, H5.out.2⟩
            · have HNM := Lib.hid hmem
              have STEP := Lib.hid (fun w5 (hb5 : Below w.heap.size wr.drew w5) (ho5 : Lib.OthersKept tU8 (some w.heap.size) wr.drew w5) => show At W w5 (Both (FolT kf gc mb A.length (.slice (some ⟨b, off, none⟩) A.length cap) vf2 Ts2 C2 F2) (UnderT w.heap.size R)) from (H2.out.1.drew ((FolT.stable _ _ _ _ _ _ _ _ _).both (UnderT.stable HR.out))).bytesF (FolT.stable _ _ _ _ _ _ _ _ _) (FolT.nb _ _ _ _ _ _ _ _ _) HR.out hWs hid hb5 ho5)
              have HMISS := Lib.hid (knT_miss hT64 HINV.out.closed HKIDS.out hmem)
              clear hid hmem
              go_region_law (refine step_call_fn rfl 65 _ _ rfl enters_string [ptrN w.heap.size] rfl ?_; refine HSTR.out.mono ?_; rintro e5 w5 ⟨rfl, hi5, hb5, ho5⟩; dsimp only; have h5 := STEP.out w5 hb5 ho5; obtain ⟨z5, _, _⟩ := h5.folOpen.cellF (o := 2) rfl; have hlook := h5.folOpen.drop.drop.mapMiss (t := tMSI) (e := tInt) true str_key Try.underlying89 (zero_int _) HKO.out HMISS.out; rw [if_pos rfl] at hlook; have H5 := Lib.hid (And.intro h5 hi5); clear h5 hi5 hb5 ho5)
              all_goals
                refine HK.out _ _ ?_
                have hJ := HJ.out
                go_meet
                case rel => exact ⟨by rw [if_neg HNM.out], H5.out.1, H5.out.2⟩
          case rest =>
            obtain ⟨hv89, h3, hi3⟩ := hcut
            by_cases hmem : t ∈ Ts2
            · rw [if_pos hmem] at hv89
              obtain ⟨rfl, rfl⟩ := hv89
              obtain ⟨h4, h5⟩ := HINV.out.set HX.out HU2.out hmem HALL.out
              have ho3 := h3.folOpen
              obtain ⟨z1, _, _⟩ := ho3.cellF (o := 1) rfl
              obtain ⟨vn, hvn⟩ : ∃ vn, C2[n]? = some vn := ⟨_, List.getElem?_eq_getElem (by rw [HINV.out.clen]; exact hn)⟩
              obtain ⟨r1, r2, r3⟩ := ho3.drop.rowCell (nats_get hvn)
              have h6 := (ho3.swap.storeG ((CellT.stable _ _ _).both ((MapT.stable _ _ _ _).both ((RowG.stable _ _ _ _ _).both (UnderT.stable HR.out)))) n (.int .i64 (clsT Ts2 t : Nat))).swap
              rw [nats_set] at h6
              have h7 := h6.folShut.unUnder
              have hcv : (C2.set n (clsT Ts2 t))[n]? = some (ixT Ts2 t + 1) := by rw [List.getElem?_set_self (by rw [HINV.out.clen]; exact hn)]; rfl
              have H7 := Lib.hid (And.intro h7 (And.intro h4 (And.intro h5 hcv)))
              clear ho3 h6 h7 h3 hi3 h4 h5 hcv hvn hmem
              (repeat' (first | (go_big_may; fail) | go_values | go_skip | go_guarded | go_step | go_upon | go_back | dsimp only))
              go_ret
              exact ⟨vf2, Ts2, _, F2, ixT Ts2 t, rfl, HST.out.trans ⟨H7.out.2.1, List.prefix_rfl, H7.out.2.2.1⟩, H7.out.2.2.2, H7.out.1⟩
            · rw [if_neg hmem] at hv89
              obtain rfl := hv89
              have hst3 : Stable (Both (BuFT w.heap.size w.heap.size (bvs (keyT Ts2 t))) (UnderT w.heap.size R)) := (BuFT.stable _ _ _).both (UnderT.stable HR.out)
              have ho3 := (h3.withBuF (FolT.nb _ _ _ _ _ _ _ _ _) hWs hi3).folOpen
              obtain ⟨p1, _, _⟩ := ho3.cellF (o := 3) rfl
              have HO3 := Lib.hid ho3.pull4
              have HST3 := Lib.hid ((CellT.stable kf #[.slice (some ⟨b, off, none⟩) A.length cap, .slice (some ⟨gc, 0, none⟩) A.length A.length, .map (some mb), vf2] tFo).both ((RowG.stable tInt 1 (.slice (some ⟨gc, 0, none⟩) A.length A.length) A.length (nats C2)).both ((MapT.stable Try.prog tStr mb (knT Ts2)).both hst3)))
              have HBS := Lib.hid hst3
              have HNM := Lib.hid hmem
              have HFL := Lib.hid HINV.out.flen
              have hFl : F2.length ≤ 1048576 := by rw [HFL.out]; omega
              clear ho3 h3 hi3 hst3 hmem
              (repeat' (first | (go_big_may; ((at_builtin; go_must (refine wpList_append_to rfl _ _ 85 tInt rfl Try.underlying85 info_Int rfl (by decide) rfl (HO3.out) (HST3.out) rfl (by first | rfl | simp) rfl (one_int _ _) (by unfold maxLen; omega) (by omega) ?_); intro a4 c4 w4 h4 _); have H4 := Lib.hid h4; obtain ⟨s1, s2, s3⟩ := h4.drop.cellF (o := 3) rfl; clear h4)) | go_values | go_skip | go_guarded | go_step | go_upon | go_back | dsimp only))
              have h6 : At W (w4.setCell ⟨kf, 3, none⟩ (.slice a4 (F2.length + 1) c4)) (Both (FolT kf gc mb A.length (.slice (some ⟨b, off, none⟩) A.length cap) (.slice a4 (F2.length + 1) c4) Ts2 C2 (F2 ++ [n])) (Both (BuFT w.heap.size w.heap.size (bvs (keyT Ts2 t))) (UnderT w.heap.size R))) := by
                refine At.folShut ?_
                have e1 : nats (F2 ++ [n]) = nats F2 ++ (#[Value.int .i64 (n : Nat)] : Array Value).toList := by simp [nats]
                rw [e1, List.length_append]
                exact (H4.out.swap.setCell ((RowG.stable _ _ _ _ _).both ((RowG.stable _ _ _ _ _).both ((MapT.stable _ _ _ _).both HBS.out))) 3 (.slice a4 (F2.length + 1) c4)).swap.pull4.pull4.pull4
              obtain ⟨vf3, hvf3⟩ : ∃ v, v = Value.slice a4 (F2.length + 1) c4 := ⟨_, rfl⟩
              rw [← hvf3] at h6 ⊢
              generalize w4.setCell ⟨kf, 3, none⟩ vf3 = wX at h6 ⊢
              have hiX := h6.swap.isBuF
              have h7 := h6.swap.drop
              have HX7 := Lib.hid (And.intro h7 hiX)
              clear h6 h7 hiX s1 s2 s3 p1 hvf3
              go_cut [8] (fun v8 wx => v8 = .int .i64 (Ts2.length + 1 : Nat) ∧ At W wx (Both (FolT kf gc mb A.length (.slice (some ⟨b, off, none⟩) A.length cap) vf3 (Ts2 ++ [t]) C2 (F2 ++ [n])) (UnderT w.heap.size R)))
              case first =>
                refine wp_norm ?_
                rename_i J K' hJ hK
                have HJ := Lib.hid hJ
                have HK := Lib.hid hK
                clear hJ hK
                have hid : Lib.IsBuilderF tB tU8 w.heap.size w.heap.size (bvs (keyT Ts2 t)) wX.drew := HX7.out.2
                have hwX : w.heap.size ≤ wX.heap.size := by
                  rcases HX7.out.2 with h | h
                  · exact Nat.le_of_lt h.lt
                  · exact Nat.le_of_lt h.lt
                have HSTR := Lib.hid (Any.Builder_String_any_k lays169 extra169 w.heap.size w.heap.size (keyT Ts2 t) wX.drew hid hwX)
                obtain ⟨z2, _, _⟩ := HX7.out.1.folOpen.cellF (o := 2) rfl
                obtain ⟨kl, hkl⟩ := keyOf_str (keyT Ts2 t) HKL.out
                have HKO := Lib.hid hkl
                have STEP := Lib.hid (fun w5 (hb5 : Below w.heap.size wX.drew w5) (ho5 : Lib.OthersKept tU8 (some w.heap.size) wX.drew w5) => show At W w5 (Both (FolT kf gc mb A.length (.slice (some ⟨b, off, none⟩) A.length cap) vf3 Ts2 C2 (F2 ++ [n])) (UnderT w.heap.size R)) from (HX7.out.1.drew ((FolT.stable _ _ _ _ _ _ _ _ _).both (UnderT.stable HR.out))).bytesF (FolT.stable _ _ _ _ _ _ _ _ _) (FolT.nb _ _ _ _ _ _ _ _ _) HR.out hWs hid hb5 ho5)
                have HMISS := Lib.hid (knT_miss hT64 HINV.out.closed HKIDS.out HNM.out)
                have HPST := Lib.hid ((CellT.stable kf #[.slice (some ⟨b, off, none⟩) A.length cap, .slice (some ⟨gc, 0, none⟩) A.length A.length, .map (some mb), vf3] tFo).both ((RowG.stable tInt 1 (.slice (some ⟨gc, 0, none⟩) A.length A.length) A.length (nats C2)).both ((RowG.stable tInt 1 vf3 (F2 ++ [n]).length (nats (F2 ++ [n]))).both (UnderT.stable (b := w.heap.size) HR.out))))
                have HKN := Lib.hid (knT_new HINV.out.closed HKIDS.out HNM.out)
                have hlenF : ((F2.length : Int) + 1) = ((Ts2.length + 1 : Nat) : Int) := by rw [HFL.out]; omega
                have HLF := Lib.hid hlenF
                clear hid hkl hlenF
                go_region_law (refine step_call_fn rfl 65 _ _ rfl enters_string [ptrN w.heap.size] rfl ?_; refine HSTR.out.mono ?_; rintro e5 w5 ⟨rfl, hi5, hb5, ho5⟩; dsimp only; have h5 := STEP.out w5 hb5 ho5; obtain ⟨z5, _, _⟩ := h5.folOpen.cellF (o := 2) rfl; obtain ⟨w6, hput, h6⟩ := h5.folOpen.pull3.mapPut HPST.out (t := tMSI) (e := tInt) str_key Try.underlying89 (val := .int .i64 ((F2.length : Int) + 1)) HKO.out HMISS.out; have H6 := Lib.hid h6; clear h6 h5 hi5 hb5 ho5)
                all_goals
                  refine HK.out _ _ ?_
                  have hJ := HJ.out
                  go_meet
                  case rel =>
                    refine ⟨by rw [HLF.out], At.folShut ?_⟩
                    rw [HKN.out, ← HLF.out]
                    exact H6.out.push3
              case rest =>
                obtain ⟨rfl, h8⟩ := hcut
                have hinv2 := HINV.out.new HU2.out HKIDS.out HNM.out
                have hcls : clsT (Ts2 ++ [t]) t = Ts2.length + 1 := clsT_get hinv2.nodup (by simp)
                obtain ⟨h4, h5⟩ := hinv2.set HX.out HU2.out (by simp) HALL.out
                rw [hcls] at h4 h5
                have ho3 := h8.folOpen
                obtain ⟨z1, _, _⟩ := ho3.cellF (o := 1) rfl
                obtain ⟨vn, hvn⟩ : ∃ vn, C2[n]? = some vn := ⟨_, List.getElem?_eq_getElem (by rw [HINV.out.clen]; exact hn)⟩
                obtain ⟨r1, r2, r3⟩ := ho3.drop.rowCell (nats_get hvn)
                have h6 := (ho3.swap.storeG ((CellT.stable _ _ _).both ((MapT.stable _ _ _ _).both ((RowG.stable _ _ _ _ _).both (UnderT.stable HR.out)))) n (.int .i64 (Ts2.length + 1 : Nat))).swap
                rw [nats_set] at h6
                have h7 := h6.folShut.unUnder
                have hcv : (C2.set n (Ts2.length + 1))[n]? = some (Ts2.length + 1) := List.getElem?_set_self (by rw [HINV.out.clen]; exact hn)
                have H7 := Lib.hid (And.intro h7 (And.intro h4 (And.intro h5 hcv)))
                clear ho3 h6 h7 h8 h4 h5 hcv hvn hcls hinv2
                (repeat' (first | (go_big_may; fail) | go_values | go_skip | go_guarded | go_step | go_upon | go_back | dsimp only))
                go_ret
                exact ⟨vf3, Ts2 ++ [t], _, F2 ++ [n], Ts2.length, rfl, HST.out.trans ⟨H7.out.2.1, List.prefix_append _ _, H7.out.2.2.1⟩, H7.out.2.2.2, H7.out.1⟩
end

section
open Go.RowKit
open Go.Maps (Keyed)

theorem ixT_new : ∀ {l : List Trie} {t : Trie}, t ∉ l → ixT (l ++ [t]) t = l.length
  | [], t, _ => by simp [ixT]
  | a :: l, t, h => by
    simp only [List.cons_append, ixT, List.length_cons]
    rw [if_neg (fun e => h (by simp [e])), ixT_new fun hm => h (by simp [hm])]
/-- The places of the classes. -/
def plT (Ts T : List Trie) : List (Value × Value) := T.map fun s => (.int .i64 (clsT Ts s : Nat), .int .i64 (ixT T s : Nat))
theorem plT_new {Ts T : List Trie} {t : Trie} (h : t ∉ T) : plT Ts (T ++ [t]) = plT Ts T ++ [(.int .i64 (clsT Ts t : Nat), .int .i64 (T.length : Nat))] := by
  unfold plT
  rw [List.map_append]
  congr 1
  · exact List.map_congr_left fun s hs => by rw [ixT_ext hs]
  · simp only [List.map_cons, List.map_nil]
    rw [ixT_new h]
theorem plT_hit {Ts T : List Trie} {t : Trie} (h : t ∈ T) : (Value.int .i64 (clsT Ts t : Nat), Value.int .i64 (ixT T t : Nat)) ∈ plT Ts T := List.mem_map.2 ⟨t, h, rfl⟩
theorem plT_miss {Ts T : List Trie} {t : Trie} (hs : ∀ s ∈ T, s ∈ Ts) (ht : t ∈ Ts) (h : t ∉ T) : ∀ p ∈ plT Ts T, p.1 ≠ Value.int .i64 (clsT Ts t : Nat) := by
  intro p hp e
  obtain ⟨s, hs2, rfl⟩ := List.mem_map.1 hp
  have e2 : clsT Ts s = clsT Ts t := by
    have e3 : ((clsT Ts s : Nat) : Int) = ((clsT Ts t : Nat) : Int) := by simpa using e
    exact Int.ofNat_inj.1 e3
  exact h (clsT_inj (hs s hs2) ht e2 ▸ hs2)
/-- What lay keeps. -/
abbrev LayT (kf gc mb N pb : Nat) (va vf : Value) (Ts : List Trie) (C F : List Nat) (ov : Value) (xs : List (Sta × Value)) (T : List Trie) (R : Thing) : Thing :=
  Both (FolT kf gc mb N va vf Ts C F) (Both (MapT Try.prog tInt pb (plT Ts T)) (Both (RowG tAS 2 ov xs.length (xs.flatMap stc)) (Both (EdsG tAE xs) R)))
theorem LayT.stable {kf gc mb N pb : Nat} {va vf : Value} {Ts : List Trie} {C F : List Nat} {ov : Value} {xs : List (Sta × Value)} {T : List Trie} {R : Thing} (h : Stable R) : Stable (LayT kf gc mb N pb va vf Ts C F ov xs T R) :=
  (FolT.stable _ _ _ _ _ _ _ _ _).both ((MapT.stable _ _ _ _).both ((RowG.stable _ _ _ _ _).both ((AllRows.stable _ _ _ _ _ _).both h)))

theorem layE_in {Ts : List Trie} (hc : ClosedT Ts) : ∀ (t : Trie) (T : List Trie), (∀ c ∈ kids t, c ∈ Ts) → (∀ s ∈ T, s ∈ Ts) → ∀ s ∈ (layE t T).1, s ∈ Ts
  | .fin _, T, _, h => by simpa [layE] using h
  | .edge b c r, T, hk, h => by
    have h1 : c ∈ Ts := hk c (by simp [kids])
    by_cases hm : c ∈ T
    · rw [layE_old hm]
      exact layE_in hc r T (fun d hd => hk d (by simp [kids, hd])) h
    · rw [layE_new hm]
      refine layE_in hc r _ (fun d hd => hk d (by simp [kids, hd])) (layE_in hc c _ (hc c h1) fun s hs => ?_)
      rcases List.mem_append.1 hs with hs | hs
      · exact h s hs
      · rw [List.mem_singleton] at hs; subst hs; exact h1
theorem layE_ix {c : Trie} {T : List Trie} (h : c ∉ T) : c ∈ (layE c (T ++ [c])).1 ∧ ixT (layE c (T ++ [c])).1 c = T.length ∧ (layE c (T ++ [c])).1.length = T.length + 1 + (layE c (T ++ [c])).2.1.length := by
  obtain ⟨Us, q⟩ := layE_spec c (T ++ [c])
  refine ⟨by rw [q.eq]; simp, ?_, by rw [q.eq, q.len]; simp; omega⟩
  rw [q.eq, ixT_ext (by simp), ixT_new h]
theorem Both.in4 {A a b c d T : Thing} {w : World} {fp : List Nat} (h : Both A (Both a (Both b (Both c (Both d T)))) w fp) : Both a (Both b (Both c (Both d (Both A T)))) w fp :=
  Both.mono (fun _ _ q => Both.mono (fun _ _ q => Both.mono (fun _ _ q => q.assoc) q.assoc) q.assoc) h.assoc
theorem Both.out4 {A a b c d T : Thing} {w : World} {fp : List Nat} (h : Both a (Both b (Both c (Both d (Both A T)))) w fp) : Both A (Both a (Both b (Both c (Both d T)))) w fp :=
  Both.assoc (Both.mono (fun _ _ q => Both.assoc (Both.mono (fun _ _ q => Both.assoc (Both.mono (fun _ _ q => q.assoc) q)) q)) h)

set_option maxRecDepth 100000 in
set_option maxHeartbeats 6400000 in
theorem lay_at {W : World} {A : List Sta} {va : Value} (hA : RdAut W va A) (hl : A.length ≤ 1048576 ∧ edgesN A ≤ 1048576) {Ts : List Trie} {C F : List Nat} (hi : FI A Ts C F) (hC : ∀ i, i < A.length → ∃ d, C[i]? = some (d + 1)) (kf gc mb pb : Nat) (vf : Value) (k : Nat) : ∀ (w : World) (t : Trie) (T : List Trie) (xs : List (Sta × Value)) (ov : Value) (R : Thing),
    At W w (LayT kf gc mb A.length pb va vf Ts C F ov xs T R) → Stable R → (∀ s ∈ T, s ∈ Ts) → T.Nodup → t ∈ Ts → t ∉ T → htT t < k → xs.length = T.length →
    Calls Try.prog 42 #[ptrN kf, .int .i64 (clsT Ts t : Nat), .map (some pb), ov] w fun e w' => ∃ ov' ys, e = .returned ov' ∧ ys.map Prod.fst = (⟨t.final, (layE t (T ++ [t])).2.2⟩ : Sta) :: (layE t (T ++ [t])).2.1 ∧ At W w' (LayT kf gc mb A.length pb va vf Ts C F ov' (xs ++ ys) (layE t (T ++ [t])).1 R) := by
  induction k with
  | zero => intro w t T xs ov R _ _ _ _ _ _ h; omega
  | succ k ih =>
    intro w t T xs ov R h hR hT hTn ht htn hk hxl
    obtain ⟨n, hF, hu⟩ := hi.fst _ t (ixT_get ht)
    have hn := hu.lt
    obtain ⟨x, hx, hux⟩ := hu
    obtain ⟨b, off, cap, u, hsv, d0, d1, hue⟩ := hA.at hx
    obtain ⟨ua, uc, rfl, _, huc⟩ := hue.shape
    unfold maxLen at huc
    subst hsv
    have hel := edgesN_le hx
    have hTl : T.length ≤ 1048576 := by
      have h1 := trees_le (A := A) hTn fun s hs => by
        obtain ⟨q, hq⟩ := List.getElem?_of_mem (hT s hs)
        obtain ⟨m, _, hm⟩ := hi.fst q s hq
        exact ⟨m, hm⟩
      omega
    have hixl : ixT Ts t < F.length := (List.getElem?_eq_some_iff.1 hF).1
    have hFl : F.length ≤ 1048576 := by have := hi.le; have := hi.flen; omega
    obtain ⟨oa, oc, hov, _, _⟩ := own_shape h.drop.drop.rowG
    subst hov
    have D0 := Lib.hid d0
    have D1 := Lib.hid d1
    have H := Lib.hid h
    have HR := Lib.hid hR
    have HI := Lib.hid hi
    have HU := Lib.hid hux
    have HX := Lib.hid hx
    have HF := Lib.hid hF
    have IH := Lib.hid ih
    have HE := Lib.hid (show RdEds W (.slice ua x.edges.length uc) x.edges from hue)
    have HMISS := Lib.hid (plT_miss hT ht htn)
    have HTN := Lib.hid htn
    have hkey := keyOf_nat (n := clsT Ts t) (by unfold clsT; have := hi.flen; omega)
    have HKEY := Lib.hid hkey
    have HPST := Lib.hid ((FolT.stable kf gc mb A.length (.slice (some ⟨b, off, none⟩) A.length cap) vf Ts C F).both ((RowG.stable tAS 2 (.slice oa xs.length oc) xs.length (xs.flatMap stc)).both ((AllRows.stable tAE 2 (fun x : Sta × Value => x.2) (fun x => x.1.edges.flatMap edc) (fun x => x.1.edges.length) xs).both hR)))
    have HXL := Lib.hid hxl
    have hxl2 : xs.length ≤ 1048576 := by omega
    clear h hR hi hux hx ih hue d0 d1 hA hF hkey hxl htn
    go_enter Try.func42, Try.ntmps42
    (repeat' (first | (go_big_may; (at_mapUpdate; refine wpList_map_put rfl _ _ _ tMI rfl int_key Try.underlying99 rfl H.out.swap HPST.out rfl rfl HKEY.out HMISS.out ?_; intro w3 h3; have H3 := Lib.hid h3; clear h3)) | go_values | go_skip | go_guarded | go_step | go_upon | go_back | dsimp only))
    have h3 := H3.out
    have h4 : At W w3 (LayT kf gc mb A.length pb (.slice (some ⟨b, off, none⟩) A.length cap) vf Ts C F (.slice oa xs.length oc) xs (T ++ [t]) R) := by
      unfold LayT
      rw [plT_new HTN.out, ← HXL.out]
      exact h3.swap
    clear h3
    have ho := h4.folOpen
    obtain ⟨c0, _, hkl⟩ := ho.cellF (o := 0) rfl
    obtain ⟨c3, _, _⟩ := ho.cellF (o := 3) rfl
    obtain ⟨fa, fc, hvf, hfr, hfl⟩ : ∃ g c, vf = .slice (some ⟨g, 0, none⟩) F.length c ∧ w3.cell? ⟨g, ixT Ts t, none⟩ = some (.int .i64 (n : Nat)) ∧ g < w3.heap.size := by
      obtain ⟨g, c, hv, _⟩ := own_cut ho.pull4.rowG (by omega)
      subst hv
      exact ⟨g, c, rfl, (ho.pull4.rowCell (nats_get HF.out)).1, (ho.pull4.rowCell (nats_get HF.out)).2.2⟩
    subst hvf
    have q0 := (h4.below.cell (World.block_lt_of_cell? _ _ D0.out)).trans D0.out
    have q1 := (h4.below.cell (World.block_lt_of_cell? _ _ D1.out)).trans D1.out
    have hbl := World.block_lt_of_cell? _ _ q0
    have hnI : (n : Int) < (A.length : Int) := by omega
    have hixI : ((ixT Ts t : Nat) : Int) < (F.length : Int) := by omega
    have hcw : IntKind.i64.wrap (((clsT Ts t : Nat) : Int) - 1) = ((ixT Ts t : Nat) : Int) := by unfold clsT; rw [IntKind.wrap_i64]; omega
    have H4 := Lib.hid h4
    clear h4 ho
    simp only [Act.put]
    go_cut [10] (fun v10 wx => v10 = ptrN w3.heap.size ∧ At W wx (Both (CellT w3.heap.size #[.bool x.final, .slice ua x.edges.length uc] tAS) (LayT kf gc mb A.length pb (.slice (some ⟨b, off, none⟩) A.length cap) (.slice (some ⟨fa, 0, none⟩) F.length fc) Ts C F (.slice oa xs.length oc) xs (T ++ [t]) R)))
    case first =>
      refine wp_norm ?_
      rename_i J K' hJ hK
      have HJ := Lib.hid hJ
      have HK := Lib.hid hK
      clear hJ hK
      go_region_law (fail)
      all_goals
        refine HK.out _ _ ?_
        have hJ := HJ.out
        go_meet
        case rel => exact ⟨rfl, (H4.out.newCell (LayT.stable HR.out) _ _).drew ((CellT.stable _ _ _).both (LayT.stable HR.out))⟩
    case rest =>
      obtain ⟨rfl, hcut⟩ := hcut
      obtain ⟨e0, _, _⟩ := hcut.cellF (o := 0) (u := .bool x.final) rfl
      obtain ⟨e1, _, _⟩ := hcut.cellF (o := 1) (u := .slice ua x.edges.length uc) rfl
      have HO5 := Lib.hid hcut.pull4
      have HST5 := Lib.hid ((CellT.stable w3.heap.size #[.bool x.final, .slice ua x.edges.length uc] tAS).both ((FolT.stable kf gc mb A.length (.slice (some ⟨b, off, none⟩) A.length cap) (.slice (some ⟨fa, 0, none⟩) F.length fc) Ts C F).both ((MapT.stable Try.prog tInt pb (plT Ts (T ++ [t]))).both ((AllRows.stable tAE 2 (fun x : Sta × Value => x.2) (fun x => x.1.edges.flatMap edc) (fun x => x.1.edges.length) xs).both HR.out))))
      clear hcut c0 c3 hfr q0 q1 hkl hfl hbl
      (repeat' (first | (go_big_may; ((at_builtin; go_must (refine wpList_append_to rfl _ _ 22 tAS rfl Try.underlying22 info_AS rfl (by decide) rfl (HO5.out) (HST5.out) rfl (by first | rfl | simp) rfl (two_one' _ _ rfl rfl) (by unfold maxLen; omega) (by omega) ?_); intro a2 c2 w5 h6 _); have H6 := Lib.hid h6; obtain ⟨r1, _, _⟩ := h6.drop.cellF (o := 1) (u := .slice ua x.edges.length uc) rfl; clear h6 e0 e1)) | go_values | go_skip | go_guarded | go_step | go_upon | go_back | dsimp only))
      have h7 : At W w5 (Both (CellT w3.heap.size #[.bool x.final, .slice ua x.edges.length uc] tAS) (LayT kf gc mb A.length pb (.slice (some ⟨b, off, none⟩) A.length cap) (.slice (some ⟨fa, 0, none⟩) F.length fc) Ts C F (.slice a2 (xs.length + 1) c2) (X1 xs x.final) (T ++ [t]) R)) := by
        have g1 := H6.out.pull4.pull4.pull4.noRowG ((CellT.stable _ _ _).both ((FolT.stable _ _ _ _ _ _ _ _ _).both ((MapT.stable _ _ _ _).both ((RowG.stable _ _ _ _ _).both ((AllRows.stable _ _ _ _ _ _).both HR.out))))) tAE 2
        have e1 : (X1 xs x.final).flatMap stc = xs.flatMap stc ++ [.bool x.final, .slice none 0 0] := by simp
        have e2 : (X1 xs x.final).length = xs.length + 1 := by simp
        unfold LayT
        rw [e1, e2]
        refine g1.impl fun _ q => ?_
        exact Both.mono (fun _ _ q => Both.mono (fun _ _ q => Both.mono (fun _ _ q => Both.mono (fun _ _ q => AllRows.push (val := fun x : Sta × Value => x.2) (cells := fun x => x.1.edges.flatMap edc) (n := fun x => x.1.edges.length) (⟨x.final, []⟩, .slice none 0 0) q) q.assoc) q.assoc) q.assoc) q.assoc
      have h8 := h7.noRowG ((CellT.stable _ _ _).both (LayT.stable HR.out)) tAE 2
      have H8 := Lib.hid h8
      clear h7 h8 r1
      go_loopw [3, 11, 45] (fun vo ve vi wr => ∃ (j : Nat) (t' : Trie) (T' : List Trie) (ys : List (Sta × Value)) (es : List Ed), vi = .int .i64 j ∧ j ≤ x.edges.length ∧ es.length = j ∧ UnfE A t' x.final (x.edges.drop j) ∧ (∀ c ∈ kids t', c ∈ kids t) ∧ htT t' ≤ htT t ∧ (∀ s ∈ T', s ∈ Ts) ∧ T'.Nodup ∧ T'.length = xs.length + 1 + ys.length ∧
        layE t (T ++ [t]) = ((layE t' T').1, ys.map Prod.fst ++ (layE t' T').2.1, es ++ (layE t' T').2.2) ∧
        At W wr (Both (RowG tAE 2 ve j (es.flatMap edc)) (Both (CellT w3.heap.size #[.bool x.final, .slice ua x.edges.length uc] tAS) (LayT kf gc mb A.length pb (.slice (some ⟨b, off, none⟩) A.length cap) (.slice (some ⟨fa, 0, none⟩) F.length fc) Ts C F vo (X1 xs x.final ++ ys) T' R)))) (fun _ _ vi _ => x.edges.length - (intOf vi).toNat)
      case atStart =>
        refine ⟨0, t, T ++ [t], [], [], rfl, Nat.zero_le _, rfl, HU.out, fun _ h => h, Nat.le_refl _, fun s hs => ?_, ?_, by simp [HXL.out], by simp, by rw [List.append_nil]; exact H8.out⟩
        · rcases List.mem_append.1 hs with hs | hs
          · exact hT s hs
          · rw [List.mem_singleton] at hs; subst hs; exact ht
        · exact List.nodup_append.2 ⟨hTn, by simp, fun a ha d hd e => by rw [List.mem_singleton] at hd; subst hd; subst e; exact HTN.out ha⟩
      case round =>
        obtain ⟨j, t', T', ys, es, rfl, hj, hesl, hut, hkd, hht', hT', hTn', hTl', hlay, h6⟩ := hrel
        by_cases hlj : j < x.edges.length
        · obtain ⟨e, he⟩ : ∃ e, x.edges[j]? = some e := ⟨_, List.getElem?_eq_getElem hlj⟩
          have hdr : x.edges.drop j = e :: x.edges.drop (j + 1) := by
            obtain ⟨h1, h2⟩ := List.getElem?_eq_some_iff.1 he
            rw [List.drop_eq_getElem_cons h1, h2]
          rw [hdr] at hut
          obtain ⟨c, r, rfl, hge0, huc2, hur⟩ := hut.cons
          obtain ⟨m, hm⟩ := Int.eq_ofNat_of_zero_le hge0
          rw [hm, Int.toNat_natCast] at huc2
          obtain ⟨d, hd⟩ := hC m huc2.lt
          have hval := HI.out.val hd huc2
          rw [← hval.2] at hd
          have hml := huc2.lt
          have hmI : (m : Int) < (A.length : Int) := by omega
          have hjI : (j : Int) < (x.edges.length : Int) := by omega
          have hht2 : htT c < k := by
            simp only [htT] at hht'
            omega
          obtain ⟨be, oe, ce, hse, e0, e1⟩ := RdEds.at (HE.out.below h6.below) he
          cases hse
          rw [hm] at e1
          have hst0 := (RowG.stable tAE 2 u11 j (es.flatMap edc)).both ((CellT.stable w3.heap.size #[.bool x.final, .slice (some ⟨be, oe, none⟩) x.edges.length uc] tAS).both (LayT.stable (kf := kf) (gc := gc) (mb := mb) (N := A.length) (pb := pb) (va := .slice (some ⟨b, off, none⟩) A.length cap) (vf := .slice (some ⟨fa, 0, none⟩) F.length fc) (Ts := Ts) (C := C) (F := F) (ov := u3) (xs := X1 xs x.final ++ ys) (T := T') HR.out))
          have h7 := h6.newCell hst0 #[bv e.1, .int .i64 m] tAE
          have h8 : At W (wr.alloc (.cells #[bv e.1, .int .i64 m] tAE)) (LayT kf gc mb A.length pb (.slice (some ⟨b, off, none⟩) A.length cap) (.slice (some ⟨fa, 0, none⟩) F.length fc) Ts C F u3 (X1 xs x.final ++ ys) T' (Both (CellT wr.heap.size #[bv e.1, .int .i64 m] tAE) (Both (RowG tAE 2 u11 j (es.flatMap edc)) (Both (CellT w3.heap.size #[.bool x.final, .slice (some ⟨be, oe, none⟩) x.edges.length uc] tAS) R)))) :=
            h7.impl fun _ q => Both.in4 (Both.mono (fun _ _ q => Both.in4 (Both.mono (fun _ _ q => Both.in4 q) q)) q)
          have hst2 : Stable (Both (CellT wr.heap.size #[bv e.1, .int .i64 m] tAE) (Both (RowG tAE 2 u11 j (es.flatMap edc)) (Both (CellT w3.heap.size #[.bool x.final, .slice (some ⟨be, oe, none⟩) x.edges.length uc] tAS) R))) := (CellT.stable _ _ _).both ((RowG.stable _ _ _ _ _).both ((CellT.stable _ _ _).both HR.out))
          have h9 := h8.drew (LayT.stable hst2)
          obtain ⟨z1, _, _⟩ := h8.folOpen.cellF (o := 1) rfl
          obtain ⟨z2, _, _⟩ := h8.folOpen.drop.rowCell (nats_get hd)
          have hkeyc := keyOf_nat (n := clsT Ts c) (by have := clsT_le hval.1; have := HI.out.le; omega)
          have hesb : es.length ≤ 1048576 := by omega
          have hjb : j ≤ 1048576 := by omega
          -- the rest of the round, from the append on
          have STEP : ∀ (w5 : World) (ov5 : Value) (zs : List (Sta × Value)) (T5 : List Trie), At W w5 (LayT kf gc mb A.length pb (.slice (some ⟨b, off, none⟩) A.length cap) (.slice (some ⟨fa, 0, none⟩) F.length fc) Ts C F ov5 zs T5 (Both (CellT wr.heap.size #[bv e.1, .int .i64 m] tAE) (Both (RowG tAE 2 u11 j (es.flatMap edc)) (Both (CellT w3.heap.size #[.bool x.final, .slice (some ⟨be, oe, none⟩) x.edges.length uc] tAS) R)))) →
              w5.cell? ⟨wr.heap.size, 0, none⟩ = some (bv e.1) ∧ At W w5 (Both (RowG tAE 2 u11 j (es.flatMap edc)) (Both (CellT w3.heap.size #[.bool x.final, .slice (some ⟨be, oe, none⟩) x.edges.length uc] tAS) (LayT kf gc mb A.length pb (.slice (some ⟨b, off, none⟩) A.length cap) (.slice (some ⟨fa, 0, none⟩) F.length fc) Ts C F ov5 zs T5 R))) := by
            intro w5 ov5 zs T5 g
            have g1 := g.impl fun _ q => Both.out4 q
            have g2 : At W w5 (Both (CellT wr.heap.size #[bv e.1, .int .i64 m] tAE) (Both (RowG tAE 2 u11 j (es.flatMap edc)) (Both (CellT w3.heap.size #[.bool x.final, .slice (some ⟨be, oe, none⟩) x.edges.length uc] tAS) (LayT kf gc mb A.length pb (.slice (some ⟨b, off, none⟩) A.length cap) (.slice (some ⟨fa, 0, none⟩) F.length fc) Ts C F ov5 zs T5 R)))) :=
              g1.impl fun _ q => Both.mono (fun _ _ q => Both.mono (fun _ _ q => Both.out4 q) (Both.out4 q)) q
            exact ⟨(g2.cellF (o := 0) (u := bv e.1) rfl).1, g2.drop⟩
          have HSTA : ∀ ov5 zs T5, Stable (Both (CellT w3.heap.size #[.bool x.final, .slice (some ⟨be, oe, none⟩) x.edges.length uc] tAS) (LayT kf gc mb A.length pb (.slice (some ⟨b, off, none⟩) A.length cap) (.slice (some ⟨fa, 0, none⟩) F.length fc) Ts C F ov5 zs T5 R)) := fun _ _ _ => (CellT.stable _ _ _).both (LayT.stable HR.out)
          have HSA := Lib.hid HSTA
          have HSTEP := Lib.hid STEP
          have HLAY := Lib.hid hlay
          have HESL := Lib.hid hesl
          have HUR := Lib.hid hur
          have HVAL := Lib.hid hval
          have HKC := Lib.hid hkeyc
          have HTS := Lib.hid hT'
          have HTND := Lib.hid hTn'
          have HTLN := Lib.hid hTl'
          by_cases hc : c ∈ T'
          · have hlook := h9.swap.mapHit (t := tMI) (e := tInt) true int_key Try.underlying99 HKC.out (plT_hit (Ts := Ts) hc)
            rw [if_pos rfl] at hlook
            have hlook2 := h9.swap.mapHit (t := tMI) (e := tInt) false int_key Try.underlying99 HKC.out (plT_hit (Ts := Ts) hc)
            rw [if_neg Bool.false_ne_true] at hlook2
            obtain ⟨y0, g9⟩ := STEP _ _ _ _ h8
            have HG9 := Lib.hid g9
            have HCM := Lib.hid hc
            clear h6 h7 h8 h9 hst0 hst2 STEP HSTA hlay hesl hur hval hkeyc hT' hTn' hTl' hc huc2 hd he hm hut hdr g9 hge0
            (repeat' (first | (go_big_may; fail) | go_values | go_skip | go_guarded | go_step | go_upon | go_back | dsimp only))
            (refine region_still_tail 8 (by kernel_rfl) (by kernel_rfl) ?_; simp only [List.take_succ_cons, List.take_zero, List.drop_succ_cons, List.drop_zero]; (iterate 8 (first | ((with_reducible refine still_plain ?_ rfl ?_ ?_); rotate_left; (next => (go_simp; (try with_reducible rfl))); simp only [Act.put, List.setIfInBounds_toArray, List.set_cons_zero, List.set_cons_succ]) | ((with_reducible refine still_skip ?_ ?_); (next => (go_simp; done)); simp only [Act.put, List.setIfInBounds_toArray, List.set_cons_zero, List.set_cons_succ]) | ((with_reducible refine still_val ?_ ?_ ?_ ?_); rotate_left; (next => (go_simp; done)); (next => (go_simp; (try with_reducible rfl))); simp only [Act.put, List.setIfInBounds_toArray, List.set_cons_zero, List.set_cons_succ]))); (with_reducible refine wpStill_nil ?_))
            (repeat' (first | (go_big_may; ((at_builtin; go_must (refine wpList_append_to_drew rfl _ _ 56 tAE rfl Try.underlying56 info_AE rfl (by decide) rfl (HG9.out) (HSA.out _ _ _) rfl (by first | rfl | simp) rfl (two_one' _ _ rfl rfl) (by unfold maxLen; omega) (by omega) ?_); intro a7 c7 w7 h10 _); have H10 := Lib.hid h10; clear h10)) | go_values | go_skip | go_guarded | go_step | go_upon | go_back | dsimp only))
            go_roundw
            case rel =>
              refine ⟨j + 1, r, T', ys, es ++ [(e.1, (ixT T' c : Int))], by simp, by omega, by simp [HESL.out], HUR.out, fun d hd => hkd d (by simp [kids, hd]), by simp only [htT] at hht'; omega, HTS.out, HTND.out, HTLN.out, ?_, ?_⟩
              · rw [HLAY.out, layE_old HCM.out]; simp
              · have e9 : (es ++ [(e.1, (ixT T' c : Int))]).flatMap edc = es.flatMap edc ++ [bv e.1, .int .i64 (ixT T' c : Nat)] := by simp
                rw [e9]
                exact H10.out
            case measure => simp [intOf] <;> omega
          · have hlook := h9.swap.mapMiss (t := tMI) (e := tInt) true int_key Try.underlying99 (zero_int _) HKC.out (plT_miss hT' hval.1 hc)
            rw [if_pos rfl] at hlook
            have hcall := IH.out _ c T' (X1 xs x.final ++ ys) u3 _ h9 hst2 hT' hTn' hval.1 hc hht2 (by rw [hTl']; simp; omega)
            have HCALL := Lib.hid hcall
            have HCM := Lib.hid hc
            clear h6 h7 h8 h9 hst0 hst2 STEP HSTA hlay hesl hur hval hkeyc hT' hTn' hTl' hc huc2 hd he hm hut hdr hge0 hcall
            (repeat' (first | (go_big_may; fail) | go_values | go_skip | go_guarded | go_step | go_upon | go_back | dsimp only))
            (refine region_still_tail 8 (by kernel_rfl) (by kernel_rfl) ?_; simp only [List.take_succ_cons, List.take_zero, List.drop_succ_cons, List.drop_zero]; (iterate 8 (first | ((with_reducible refine still_plain ?_ rfl ?_ ?_); rotate_left; (next => (go_simp; (try with_reducible rfl))); simp only [Act.put, List.setIfInBounds_toArray, List.set_cons_zero, List.set_cons_succ]) | ((with_reducible refine still_skip ?_ ?_); (next => (go_simp; done)); simp only [Act.put, List.setIfInBounds_toArray, List.set_cons_zero, List.set_cons_succ]) | ((with_reducible refine still_val ?_ ?_ ?_ ?_); rotate_left; (next => (go_simp; done)); (next => (go_simp; (try with_reducible rfl))); simp only [Act.put, List.setIfInBounds_toArray, List.set_cons_zero, List.set_cons_succ]))); (with_reducible refine wpStill_nil ?_))
            (repeat' (first | (go_big_may; fail) | go_values | go_skip | go_guarded | go_step | go_upon | go_back | dsimp only))
            refine HCALL.out.mono ?_
            rintro e7 w7 ⟨ov7, ys7, rfl, hys7, h11⟩
            obtain ⟨i1, i2, i3⟩ := layE_ix HCM.out
            have hlook2 := h11.swap.mapHit (t := tMI) (e := tInt) false int_key Try.underlying99 HKC.out (plT_hit (Ts := Ts) i1)
            rw [if_neg Bool.false_ne_true, i2] at hlook2
            obtain ⟨y0, g9⟩ := HSTEP.out _ _ _ _ h11
            have HG9 := Lib.hid g9
            have HYS7 := Lib.hid hys7
            have HI3 := Lib.hid i3
            have HT7 := Lib.hid (layE_in HI.out.closed c (T' ++ [c]) (HI.out.closed c HVAL.out.1) (fun s hs => by
              rcases List.mem_append.1 hs with hs | hs
              · exact HTS.out s hs
              · rw [List.mem_singleton] at hs; subst hs; exact HVAL.out.1))
            have HN7 := Lib.hid (show (layE c (T' ++ [c])).1.Nodup from by
              obtain ⟨Us, q⟩ := layE_spec c (T' ++ [c])
              exact q.nodup (List.nodup_append.2 ⟨HTND.out, by simp, fun a ha d hd e => by rw [List.mem_singleton] at hd; subst hd; subst e; exact HCM.out ha⟩))
            clear h11 g9 hys7 i1 i2 i3 HCALL
            (repeat' (first | (go_big_may; ((at_builtin; go_must (refine wpList_append_to rfl _ _ 56 tAE rfl Try.underlying56 info_AE rfl (by decide) rfl (HG9.out) (HSA.out _ _ _) rfl (by first | rfl | simp) rfl (two_one' _ _ rfl rfl) (by unfold maxLen; omega) (by omega) ?_); intro a7 c7 w8 h10 _); have H10 := Lib.hid h10; clear h10)) | go_values | go_skip | go_guarded | go_step | go_upon | go_back | dsimp only))
            go_roundw
            case rel =>
              have hyl : ys7.length = 1 + (layE c (T' ++ [c])).2.1.length := by
                have := congrArg List.length HYS7.out
                simp at this
                omega
              refine ⟨j + 1, r, (layE c (T' ++ [c])).1, ys ++ ys7, es ++ [(e.1, (T'.length : Int))], by simp, by omega, by simp [HESL.out], HUR.out, fun d hd => hkd d (by simp [kids, hd]), by simp only [htT] at hht'; omega, HT7.out, HN7.out, ?_, ?_, ?_⟩
              · rw [HI3.out, HTLN.out, List.length_append]; omega
              · rw [HLAY.out, layE_new HCM.out, List.map_append, HYS7.out]; simp
              · have e9 : (es ++ [(e.1, (T'.length : Int))]).flatMap edc = es.flatMap edc ++ [bv e.1, .int .i64 (T'.length : Nat)] := by simp
                rw [e9, ← List.append_assoc]
                exact H10.out
            case measure => simp [intOf] <;> omega
        · obtain rfl : j = x.edges.length := by omega
          rw [List.drop_eq_nil_of_le (Nat.le_refl _)] at hut
          obtain rfl := hut.nil
          simp only [layE, List.append_nil] at hlay
          have hf : t.final = x.final := HU.out.final
          obtain ⟨va, vc, hu9, _, _⟩ := own_shape h6.rowG
          have h4 := h6.swap.drop.pull4
          have hll : (X1 xs x.final ++ ys).length = xs.length + 1 + ys.length := by simp; omega
          have hstr : Stable (Both (RowG tAE 2 u11 x.edges.length (es.flatMap edc)) (Both (FolT kf gc mb A.length (.slice (some ⟨b, off, none⟩) A.length cap) (.slice (some ⟨fa, 0, none⟩) F.length fc) Ts C F) (Both (MapT Try.prog tInt pb (plT Ts T')) (Both (EdsG tAE (X1 xs x.final ++ ys)) R)))) :=
            (RowG.stable _ _ _ _ _).both ((FolT.stable _ _ _ _ _ _ _ _ _).both ((MapT.stable _ _ _ _).both ((AllRows.stable _ _ _ _ _ _).both HR.out)))
          obtain ⟨go, oc', hoo, _, hoc1, hoc2⟩ := own_cut h4.rowG (by omega)
          subst hoo
          have hgx := x1_get xs ys (⟨x.final, []⟩, .slice none 0 0)
          have hgetx : ((X1 xs x.final ++ ys).flatMap stc)[xs.length * 2 + 1]? = some (.slice none 0 0) := by
            have h9 := flatMap_get stc_len (X1 xs x.final ++ ys) (i := xs.length) (j := 1) (by omega) (by decide)
            have h8 : (X1 xs x.final ++ ys).getD xs.length default = (⟨x.final, []⟩, .slice none 0 0) := by rw [List.getD_eq_getElem?_getD, hgx]; rfl
            rw [h8] at h9
            exact h9
          obtain ⟨g1, g2, g3⟩ := h4.rowCell hgetx
          have h5 := h4.storeG hstr (xs.length * 2 + 1) u11
          rw [stc_set hgx u11 es, x1_set] at h5
          rw [← hesl] at h5
          have e7 : (xs ++ (((⟨x.final, es⟩, u11) : Sta × Value) :: ys)).length = (X1 xs x.final ++ ys).length := by simp
          have h6' : At W (wr.setCell ⟨go, xs.length * 2 + 1, none⟩ u11) (LayT kf gc mb A.length pb (.slice (some ⟨b, off, none⟩) A.length cap) (.slice (some ⟨fa, 0, none⟩) F.length fc) Ts C F (.slice (some ⟨go, 0, none⟩) (X1 xs x.final ++ ys).length oc') (xs ++ (((⟨x.final, es⟩, u11) : Sta × Value) :: ys)) T' R) := by
            unfold LayT
            rw [e7]
            refine h5.impl fun _ q => ?_
            have q1 := Both.mono (fun _ _ q2 => Both.mono (fun _ _ q => Both.mono (fun _ _ q4 => AllRows.setRow (val := fun x : Sta × Value => x.2) (cells := fun x => x.1.edges.flatMap edc) (n := fun x => x.1.edges.length) (y := (⟨x.final, es⟩, u11)) hgx rfl q4) q.assoc) (Both.assoc q2)) q
            rw [x1_set] at q1
            exact Both.mono (fun _ _ q => Both.assoc q) (Both.assoc q1)
          have H6 := Lib.hid h6'
          have HLAY := Lib.hid hlay
          have HESL := Lib.hid hesl
          have HFN := Lib.hid hf
          have hi0 : (0 : Int) ≤ (xs.length : Int) := by omega
          have hi1 : (xs.length : Int) < ((X1 xs x.final ++ ys).length : Int) := by omega
          have hjI : ¬ (x.edges.length : Int) < (x.edges.length : Int) := by omega
          generalize hlX : (X1 xs x.final ++ ys).length = LX at *
          clear h4 h5 h6 h6' hgx hgetx hstr hlay hesl e7 hll hf hT' hTn' hTl' hut hkd hht'
          subst hu9
          (repeat' (first | (go_big_may; fail) | go_values | go_skip | go_guarded | go_step | go_upon | go_back | dsimp only))
          go_ret
          refine ⟨.slice (some ⟨go, 0, none⟩) LX oc', (⟨x.final, es⟩, .slice va x.edges.length vc) :: ys, rfl, ?_, ?_⟩
          · rw [HLAY.out, HFN.out]; rfl
          · have hl1 : (layE t (T ++ [t])).1 = T' := by rw [HLAY.out]
            rw [hl1]
            exact H6.out
end

section
open Go.RowKit

theorem mk_msi (w : World) : (Instr.makeMap tMSI none).run Try.prog w = .ok (.map (some w.heap.size)) (w.alloc (.map #[] 0)) := by kernel_rfl
set_option maxRecDepth 100000 in
set_option maxHeartbeats 3200000 in
theorem Minimize_calls {w : World} {A : List Sta} {va : Value} (hA : RdAut w va A) (hl : A.length ≤ 1048576 ∧ edgesN A ≤ 1048576) (hs : shapeB A = true) {t : Trie} (ht : Unf A 0 t) :
    Calls Try.prog 24 #[va] w fun e w' => ∃ ov, e = .returned (.tuple #[ov, .int .i64 0]) ∧ At w w' (Both (AutG tAS tAE ov (minT t)) Nought) := by
  have hsh := shaped_of hs
  have HS := Lib.hid (Shape_calls hA hl)
  rw [shapeV_ok hs] at HS
  obtain ⟨a0, c0, hv, _, hc0⟩ := hA.shape
  have hn : A.length ≤ 1048576 := by omega
  have FOLD := Lib.hid (fun w' kf gc mb (h : At w w' (Both (FolT kf gc mb A.length va (.slice none 0 0) [] (List.replicate A.length 0) []) Nought)) => fold_at hA hl kf gc mb (htT t + 1) w' 0 t (.slice none 0 0) [] (List.replicate A.length 0) [] Nought h Stable.nought (FI.start A) ht (by omega))
  have LAY := Lib.hid (fun w' kf gc mb pb vf Ts C F (hi : FI A Ts C F) (hC : ∀ i, i < A.length → ∃ d, C[i]? = some (d + 1)) (hm : t ∈ Ts) (h : At w w' (LayT kf gc mb A.length pb va vf Ts C F (.slice none 0 0) [] [] Nought)) => lay_at hA hl hi hC kf gc mb pb vf (htT t + 1) w' t [] [] (.slice none 0 0) Nought h Stable.nought (by simp) List.nodup_nil hm (by simp) (by omega) rfl)
  have HT := Lib.hid ht
  have HSH := Lib.hid hsh
  have hmm := mk_msi
  have hmi := mk_mi
  clear hA hs ht hsh hl
  subst hv
  go_enter Try.func24, Try.ntmps24
  (repeat' (first | (go_big_may; fail) | go_values | go_skip | go_guarded | go_step | go_upon | go_back | dsimp only))
  refine HS.out.mono ?_
  rintro e1 w1 ⟨rfl, hb1⟩
  have HNW := Lib.hid (At.nought hb1)
  clear hb1
  (repeat' (first | (go_big_may; ((at_make; go_must (refine wpList_make_at rfl _ _ 85 rfl tInt Try.underlying85 info_Int rfl rfl rfl rfl rfl (by omega) (by unfold maxLen; omega) HNW.out Stable.nought ?_)); intro w2 h2 _; have H2 := Lib.hid h2; clear h2)) | go_values | go_skip | go_guarded | go_step | go_upon | go_back | dsimp only))
  have hs2 := (RowG.stable tInt 1 (.slice (some ⟨w1.heap.size, 0, none⟩) A.length A.length) A.length (List.replicate A.length (.int .i64 0))).both Stable.nought
  have h3 := H2.out.newMap hs2 Try.prog tStr
  have hs3 := (MapT.stable Try.prog tStr w2.heap.size []).both hs2
  have h4 := h3.newCell hs3 #[.slice a0 A.length c0, .slice (some ⟨w1.heap.size, 0, none⟩) A.length A.length, .map (some w2.heap.size), .slice none 0 0] tFo
  have z3 : (w2.alloc (.map #[] 0)).heap.size = w2.heap.size + 1 := by simp
  rw [z3] at h4
  have h5 := (h4.swap2.noRowG ((CellT.stable _ _ _).both ((RowG.stable _ _ _ _ _).both ((MapT.stable _ _ _ _).both Stable.nought))) tInt 1).pull4.pull4.pull4
  rw [show List.replicate A.length (Value.int .i64 0) = nats (List.replicate A.length 0) from by simp [nats]] at h5
  have h6 := FOLD.out _ _ _ _ (At.folShut (Ts := []) (F := []) h5)
  have HF := Lib.hid h6
  clear h3 h4 h5 h6 hs2 hs3 z3
  (repeat' (first | (go_big_may; fail) | go_values | go_skip | go_guarded | go_step | go_upon | go_back | dsimp only))
  refine HF.out.mono ?_
  rintro e3 w3 ⟨vf, Ts, C, F, c, rfl, hst, hc, h7⟩
  have hval := hst.inv.val hc HT.out
  have hC : ∀ i, i < A.length → ∃ d, C[i]? = some (d + 1) := fun i hi => hst.inv.reach 0 c hc i (HSH.out.reach i hi)
  have h8 := (h7.newMap ((FolT.stable _ _ _ _ _ _ _ _ _).both Stable.nought) Try.prog tInt).noAut ((MapT.stable _ _ _ _).both ((FolT.stable _ _ _ _ _ _ _ _ _).both Stable.nought)) tAS tAE
  have h9 := h8.pull4.impl fun _ q => Both.mono (fun _ _ q => q.pull3) q
  have h10 := LAY.out _ _ _ _ _ _ _ _ _ hst.inv hC hval.1 h9
  rw [hval.2] at h10
  generalize hq : c + 1 = q at *
  have HL := Lib.hid h10
  clear h7 h8 h9 h10 hst hc hval hC hq HF
  (repeat' (first | (go_big_may; fail) | go_values | go_skip | go_guarded | go_step | go_upon | go_back | dsimp only))
  refine HL.out.mono ?_
  rintro e4 w4 ⟨ov, ys, rfl, hys, h11⟩
  have h12 := At.autG h11.drop.drop
  have HE := Lib.hid (And.intro hys h12)
  clear h11 h12 hys HL
  (repeat' (first | (go_big_may; fail) | go_values | go_skip | go_guarded | go_step | go_upon | go_back | dsimp only))
  go_ret2
  refine ⟨_, rfl, ?_⟩
  have h13 := HE.out.2
  rw [List.nil_append, HE.out.1] at h13
  exact h13
end
end Go.Proofs.Ytcbdncjknpdnbaa
