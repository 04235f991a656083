/- walk's fold walked: each state gets the class of its tree. -/
import Derived.Test.YtcbdncjknpdnbaaMinPl
import Derived.Test.YtcbdncjknpdnbaaBuK
import Derived.Test.YtcbdncjknpdnbaaMapT
import Derived.Test.YtcbdncjknpdnbaaShelf
import Derived.Test.YtcbdncjknpdnbaaBuilder
import Derived.Test.YtcbdncjknpdnbaaDawgFz
import Derived.Test.YtcbdncjknpdnbaaWkRCnt
import Derived.Test.YtcbdncjknpdnbaaWkGather
import Derived.Deep.RegionLaw
import Derived.Deep.DeepCutAuto
namespace Go.Proofs.Ytcbdncjknpdnbaa
open Go.RowKit
open Go.Maps (Keyed)

abbrev tFo : TypeId := 96
abbrev tMSI : TypeId := 89
theorem str_key : Keyed Try.prog tStr := Go.Maps.string_keyed Try.underlying9
theorem keyOf_str (l : List UInt8) (h : l.length ≤ maxLen) : ∃ kl, keyOf Try.prog tStr (.string ⟨l.toArray⟩) = some kl := by
  refine ⟨.string l, ?_⟩
  simp [keyOf, mapKey, Try.underlying9]
  simpa [ByteArray.size] using h
/-- The known keys. -/
def knT (Ts : List Trie) : List (Value × Value) := Ts.map fun t => (.string ⟨(keyT Ts t).toArray⟩, .int .i64 (clsT Ts t : Nat))
theorem knT_new {Ts : List Trie} {t : Trie} (hc : ClosedT Ts) (hk : ∀ c ∈ kids t, c ∈ Ts) (hn : t ∉ Ts) : knT (Ts ++ [t]) = knT Ts ++ [(.string ⟨(keyT Ts t).toArray⟩, .int .i64 ((Ts.length + 1 : Nat) : Int))] := by
  unfold knT
  rw [List.map_append]
  congr 1
  · exact List.map_congr_left fun s hs => by rw [keyT_ext (hc s hs), clsT_ext hs]
  · have h1 : clsT (Ts ++ [t]) t = Ts.length + 1 := by
      have : ∀ l : List Trie, t ∉ l → ixT (l ++ [t]) t = l.length := fun l => by
        induction l with
        | nil => intro _; simp [ixT]
        | cons a l ih =>
          intro h
          simp only [List.cons_append, ixT, List.length_cons]
          rw [if_neg (fun e => h (by simp [e])), ih fun hm => h (by simp [hm])]
      unfold clsT
      rw [this Ts hn]
    simp only [List.map_cons, List.map_nil]
    rw [keyT_ext hk, h1]
theorem knT_hit {Ts : List Trie} {t : Trie} (h : t ∈ Ts) : (Value.string ⟨(keyT Ts t).toArray⟩, Value.int .i64 (clsT Ts t : Nat)) ∈ knT Ts := List.mem_map.2 ⟨t, h, rfl⟩
theorem knT_miss {Ts : List Trie} {t : Trie} (hl : Ts.length < 18446744073709551616) (hc : ClosedT Ts) (hk : ∀ c ∈ kids t, c ∈ Ts) (hn : t ∉ Ts) : ∀ p ∈ knT Ts, p.1 ≠ Value.string ⟨(keyT Ts t).toArray⟩ := by
  intro p hp e
  obtain ⟨s, hs, rfl⟩ := List.mem_map.1 hp
  simp only [Value.string.injEq, ByteArray.mk.injEq] at e
  have e2 : keyT Ts s = keyT Ts t := by simpa using congrArg Array.toList e
  exact hn (keyT_inj hl (hc s hs) hk e2 ▸ hs)

theorem enters_string : ∀ (xs : Array Value) (w : World), (callFunc 65 xs).run Try.prog w = .ok (.enter 65 xs) w := fun xs w => enters_fn Try.func65 (by kernel_rfl) rfl xs w
/-- The folder in memory. -/
def FolT (kf gc mb N : Nat) (va vf : Value) (Ts : List Trie) (C F : List Nat) : Thing :=
  Both (CellT kf #[va, .slice (some ⟨gc, 0, none⟩) N N, .map (some mb), vf] tFo) (Both (RowG tInt 1 (.slice (some ⟨gc, 0, none⟩) N N) N (nats C)) (Both (MapT Try.prog tStr mb (knT Ts)) (RowG tInt 1 vf F.length (nats F))))
theorem FolT.stable (kf gc mb N : Nat) (va vf : Value) (Ts : List Trie) (C F : List Nat) : Stable (FolT kf gc mb N va vf Ts C F) := (CellT.stable _ _ _).both ((RowG.stable _ _ _ _ _).both ((MapT.stable _ _ _ _).both (RowG.stable _ _ _ _ _)))
theorem cell_nb (k : Nat) (cs : Array Value) (T : TypeId) (h1 : T ≠ tU8) (h2 : T ≠ tB) : NoBytes (CellT k cs T) := by
  rintro w fp ⟨h, rfl⟩ j hj
  rw [List.mem_singleton] at hj
  subst hj
  exact ⟨_, h, fun c fz e => h1 (by injection e), fun c fz e => h2 (by injection e)⟩
theorem row_nb (e : TypeId) (size : Nat) (v : Value) (n : Nat) (xs : List Value) (h1 : e ≠ tU8) (h2 : e ≠ tB) : NoBytes (RowG e size v n xs) := by
  rintro w fp ⟨h, rfl⟩ j hj
  rcases h.2 with ⟨rfl, _⟩ | ⟨g, cap, cur, rfl, _, hg, _⟩
  · simp [rowOf, Value.ownBlock] at hj
  · simp [rowOf, Value.ownBlock] at hj
    subst hj
    exact ⟨_, hg, fun c fz e => h1 (by injection e), fun c fz e => h2 (by injection e)⟩
theorem map_nb (P : Program) (k : TypeId) (b : Nat) (M : List (Value × Value)) : NoBytes (MapT P k b M) := by
  rintro w fp ⟨rfl, es, cl, h, _⟩ j hj
  rw [List.mem_singleton] at hj
  subst hj
  exact ⟨_, h, (by intro c fz e; cases e), (by intro c fz e; cases e)⟩
theorem FolT.nb (kf gc mb N : Nat) (va vf : Value) (Ts : List Trie) (C F : List Nat) : NoBytes (FolT kf gc mb N va vf Ts C F) :=
  (cell_nb _ _ _ (by decide) (by decide)).both ((row_nb _ _ _ _ _ (by decide) (by decide)).both ((map_nb _ _ _ _).both (row_nb _ _ _ _ _ (by decide) (by decide))))
theorem At.folOpen {W w : World} {kf gc mb N : Nat} {va vf : Value} {Ts : List Trie} {C F : List Nat} {R : Thing} (h : At W w (Both (FolT kf gc mb N va vf Ts C F) R)) :
    At W w (Both (CellT kf #[va, .slice (some ⟨gc, 0, none⟩) N N, .map (some mb), vf] tFo) (Both (RowG tInt 1 (.slice (some ⟨gc, 0, none⟩) N N) N (nats C)) (Both (MapT Try.prog tStr mb (knT Ts)) (Both (RowG tInt 1 vf F.length (nats F)) R)))) :=
  h.impl fun _ q => Both.mono (fun _ _ q => Both.mono (fun _ _ q => q.unassoc) q.unassoc) (Both.unassoc q)
theorem At.folShut {W w : World} {kf gc mb N : Nat} {va vf : Value} {Ts : List Trie} {C F : List Nat} {R : Thing}
    (h : At W w (Both (CellT kf #[va, .slice (some ⟨gc, 0, none⟩) N N, .map (some mb), vf] tFo) (Both (RowG tInt 1 (.slice (some ⟨gc, 0, none⟩) N N) N (nats C)) (Both (MapT Try.prog tStr mb (knT Ts)) (Both (RowG tInt 1 vf F.length (nats F)) R))))) : At W w (Both (FolT kf gc mb N va vf Ts C F) R) :=
  h.impl fun _ q => Both.assoc' (Both.mono (fun _ _ q => Both.assoc' (Both.mono (fun _ _ q => Both.assoc' q) q)) q)
theorem nats_get {C : List Nat} {i c : Nat} (h : C[i]? = some c) : (nats C)[i]? = some (.int .i64 (c : Nat)) := by simp [nats, h]
theorem nats_set (C : List Nat) (i c : Nat) : (nats C).set i (.int .i64 (c : Nat)) = nats (C.set i c) := by simp [nats, List.map_set]
theorem pk_bound {A : List Sta} {Ts : List Trie} {C F : List Nat} (h : FI A Ts C F) (hl : A.length ≤ 1048576 ∧ edgesN A ≤ 1048576) (i : Nat) : C.getD i 0 < 18446744073709551616 := by
  rw [List.getD_eq_getElem?_getD]
  cases hc : C[i]? with
  | none => simp
  | some v =>
    cases v with
    | zero => simp
    | succ c =>
      obtain ⟨t, u, e⟩ := h.cls i c hc
      have h1 := h.le
      have h2 := (List.getElem?_eq_some_iff.1 e).1
      simp
      omega

set_option maxRecDepth 100000 in
set_option maxHeartbeats 6400000 in
theorem fold_at {W : World} {A : List Sta} {va : Value} (hA : RdAut W va A) (hl : A.length ≤ 1048576 ∧ edgesN A ≤ 1048576) (kf gc mb : Nat) (k : Nat) : ∀ (w : World) (n : Nat) (t : Trie) (vf : Value) (Ts : List Trie) (C F : List Nat) (R : Thing),
    At W w (Both (FolT kf gc mb A.length va vf Ts C F) R) → Stable R → FI A Ts C F → Unf A n t → htT t < k →
    Calls Try.prog 41 #[ptrN kf, .int .i64 n] w fun e w' => ∃ vf' Ts' C' F' c, e = .returned (.int .i64 ((c + 1 : Nat) : Int)) ∧ FStep A Ts Ts' C C' F' ∧ C'[n]? = some (c + 1) ∧ At W w' (Both (FolT kf gc mb A.length va vf' Ts' C' F') R) := by
  induction k with
  | zero => intro w n t vf Ts C F R _ _ _ _ h; omega
  | succ k ih =>
    intro w n t vf Ts C F R h hR hi hu hk
    have hn := hu.lt
    have hnI : (n : Int) < (A.length : Int) := by omega
    obtain ⟨v, hv⟩ : ∃ v, C[n]? = some v := ⟨_, List.getElem?_eq_getElem (by rw [hi.clen]; exact hn)⟩
    have ho := h.folOpen
    obtain ⟨c0, _, _⟩ := ho.cellF (o := 0) rfl
    obtain ⟨c1, _, _⟩ := ho.cellF (o := 1) rfl
    obtain ⟨c3, _, _⟩ := ho.drop.rowCell (nats_get hv)
    cases v with
    | succ c =>
      have hpos : (0 : Int) < ((c + 1 : Nat) : Int) := by omega
      have H := Lib.hid h
      have HI := Lib.hid hi
      have HV := Lib.hid hv
      clear h hi hv hu ih ho hA
      go_enter Try.func41, Try.ntmps41
      (repeat' (first | (go_big_may; fail) | go_values | go_skip | go_guarded | go_step | go_upon | go_back | dsimp only))
      go_ret
      exact ⟨vf, Ts, C, F, c, rfl, ⟨HI.out, List.prefix_rfl, fun _ _ h => h⟩, HV.out, H.out⟩
    | zero =>
      obtain ⟨x, hx, hux⟩ := hu
      obtain ⟨b, off, cap, u, hsv, d0, d1, hue⟩ := hA.at hx
      obtain ⟨ua, uc, rfl, _, huc⟩ := hue.shape
      unfold maxLen at huc
      subst hsv
      have hel := edgesN_le hx
      have D0 := Lib.hid d0
      have D1 := Lib.hid d1
      have H := Lib.hid h
      have HR := Lib.hid hR
      have HI := Lib.hid hi
      have HU := Lib.hid hux
      have HX := Lib.hid hx
      have HV := Lib.hid hv
      have IH := Lib.hid ih
      have HE := Lib.hid (show RdEds W (.slice ua x.edges.length uc) x.edges from hue)
      have HFIN := Lib.hid hux.final
      have h0 := (h.under hR (Nat.le_refl _)).alloc ((FolT.stable _ _ _ _ _ _ _ _ _).both (UnderT.stable hR)) (.cells #[.pointer none, .slice none 0 0] tB)
      have HB0 := Lib.hid (Lib.fresh_isBuilder tB tU8 w)
      have H0 := Lib.hid h0
      have ho2 := h0.folOpen
      obtain ⟨g0, _, _⟩ := ho2.cellF (o := 0) rfl
      have q0 := (h0.below.cell (World.block_lt_of_cell? _ _ d0)).trans d0
      have hWs := h.below.size
      clear h hR hi hux hx ih hue d0 d1 ho ho2 h0 hA hv
      go_enter Try.func41, Try.ntmps41
      go_upto_if 32 with (fail)
      go_cut [] (fun wx => At W wx (Both (FolT kf gc mb A.length (.slice (some ⟨b, off, none⟩) A.length cap) vf Ts C F) (UnderT w.heap.size R)) ∧ Lib.IsBuilder tB tU8 w.heap.size w.heap.size (bvs [if x.final = true then 1 else 0]) wx)
      case first =>
        refine wp_norm ?_
        rename_i J K' hJ hK
        have HJ := Lib.hid hJ
        have HK := Lib.hid hK
        clear hJ hK
        cases hf : x.final with
        | true =>
          rw [hf] at q0
          have HC := Lib.hid (WriteByte_k w.heap.size w.heap.size [] 1 (w.alloc (.cells #[.pointer none, .slice none 0 0] tB)) HB0.out (by simp) (by simp))
          (repeat' (first | (go_big_may; fail) | go_values | go_skip | go_guarded | go_step | go_upon | go_back | dsimp only))
          refine HC.out.mono ?_
          rintro e1 w1 ⟨rfl, hi1, hb1, ho1⟩
          have h1 := H0.out.bytes (FolT.stable _ _ _ _ _ _ _ _ _) (FolT.nb _ _ _ _ _ _ _ _ _) HR.out hWs HB0.out hb1 ho1
          have H1 := Lib.hid (And.intro h1 hi1)
          clear h1 hi1 hb1 ho1
          (repeat' (first | (go_big_may; fail) | go_values | go_skip | go_guarded | go_step | go_upon | go_back | dsimp only))
          refine HK.out _ _ ?_
          have hJ := HJ.out
          go_meet
          case rel => exact ⟨H1.out.1, by rw [hf]; exact H1.out.2⟩
        | false =>
          rw [hf] at q0
          have HC := Lib.hid (WriteByte_k w.heap.size w.heap.size [] 0 (w.alloc (.cells #[.pointer none, .slice none 0 0] tB)) HB0.out (by simp) (by simp))
          (repeat' (first | (go_big_may; fail) | go_values | go_skip | go_guarded | go_step | go_upon | go_back | dsimp only))
          refine HC.out.mono ?_
          rintro e1 w1 ⟨rfl, hi1, hb1, ho1⟩
          have h1 := H0.out.bytes (FolT.stable _ _ _ _ _ _ _ _ _) (FolT.nb _ _ _ _ _ _ _ _ _) HR.out hWs HB0.out hb1 ho1
          have H1 := Lib.hid (And.intro h1 hi1)
          clear h1 hi1 hb1 ho1
          (repeat' (first | (go_big_may; fail) | go_values | go_skip | go_guarded | go_step | go_upon | go_back | dsimp only))
          refine HK.out _ _ ?_
          have hJ := HJ.out
          go_meet
          case rel => exact ⟨H1.out.1, by rw [hf]; exact H1.out.2⟩
      case rest =>
      obtain ⟨h1, hi1⟩ := hcut
      have ho1 := h1.folOpen
      obtain ⟨z0, _, _⟩ := ho1.cellF (o := 0) rfl
      have q1 := (h1.below.cell (World.block_lt_of_cell? _ _ D1.out)).trans D1.out
      have H1 := Lib.hid (And.intro h1 hi1)
      have hsz1 := h1.below.size
      clear h1 hi1 ho1 q0 g0 c0 c1 c3
      (repeat' (first | (go_big_may; fail) | go_values | go_skip | go_guarded | go_step | go_upon | go_back | dsimp only))
      go_loopw [44] (fun vj wr => ∃ (j : Nat) (vf2 : Value) (Ts2 : List Trie) (C2 F2 : List Nat), vj = .int .i64 j ∧ j ≤ x.edges.length ∧ FStep A Ts Ts2 C C2 F2 ∧ (∀ q e, q < j → x.edges[q]? = some e → ∃ d, C2[e.2.toNat]? = some (d + 1)) ∧
        w.heap.size < wr.heap.size ∧ At W wr (Both (FolT kf gc mb A.length (.slice (some ⟨b, off, none⟩) A.length cap) vf2 Ts2 C2 F2) (UnderT w.heap.size R)) ∧ Lib.IsBuilder tB tU8 w.heap.size w.heap.size (bvs ((if x.final = true then 1 else 0) :: pk C2 x.edges j)) wr) (fun vj _ => x.edges.length - (intOf vj).toNat)
      case atStart =>
        refine ⟨0, vf, Ts, C, F, rfl, Nat.zero_le _, ⟨HI.out, List.prefix_rfl, fun _ _ h => h⟩, fun q e h => absurd h (Nat.not_lt_zero _), ?_, H1.out.1, H1.out.2⟩
        rcases H1.out.2 with h | h
        · exact h.lt
        · exact h.lt
      case round =>
        obtain ⟨j, vf2, Ts2, C2, F2, rfl, hj, hst, hdone, hwlt, h2, hi2⟩ := hrel
        have hinv := hst.inv
        by_cases hlj : j < x.edges.length
        · obtain ⟨e, he⟩ : ∃ e, x.edges[j]? = some e := ⟨_, List.getElem?_eq_getElem hlj⟩
          obtain ⟨ct, he0, hct, hht⟩ := HU.out.mem e (List.mem_of_getElem? he)
          obtain ⟨m, hm⟩ := Int.eq_ofNat_of_zero_le he0
          rw [hm, Int.toNat_natCast] at hct
          have hjI : (j : Int) < (x.edges.length : Int) := by omega
          obtain ⟨be, oe, ce, hse, e0, e1⟩ := RdEds.at (HE.out.below h2.below) he
          cases hse
          rw [hm] at e1
          have hstF := (FolT.stable kf gc mb A.length (.slice (some ⟨b, off, none⟩) A.length cap) vf2 Ts2 C2 F2).both (UnderT.stable (b := w.heap.size) HR.out)
          have hal : Below wr.heap.size wr (wr.alloc (.cells #[bv e.1, .int .i64 m] tAE)) := (Below.refl _ _).alloc (Nat.le_refl _) _
          have h3 := h2.alloc hstF (.cells #[bv e.1, .int .i64 m] tAE)
          have hi3 := IsBuilder_below hi2 hal
          have hpl := pk_len (C := C2) (es := x.edges) (fun e he => by
            obtain ⟨q, hq, rfl⟩ := List.getElem_of_mem he
            exact pk_bound hinv hl _) j
          have hpl2 : (pk C2 x.edges j).length ≤ 11 * 1048576 := Nat.le_trans hpl (Nat.mul_le_mul_left 11 (by omega))
          have HC1 := Lib.hid (WriteByte_k w.heap.size w.heap.size _ e.1 _ hi3 (by rw [bvs_length, List.length_cons]; omega) (by simp; omega))
          have HED := Lib.hid (And.intro he hm)
          have HCT := Lib.hid hct
          have HDONE := Lib.hid hdone
          have HST := Lib.hid hst
          have H3 := Lib.hid (And.intro h3 hi3)
          have hht2 : htT ct < k := by omega
          clear h2 h3 hi2 hi3 hct hdone hst he hm he0 hal hstF hinv hht
          (repeat' (first | (go_big_may; fail) | go_values | go_skip | go_guarded | go_step | go_upon | go_back | dsimp only))
          refine HC1.out.mono ?_
          rintro e5 w5 ⟨rfl, hi5, hb5, ho5⟩
          have h5 := H3.out.1.bytes (FolT.stable _ _ _ _ _ _ _ _ _) (FolT.nb _ _ _ _ _ _ _ _ _) HR.out hWs H3.out.2 hb5 ho5
          have x1 : w5.cell? ⟨wr.heap.size, 1, none⟩ = some (.int .i64 m) := by
            have h9 := ho5 wr.heap.size _ (heap_alloc_new wr (.cells #[bv e.1, .int .i64 m] tAE)) (by intro e; simp at e; omega) (by intro c fz e; injection e with _ e; exact absurd e (by decide))
            simp [World.cell?, h9]
          have hws5 : w.heap.size ≤ w5.heap.size := by
            rcases hi5 with h | h
            · exact Nat.le_of_lt h.lt
            · exact Nat.le_of_lt h.lt
          have h6 := h5.withBu (FolT.nb _ _ _ _ _ _ _ _ _) hWs hi5
          have hcall := IH.out w5 m ct vf2 Ts2 C2 F2 _ h6 ((BuT.stable _ _ _).both (UnderT.stable HR.out)) HST.out.inv HCT.out hht2
          have HCALL := Lib.hid hcall
          clear h5 h6 hi5 hb5 ho5 hcall e0 e1
          (repeat' (first | (go_big_may; fail) | go_values | go_skip | go_guarded | go_step | go_upon | go_back | dsimp only))
          refine HCALL.out.mono ?_
          rintro e7 w7 ⟨vf7, Ts7, C7, F7, c7, rfl, hst7, hc7, h7⟩
          have hi7 := h7.swap.isBu
          have h8 := h7.swap.drop
          have hval := hst7.inv.val hc7 HCT.out
          have hcle : c7 + 1 ≤ 1048576 := by
            have h1 := clsT_le hval.1
            have h2 := hst7.inv.le
            rw [hval.2] at h1
            omega
          have hc64 : c7 + 1 < 18446744073709551616 := by omega
          have hwrap : IntKind.u64.wrap (((c7 + 1 : Nat) : Int)) = (((c7 + 1 : Nat) : Int)) := by rw [IntKind.wrap_u64]; omega
          have hwrap2 : IntKind.u64.wrap ((c7 : Int) + 1) = (((c7 + 1 : Nat) : Int)) := by rw [IntKind.wrap_u64]; omega
          have hws7 : w.heap.size < w7.heap.size := by
            rcases hi7 with h | h
            · exact h.lt
            · exact h.lt
          have hkeepq : ∀ q e', q < j → x.edges[q]? = some e' → C7.getD e'.2.toNat 0 = C2.getD e'.2.toNat 0 := fun q e' hq he' => by
            obtain ⟨d, hd⟩ := HDONE.out q e' hq he'
            rw [List.getD_eq_getElem?_getD, List.getD_eq_getElem?_getD, hd, hst7.keep _ _ hd]
          have hpk : pk C7 x.edges (j + 1) = pk C2 x.edges j ++ [e.1] ++ uintL (c7 + 1) := by
            rw [pk_succ HED.out.1, pk_keep hkeepq, HED.out.2, Int.toNat_natCast, List.getD_eq_getElem?_getD, hc7]; rfl
          have HPK := Lib.hid hpk
          have HI7 := Lib.hid hi7
          have H8 := Lib.hid h8
          have HST7 := Lib.hid (HST.out.trans hst7)
          have HDN7 := Lib.hid (show ∀ q e', q < j + 1 → x.edges[q]? = some e' → ∃ d, C7[e'.2.toNat]? = some (d + 1) from fun q e' hq he' => by
            by_cases hqj : q = j
            · subst hqj
              rw [HED.out.1] at he'
              cases he'
              exact ⟨c7, by rw [HED.out.2, Int.toNat_natCast]; exact hc7⟩
            · obtain ⟨d, hd⟩ := HDONE.out q e' (by omega) he'
              exact ⟨d, hst7.keep _ _ hd⟩)
          have HUI := Lib.hid (Uint_calls (c7 + 1) hc64 w7)
          have hul := uintL_length10 hc64
          clear h7 h8 hi7 hst7 hval hc7 hkeepq hpk x1 HCALL
          (repeat' (first | (go_big_may; fail) | go_values | go_skip | go_guarded | go_step | go_upon | go_back | dsimp only))
          refine HUI.out.mono ?_
          rintro e9 w9 ⟨rfl, hb9⟩
          have hi9 := IsBuilder_below HI7.out hb9
          have h9 := H8.out.mono ((FolT.stable _ _ _ _ _ _ _ _ _).both (UnderT.stable HR.out)) hb9
          have hsz9 := hb9.size
          have HWS := Lib.hid (WriteString_k w.heap.size w.heap.size _ ⟨(uintL (c7 + 1)).toArray⟩ w9 hi9 (by rw [List.length_append, bvs_length, List.length_cons]; simp [ByteArray.size]; omega) (by omega))
          have H9 := Lib.hid (And.intro h9 hi9)
          clear hi9 h9 hb9
          (repeat' (first | (go_big_may; fail) | go_values | go_skip | go_guarded | go_step | go_upon | go_back | dsimp only))
          refine HWS.out.mono ?_
          rintro e10 w10 ⟨rfl, hi10, hb10, ho10⟩
          have h10 := H9.out.1.bytes (FolT.stable _ _ _ _ _ _ _ _ _) (FolT.nb _ _ _ _ _ _ _ _ _) HR.out hWs H9.out.2 hb10 ho10
          have hi11 : Lib.IsBuilder tB tU8 w.heap.size w.heap.size (bvs ((if x.final = true then 1 else 0) :: pk C7 x.edges (j + 1))) w10 := by
            rw [HPK.out]
            have e1 : bvs ((if x.final = true then 1 else 0) :: (pk C2 x.edges j ++ [e.1] ++ uintL (c7 + 1))) = bvs ((if x.final = true then 1 else 0) :: pk C2 x.edges j) ++ [bv e.1] ++ Lib.strCells ⟨(uintL (c7 + 1)).toArray⟩ := by
              rw [strCells_mk]
              simp [Lib.byteCells]
            rw [e1]
            exact hi10
          have hws10 : w.heap.size < w10.heap.size := by
            rcases hi11 with h | h
            · exact h.lt
            · exact h.lt
          have H10 := Lib.hid (And.intro h10 hi11)
          clear h10 hi11 hi10 hb10 ho10 HWS
          (repeat' (first | (go_big_may; fail) | go_values | go_skip | go_guarded | go_step | go_upon | go_back | dsimp only))
          go_roundw
          case rel => exact ⟨j + 1, vf7, Ts7, C7, F7, by simp, by omega, HST7.out, HDN7.out, hws10, H10.out.1, H10.out.2⟩
          case measure => simp [intOf] <;> omega
        · obtain rfl : j = x.edges.length := by omega
          have hu2 : Unf A n t := ⟨x, HX.out, HU.out⟩
          have hall : ∀ e ∈ x.edges, ∃ d, C2[e.2.toNat]? = some (d + 1) := fun e he => by
            obtain ⟨q, hq, rfl⟩ := List.getElem_of_mem he
            exact hdone q _ hq (List.getElem?_eq_getElem hq)
          have hkids : ∀ c ∈ kids t, c ∈ Ts2 := fun c hc => by
            obtain ⟨e, he, hue⟩ := (kids_mem HU.out c).1 hc
            obtain ⟨d, hd⟩ := hall e he
            exact (hinv.val hd hue).1
          have hpk : pk C2 x.edges x.edges.length = sgE (clsT Ts2) t := by
            unfold pk
            rw [List.take_length]
            refine pk_sgE HU.out fun e he c hc => ?_
            obtain ⟨d, hd⟩ := hall e he
            rw [List.getD_eq_getElem?_getD, hd, (hinv.val hd hc).2]; rfl
          have hkey : (if x.final = true then 1 else 0) :: pk C2 x.edges x.edges.length = keyT Ts2 t := by
            unfold keyT
            rw [hpk, HFIN.out]
          rw [hkey] at hi2
          have hTl := hinv.le
          have hT64 : Ts2.length < 18446744073709551616 := by omega
          have hklen : (keyT Ts2 t).length ≤ maxLen := by
            rw [← hkey, List.length_cons]
            have h1 := pk_len (C := C2) (es := x.edges) (fun e he => by
              obtain ⟨q, hq, rfl⟩ := List.getElem_of_mem he
              exact pk_bound hinv hl _) x.edges.length
            have h2 : 11 * min x.edges.length x.edges.length ≤ 11 * 1048576 := Nat.mul_le_mul_left 11 (by omega)
            unfold maxLen
            omega
          have HINV := Lib.hid hinv
          have HST := Lib.hid hst
          have HALL := Lib.hid hall
          have HKIDS := Lib.hid hkids
          have HU2 := Lib.hid hu2
          have HKL := Lib.hid hklen
          have H2 := Lib.hid (And.intro h2 hi2)
          clear h2 hi2 hinv hst hall hkids hu2 hpk hkey hklen hdone
          (repeat' (first | (go_big_may; fail) | go_values | go_skip | go_guarded | go_step | go_upon | go_back | dsimp only))
          go_cut [8, 9] (fun v8 v9 wx => (if t ∈ Ts2 then v8 = .int .i64 (clsT Ts2 t : Nat) ∧ v9 = .bool true else v9 = .bool false) ∧ At W wx (Both (FolT kf gc mb A.length (.slice (some ⟨b, off, none⟩) A.length cap) vf2 Ts2 C2 F2) (UnderT w.heap.size R)) ∧ Lib.IsBuilderF tB tU8 w.heap.size w.heap.size (bvs (keyT Ts2 t)) wx)
          case first =>
            refine wp_norm ?_
            rename_i J K' hJ hK
            have HJ := Lib.hid hJ
            have HK := Lib.hid hK
            clear hJ hK
            have hid : Lib.IsBuilderF tB tU8 w.heap.size w.heap.size (bvs (keyT Ts2 t)) wr.drew := .of (show Lib.IsBuilder tB tU8 w.heap.size w.heap.size (bvs (keyT Ts2 t)) wr.drew from H2.out.2)
            have HSTR := Lib.hid (Any.Builder_String_any_k lays169 extra169 w.heap.size w.heap.size (keyT Ts2 t) wr.drew hid (Nat.le_of_lt hwlt))
            have ho2 := H2.out.1.folOpen
            obtain ⟨z2, _, _⟩ := ho2.cellF (o := 2) rfl
            obtain ⟨kl, hkl⟩ := keyOf_str (keyT Ts2 t) HKL.out
            have HKO := Lib.hid hkl
            clear ho2 hkl
            by_cases hmem : t ∈ Ts2
            · have STEP := Lib.hid (fun w5 (hb5 : Below w.heap.size wr.drew w5) (ho5 : Lib.OthersKept tU8 (some w.heap.size) wr.drew w5) => show At W w5 (Both (FolT kf gc mb A.length (.slice (some ⟨b, off, none⟩) A.length cap) vf2 Ts2 C2 F2) (UnderT w.heap.size R)) from (H2.out.1.drew ((FolT.stable _ _ _ _ _ _ _ _ _).both (UnderT.stable HR.out))).bytesF (FolT.stable _ _ _ _ _ _ _ _ _) (FolT.nb _ _ _ _ _ _ _ _ _) HR.out hWs hid hb5 ho5)
              have HMEM := Lib.hid hmem
              clear hid hmem
              go_region_law (refine step_call_fn rfl 65 _ _ rfl enters_string [ptrN w.heap.size] rfl ?_; refine HSTR.out.mono ?_; rintro e5 w5 ⟨rfl, hi5, hb5, ho5⟩; dsimp only; have h5 := STEP.out w5 hb5 ho5; obtain ⟨z5, _, _⟩ := h5.folOpen.cellF (o := 2) rfl; have hlook := h5.folOpen.drop.drop.mapHit (t := tMSI) (e := tInt) true str_key Try.underlying89 HKO.out (knT_hit HMEM.out); rw [if_pos rfl] at hlook; have H5 := Lib.hid (And.intro h5 hi5); clear h5 hi5 hb5 ho5)
              all_goals
                refine HK.out _ _ ?_
                have hJ := HJ.out
                go_meet
                case rel => exact ⟨by rw [if_pos HMEM.out]; exact ⟨rfl, rfl⟩, H5.out.1, H5.out.2⟩
            · have HNM := Lib.hid hmem
              have STEP := Lib.hid (fun w5 (hb5 : Below w.heap.size wr.drew w5) (ho5 : Lib.OthersKept tU8 (some w.heap.size) wr.drew w5) => show At W w5 (Both (FolT kf gc mb A.length (.slice (some ⟨b, off, none⟩) A.length cap) vf2 Ts2 C2 F2) (UnderT w.heap.size R)) from (H2.out.1.drew ((FolT.stable _ _ _ _ _ _ _ _ _).both (UnderT.stable HR.out))).bytesF (FolT.stable _ _ _ _ _ _ _ _ _) (FolT.nb _ _ _ _ _ _ _ _ _) HR.out hWs hid hb5 ho5)
              have HMISS := Lib.hid (knT_miss hT64 HINV.out.closed HKIDS.out hmem)
              clear hid hmem
              go_region_law (refine step_call_fn rfl 65 _ _ rfl enters_string [ptrN w.heap.size] rfl ?_; refine HSTR.out.mono ?_; rintro e5 w5 ⟨rfl, hi5, hb5, ho5⟩; dsimp only; have h5 := STEP.out w5 hb5 ho5; obtain ⟨z5, _, _⟩ := h5.folOpen.cellF (o := 2) rfl; have hlook := h5.folOpen.drop.drop.mapMiss (t := tMSI) (e := tInt) true str_key Try.underlying89 (zero_int _) HKO.out HMISS.out; rw [if_pos rfl] at hlook; have H5 := Lib.hid (And.intro h5 hi5); clear h5 hi5 hb5 ho5)
              all_goals
                refine HK.out _ _ ?_
                have hJ := HJ.out
                go_meet
                case rel => exact ⟨by rw [if_neg HNM.out], H5.out.1, H5.out.2⟩
          case rest =>
            obtain ⟨hv89, h3, hi3⟩ := hcut
            by_cases hmem : t ∈ Ts2
            · rw [if_pos hmem] at hv89
              obtain ⟨rfl, rfl⟩ := hv89
              obtain ⟨h4, h5⟩ := HINV.out.set HX.out HU2.out hmem HALL.out
              have ho3 := h3.folOpen
              obtain ⟨z1, _, _⟩ := ho3.cellF (o := 1) rfl
              obtain ⟨vn, hvn⟩ : ∃ vn, C2[n]? = some vn := ⟨_, List.getElem?_eq_getElem (by rw [HINV.out.clen]; exact hn)⟩
              obtain ⟨r1, r2, r3⟩ := ho3.drop.rowCell (nats_get hvn)
              have h6 := (ho3.swap.storeG ((CellT.stable _ _ _).both ((MapT.stable _ _ _ _).both ((RowG.stable _ _ _ _ _).both (UnderT.stable HR.out)))) n (.int .i64 (clsT Ts2 t : Nat))).swap
              rw [nats_set] at h6
              have h7 := h6.folShut.unUnder
              have hcv : (C2.set n (clsT Ts2 t))[n]? = some (ixT Ts2 t + 1) := by rw [List.getElem?_set_self (by rw [HINV.out.clen]; exact hn)]; rfl
              have H7 := Lib.hid (And.intro h7 (And.intro h4 (And.intro h5 hcv)))
              clear ho3 h6 h7 h3 hi3 h4 h5 hcv hvn hmem
              (repeat' (first | (go_big_may; fail) | go_values | go_skip | go_guarded | go_step | go_upon | go_back | dsimp only))
              go_ret
              exact ⟨vf2, Ts2, _, F2, ixT Ts2 t, rfl, HST.out.trans ⟨H7.out.2.1, List.prefix_rfl, H7.out.2.2.1⟩, H7.out.2.2.2, H7.out.1⟩
            · rw [if_neg hmem] at hv89
              obtain rfl := hv89
              have hst3 : Stable (Both (BuFT w.heap.size w.heap.size (bvs (keyT Ts2 t))) (UnderT w.heap.size R)) := (BuFT.stable _ _ _).both (UnderT.stable HR.out)
              have ho3 := (h3.withBuF (FolT.nb _ _ _ _ _ _ _ _ _) hWs hi3).folOpen
              obtain ⟨p1, _, _⟩ := ho3.cellF (o := 3) rfl
              have HO3 := Lib.hid ho3.pull4
              have HST3 := Lib.hid ((CellT.stable kf #[.slice (some ⟨b, off, none⟩) A.length cap, .slice (some ⟨gc, 0, none⟩) A.length A.length, .map (some mb), vf2] tFo).both ((RowG.stable tInt 1 (.slice (some ⟨gc, 0, none⟩) A.length A.length) A.length (nats C2)).both ((MapT.stable Try.prog tStr mb (knT Ts2)).both hst3)))
              have HBS := Lib.hid hst3
              have HNM := Lib.hid hmem
              have HFL := Lib.hid HINV.out.flen
              have hFl : F2.length ≤ 1048576 := by rw [HFL.out]; omega
              clear ho3 h3 hi3 hst3 hmem
              (repeat' (first | (go_big_may; ((at_builtin; go_must (refine wpList_append_to rfl _ _ 85 tInt rfl Try.underlying85 info_Int rfl (by decide) rfl (HO3.out) (HST3.out) rfl (by first | rfl | simp) rfl (one_int _ _) (by unfold maxLen; omega) (by omega) ?_); intro a4 c4 w4 h4 _); have H4 := Lib.hid h4; obtain ⟨s1, s2, s3⟩ := h4.drop.cellF (o := 3) rfl; clear h4)) | go_values | go_skip | go_guarded | go_step | go_upon | go_back | dsimp only))
              have h6 : At W (w4.setCell ⟨kf, 3, none⟩ (.slice a4 (F2.length + 1) c4)) (Both (FolT kf gc mb A.length (.slice (some ⟨b, off, none⟩) A.length cap) (.slice a4 (F2.length + 1) c4) Ts2 C2 (F2 ++ [n])) (Both (BuFT w.heap.size w.heap.size (bvs (keyT Ts2 t))) (UnderT w.heap.size R))) := by
                refine At.folShut ?_
                have e1 : nats (F2 ++ [n]) = nats F2 ++ (#[Value.int .i64 (n : Nat)] : Array Value).toList := by simp [nats]
                rw [e1, List.length_append]
                exact (H4.out.swap.setCell ((RowG.stable _ _ _ _ _).both ((RowG.stable _ _ _ _ _).both ((MapT.stable _ _ _ _).both HBS.out))) 3 (.slice a4 (F2.length + 1) c4)).swap.pull4.pull4.pull4
              obtain ⟨vf3, hvf3⟩ : ∃ v, v = Value.slice a4 (F2.length + 1) c4 := ⟨_, rfl⟩
              rw [← hvf3] at h6 ⊢
              generalize w4.setCell ⟨kf, 3, none⟩ vf3 = wX at h6 ⊢
              have hiX := h6.swap.isBuF
              have h7 := h6.swap.drop
              have HX7 := Lib.hid (And.intro h7 hiX)
              clear h6 h7 hiX s1 s2 s3 p1 hvf3
              go_cut [8] (fun v8 wx => v8 = .int .i64 (Ts2.length + 1 : Nat) ∧ At W wx (Both (FolT kf gc mb A.length (.slice (some ⟨b, off, none⟩) A.length cap) vf3 (Ts2 ++ [t]) C2 (F2 ++ [n])) (UnderT w.heap.size R)))
              case first =>
                refine wp_norm ?_
                rename_i J K' hJ hK
                have HJ := Lib.hid hJ
                have HK := Lib.hid hK
                clear hJ hK
                have hid : Lib.IsBuilderF tB tU8 w.heap.size w.heap.size (bvs (keyT Ts2 t)) wX.drew := HX7.out.2
                have hwX : w.heap.size ≤ wX.heap.size := by
                  rcases HX7.out.2 with h | h
                  · exact Nat.le_of_lt h.lt
                  · exact Nat.le_of_lt h.lt
                have HSTR := Lib.hid (Any.Builder_String_any_k lays169 extra169 w.heap.size w.heap.size (keyT Ts2 t) wX.drew hid hwX)
                obtain ⟨z2, _, _⟩ := HX7.out.1.folOpen.cellF (o := 2) rfl
                obtain ⟨kl, hkl⟩ := keyOf_str (keyT Ts2 t) HKL.out
                have HKO := Lib.hid hkl
                have STEP := Lib.hid (fun w5 (hb5 : Below w.heap.size wX.drew w5) (ho5 : Lib.OthersKept tU8 (some w.heap.size) wX.drew w5) => show At W w5 (Both (FolT kf gc mb A.length (.slice (some ⟨b, off, none⟩) A.length cap) vf3 Ts2 C2 (F2 ++ [n])) (UnderT w.heap.size R)) from (HX7.out.1.drew ((FolT.stable _ _ _ _ _ _ _ _ _).both (UnderT.stable HR.out))).bytesF (FolT.stable _ _ _ _ _ _ _ _ _) (FolT.nb _ _ _ _ _ _ _ _ _) HR.out hWs hid hb5 ho5)
                have HMISS := Lib.hid (knT_miss hT64 HINV.out.closed HKIDS.out HNM.out)
                have HPST := Lib.hid ((CellT.stable kf #[.slice (some ⟨b, off, none⟩) A.length cap, .slice (some ⟨gc, 0, none⟩) A.length A.length, .map (some mb), vf3] tFo).both ((RowG.stable tInt 1 (.slice (some ⟨gc, 0, none⟩) A.length A.length) A.length (nats C2)).both ((RowG.stable tInt 1 vf3 (F2 ++ [n]).length (nats (F2 ++ [n]))).both (UnderT.stable (b := w.heap.size) HR.out))))
                have HKN := Lib.hid (knT_new HINV.out.closed HKIDS.out HNM.out)
                have hlenF : ((F2.length : Int) + 1) = ((Ts2.length + 1 : Nat) : Int) := by rw [HFL.out]; omega
                have HLF := Lib.hid hlenF
                clear hid hkl hlenF
                go_region_law (refine step_call_fn rfl 65 _ _ rfl enters_string [ptrN w.heap.size] rfl ?_; refine HSTR.out.mono ?_; rintro e5 w5 ⟨rfl, hi5, hb5, ho5⟩; dsimp only; have h5 := STEP.out w5 hb5 ho5; obtain ⟨z5, _, _⟩ := h5.folOpen.cellF (o := 2) rfl; obtain ⟨w6, hput, h6⟩ := h5.folOpen.pull3.mapPut HPST.out (t := tMSI) (e := tInt) str_key Try.underlying89 (val := .int .i64 ((F2.length : Int) + 1)) HKO.out HMISS.out; have H6 := Lib.hid h6; clear h6 h5 hi5 hb5 ho5)
                all_goals
                  refine HK.out _ _ ?_
                  have hJ := HJ.out
                  go_meet
                  case rel =>
                    refine ⟨by rw [HLF.out], At.folShut ?_⟩
                    rw [HKN.out, ← HLF.out]
                    exact H6.out.push3
              case rest =>
                obtain ⟨rfl, h8⟩ := hcut
                have hinv2 := HINV.out.new HU2.out HKIDS.out HNM.out
                have hcls : clsT (Ts2 ++ [t]) t = Ts2.length + 1 := clsT_get hinv2.nodup (by simp)
                obtain ⟨h4, h5⟩ := hinv2.set HX.out HU2.out (by simp) HALL.out
                rw [hcls] at h4 h5
                have ho3 := h8.folOpen
                obtain ⟨z1, _, _⟩ := ho3.cellF (o := 1) rfl
                obtain ⟨vn, hvn⟩ : ∃ vn, C2[n]? = some vn := ⟨_, List.getElem?_eq_getElem (by rw [HINV.out.clen]; exact hn)⟩
                obtain ⟨r1, r2, r3⟩ := ho3.drop.rowCell (nats_get hvn)
                have h6 := (ho3.swap.storeG ((CellT.stable _ _ _).both ((MapT.stable _ _ _ _).both ((RowG.stable _ _ _ _ _).both (UnderT.stable HR.out)))) n (.int .i64 (Ts2.length + 1 : Nat))).swap
                rw [nats_set] at h6
                have h7 := h6.folShut.unUnder
                have hcv : (C2.set n (Ts2.length + 1))[n]? = some (Ts2.length + 1) := List.getElem?_set_self (by rw [HINV.out.clen]; exact hn)
                have H7 := Lib.hid (And.intro h7 (And.intro h4 (And.intro h5 hcv)))
                clear ho3 h6 h7 h8 h4 h5 hcv hvn hcls hinv2
                (repeat' (first | (go_big_may; fail) | go_values | go_skip | go_guarded | go_step | go_upon | go_back | dsimp only))
                go_ret
                exact ⟨vf3, Ts2 ++ [t], _, F2 ++ [n], Ts2.length, rfl, HST.out.trans ⟨H7.out.2.1, List.prefix_append _ _, H7.out.2.2.1⟩, H7.out.2.2.2, H7.out.1⟩
end Go.Proofs.Ytcbdncjknpdnbaa
