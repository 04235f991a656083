/- walk's lay walked: the classes numbered in the order of being met. -/
import Derived.Test.YtcbdncjknpdnbaaMinPl
import Derived.Test.YtcbdncjknpdnbaaMinFold
import Derived.Test.YtcbdncjknpdnbaaDawgVis
namespace Go.Proofs.Ytcbdncjknpdnbaa
open Go.RowKit
open Go.Maps (Keyed)

theorem ixT_new : ∀ {l : List Trie} {t : Trie}, t ∉ l → ixT (l ++ [t]) t = l.length
  | [], t, _ => by simp [ixT]
  | a :: l, t, h => by
    simp only [List.cons_append, ixT, List.length_cons]
    rw [if_neg (fun e => h (by simp [e])), ixT_new fun hm => h (by simp [hm])]
/-- The places of the classes. -/
def plT (Ts T : List Trie) : List (Value × Value) := T.map fun s => (.int .i64 (clsT Ts s : Nat), .int .i64 (ixT T s : Nat))
theorem plT_new {Ts T : List Trie} {t : Trie} (h : t ∉ T) : plT Ts (T ++ [t]) = plT Ts T ++ [(.int .i64 (clsT Ts t : Nat), .int .i64 (T.length : Nat))] := by
  unfold plT
  rw [List.map_append]
  congr 1
  · exact List.map_congr_left fun s hs => by rw [ixT_ext hs]
  · simp only [List.map_cons, List.map_nil]
    rw [ixT_new h]
theorem plT_hit {Ts T : List Trie} {t : Trie} (h : t ∈ T) : (Value.int .i64 (clsT Ts t : Nat), Value.int .i64 (ixT T t : Nat)) ∈ plT Ts T := List.mem_map.2 ⟨t, h, rfl⟩
theorem plT_miss {Ts T : List Trie} {t : Trie} (hs : ∀ s ∈ T, s ∈ Ts) (ht : t ∈ Ts) (h : t ∉ T) : ∀ p ∈ plT Ts T, p.1 ≠ Value.int .i64 (clsT Ts t : Nat) := by
  intro p hp e
  obtain ⟨s, hs2, rfl⟩ := List.mem_map.1 hp
  have e2 : clsT Ts s = clsT Ts t := by
    have e3 : ((clsT Ts s : Nat) : Int) = ((clsT Ts t : Nat) : Int) := by simpa using e
    exact Int.ofNat_inj.1 e3
  exact h (clsT_inj (hs s hs2) ht e2 ▸ hs2)
/-- What lay keeps. -/
abbrev LayT (kf gc mb N pb : Nat) (va vf : Value) (Ts : List Trie) (C F : List Nat) (ov : Value) (xs : List (Sta × Value)) (T : List Trie) (R : Thing) : Thing :=
  Both (FolT kf gc mb N va vf Ts C F) (Both (MapT Try.prog tInt pb (plT Ts T)) (Both (RowG tAS 2 ov xs.length (xs.flatMap stc)) (Both (EdsG tAE xs) R)))
theorem LayT.stable {kf gc mb N pb : Nat} {va vf : Value} {Ts : List Trie} {C F : List Nat} {ov : Value} {xs : List (Sta × Value)} {T : List Trie} {R : Thing} (h : Stable R) : Stable (LayT kf gc mb N pb va vf Ts C F ov xs T R) :=
  (FolT.stable _ _ _ _ _ _ _ _ _).both ((MapT.stable _ _ _ _).both ((RowG.stable _ _ _ _ _).both ((AllRows.stable _ _ _ _ _ _).both h)))

theorem layE_in {Ts : List Trie} (hc : ClosedT Ts) : ∀ (t : Trie) (T : List Trie), (∀ c ∈ kids t, c ∈ Ts) → (∀ s ∈ T, s ∈ Ts) → ∀ s ∈ (layE t T).1, s ∈ Ts
  | .fin _, T, _, h => by simpa [layE] using h
  | .edge b c r, T, hk, h => by
    have h1 : c ∈ Ts := hk c (by simp [kids])
    by_cases hm : c ∈ T
    · rw [layE_old hm]
      exact layE_in hc r T (fun d hd => hk d (by simp [kids, hd])) h
    · rw [layE_new hm]
      refine layE_in hc r _ (fun d hd => hk d (by simp [kids, hd])) (layE_in hc c _ (hc c h1) fun s hs => ?_)
      rcases List.mem_append.1 hs with hs | hs
      · exact h s hs
      · rw [List.mem_singleton] at hs; subst hs; exact h1
theorem layE_ix {c : Trie} {T : List Trie} (h : c ∉ T) : c ∈ (layE c (T ++ [c])).1 ∧ ixT (layE c (T ++ [c])).1 c = T.length ∧ (layE c (T ++ [c])).1.length = T.length + 1 + (layE c (T ++ [c])).2.1.length := by
  obtain ⟨Us, q⟩ := layE_spec c (T ++ [c])
  refine ⟨by rw [q.eq]; simp, ?_, by rw [q.eq, q.len]; simp; omega⟩
  rw [q.eq, ixT_ext (by simp), ixT_new h]
theorem Both.in4 {A a b c d T : Thing} {w : World} {fp : List Nat} (h : Both A (Both a (Both b (Both c (Both d T)))) w fp) : Both a (Both b (Both c (Both d (Both A T)))) w fp :=
  Both.mono (fun _ _ q => Both.mono (fun _ _ q => Both.mono (fun _ _ q => q.assoc) q.assoc) q.assoc) h.assoc
theorem Both.out4 {A a b c d T : Thing} {w : World} {fp : List Nat} (h : Both a (Both b (Both c (Both d (Both A T)))) w fp) : Both A (Both a (Both b (Both c (Both d T)))) w fp :=
  Both.assoc (Both.mono (fun _ _ q => Both.assoc (Both.mono (fun _ _ q => Both.assoc (Both.mono (fun _ _ q => q.assoc) q)) q)) h)

set_option maxRecDepth 100000 in
set_option maxHeartbeats 6400000 in
theorem lay_at {W : World} {A : List Sta} {va : Value} (hA : RdAut W va A) (hl : A.length ≤ 1048576 ∧ edgesN A ≤ 1048576) {Ts : List Trie} {C F : List Nat} (hi : FI A Ts C F) (hC : ∀ i, i < A.length → ∃ d, C[i]? = some (d + 1)) (kf gc mb pb : Nat) (vf : Value) (k : Nat) : ∀ (w : World) (t : Trie) (T : List Trie) (xs : List (Sta × Value)) (ov : Value) (R : Thing),
    At W w (LayT kf gc mb A.length pb va vf Ts C F ov xs T R) → Stable R → (∀ s ∈ T, s ∈ Ts) → T.Nodup → t ∈ Ts → t ∉ T → htT t < k → xs.length = T.length →
    Calls Try.prog 42 #[ptrN kf, .int .i64 (clsT Ts t : Nat), .map (some pb), ov] w fun e w' => ∃ ov' ys, e = .returned ov' ∧ ys.map Prod.fst = (⟨t.final, (layE t (T ++ [t])).2.2⟩ : Sta) :: (layE t (T ++ [t])).2.1 ∧ At W w' (LayT kf gc mb A.length pb va vf Ts C F ov' (xs ++ ys) (layE t (T ++ [t])).1 R) := by
  induction k with
  | zero => intro w t T xs ov R _ _ _ _ _ _ h; omega
  | succ k ih =>
    intro w t T xs ov R h hR hT hTn ht htn hk hxl
    obtain ⟨n, hF, hu⟩ := hi.fst _ t (ixT_get ht)
    have hn := hu.lt
    obtain ⟨x, hx, hux⟩ := hu
    obtain ⟨b, off, cap, u, hsv, d0, d1, hue⟩ := hA.at hx
    obtain ⟨ua, uc, rfl, _, huc⟩ := hue.shape
    unfold maxLen at huc
    subst hsv
    have hel := edgesN_le hx
    have hTl : T.length ≤ 1048576 := by
      have h1 := trees_le (A := A) hTn fun s hs => by
        obtain ⟨q, hq⟩ := List.getElem?_of_mem (hT s hs)
        obtain ⟨m, _, hm⟩ := hi.fst q s hq
        exact ⟨m, hm⟩
      omega
    have hixl : ixT Ts t < F.length := (List.getElem?_eq_some_iff.1 hF).1
    have hFl : F.length ≤ 1048576 := by have := hi.le; have := hi.flen; omega
    obtain ⟨oa, oc, hov, _, _⟩ := own_shape h.drop.drop.rowG
    subst hov
    have D0 := Lib.hid d0
    have D1 := Lib.hid d1
    have H := Lib.hid h
    have HR := Lib.hid hR
    have HI := Lib.hid hi
    have HU := Lib.hid hux
    have HX := Lib.hid hx
    have HF := Lib.hid hF
    have IH := Lib.hid ih
    have HE := Lib.hid (show RdEds W (.slice ua x.edges.length uc) x.edges from hue)
    have HMISS := Lib.hid (plT_miss hT ht htn)
    have HTN := Lib.hid htn
    have hkey := keyOf_nat (n := clsT Ts t) (by unfold clsT; have := hi.flen; omega)
    have HKEY := Lib.hid hkey
    have HPST := Lib.hid ((FolT.stable kf gc mb A.length (.slice (some ⟨b, off, none⟩) A.length cap) vf Ts C F).both ((RowG.stable tAS 2 (.slice oa xs.length oc) xs.length (xs.flatMap stc)).both ((AllRows.stable tAE 2 (fun x : Sta × Value => x.2) (fun x => x.1.edges.flatMap edc) (fun x => x.1.edges.length) xs).both hR)))
    have HXL := Lib.hid hxl
    have hxl2 : xs.length ≤ 1048576 := by omega
    clear h hR hi hux hx ih hue d0 d1 hA hF hkey hxl htn
    go_enter Try.func42, Try.ntmps42
    (repeat' (first | (go_big_may; (at_mapUpdate; refine wpList_map_put rfl _ _ _ tMI rfl int_key Try.underlying99 rfl H.out.swap HPST.out rfl rfl HKEY.out HMISS.out ?_; intro w3 h3; have H3 := Lib.hid h3; clear h3)) | go_values | go_skip | go_guarded | go_step | go_upon | go_back | dsimp only))
    have h3 := H3.out
    have h4 : At W w3 (LayT kf gc mb A.length pb (.slice (some ⟨b, off, none⟩) A.length cap) vf Ts C F (.slice oa xs.length oc) xs (T ++ [t]) R) := by
      unfold LayT
      rw [plT_new HTN.out, ← HXL.out]
      exact h3.swap
    clear h3
    have ho := h4.folOpen
    obtain ⟨c0, _, hkl⟩ := ho.cellF (o := 0) rfl
    obtain ⟨c3, _, _⟩ := ho.cellF (o := 3) rfl
    obtain ⟨fa, fc, hvf, hfr, hfl⟩ : ∃ g c, vf = .slice (some ⟨g, 0, none⟩) F.length c ∧ w3.cell? ⟨g, ixT Ts t, none⟩ = some (.int .i64 (n : Nat)) ∧ g < w3.heap.size := by
      obtain ⟨g, c, hv, _⟩ := own_cut ho.pull4.rowG (by omega)
      subst hv
      exact ⟨g, c, rfl, (ho.pull4.rowCell (nats_get HF.out)).1, (ho.pull4.rowCell (nats_get HF.out)).2.2⟩
    subst hvf
    have q0 := (h4.below.cell (World.block_lt_of_cell? _ _ D0.out)).trans D0.out
    have q1 := (h4.below.cell (World.block_lt_of_cell? _ _ D1.out)).trans D1.out
    have hbl := World.block_lt_of_cell? _ _ q0
    have hnI : (n : Int) < (A.length : Int) := by omega
    have hixI : ((ixT Ts t : Nat) : Int) < (F.length : Int) := by omega
    have hcw : IntKind.i64.wrap (((clsT Ts t : Nat) : Int) - 1) = ((ixT Ts t : Nat) : Int) := by unfold clsT; rw [IntKind.wrap_i64]; omega
    have H4 := Lib.hid h4
    clear h4 ho
    simp only [Act.put]
    go_cut [10] (fun v10 wx => v10 = ptrN w3.heap.size ∧ At W wx (Both (CellT w3.heap.size #[.bool x.final, .slice ua x.edges.length uc] tAS) (LayT kf gc mb A.length pb (.slice (some ⟨b, off, none⟩) A.length cap) (.slice (some ⟨fa, 0, none⟩) F.length fc) Ts C F (.slice oa xs.length oc) xs (T ++ [t]) R)))
    case first =>
      refine wp_norm ?_
      rename_i J K' hJ hK
      have HJ := Lib.hid hJ
      have HK := Lib.hid hK
      clear hJ hK
      go_region_law (fail)
      all_goals
        refine HK.out _ _ ?_
        have hJ := HJ.out
        go_meet
        case rel => exact ⟨rfl, (H4.out.newCell (LayT.stable HR.out) _ _).drew ((CellT.stable _ _ _).both (LayT.stable HR.out))⟩
    case rest =>
      obtain ⟨rfl, hcut⟩ := hcut
      obtain ⟨e0, _, _⟩ := hcut.cellF (o := 0) (u := .bool x.final) rfl
      obtain ⟨e1, _, _⟩ := hcut.cellF (o := 1) (u := .slice ua x.edges.length uc) rfl
      have HO5 := Lib.hid hcut.pull4
      have HST5 := Lib.hid ((CellT.stable w3.heap.size #[.bool x.final, .slice ua x.edges.length uc] tAS).both ((FolT.stable kf gc mb A.length (.slice (some ⟨b, off, none⟩) A.length cap) (.slice (some ⟨fa, 0, none⟩) F.length fc) Ts C F).both ((MapT.stable Try.prog tInt pb (plT Ts (T ++ [t]))).both ((AllRows.stable tAE 2 (fun x : Sta × Value => x.2) (fun x => x.1.edges.flatMap edc) (fun x => x.1.edges.length) xs).both HR.out))))
      clear hcut c0 c3 hfr q0 q1 hkl hfl hbl
      (repeat' (first | (go_big_may; ((at_builtin; go_must (refine wpList_append_to rfl _ _ 22 tAS rfl Try.underlying22 info_AS rfl (by decide) rfl (HO5.out) (HST5.out) rfl (by first | rfl | simp) rfl (two_one' _ _ rfl rfl) (by unfold maxLen; omega) (by omega) ?_); intro a2 c2 w5 h6 _); have H6 := Lib.hid h6; obtain ⟨r1, _, _⟩ := h6.drop.cellF (o := 1) (u := .slice ua x.edges.length uc) rfl; clear h6 e0 e1)) | go_values | go_skip | go_guarded | go_step | go_upon | go_back | dsimp only))
      have h7 : At W w5 (Both (CellT w3.heap.size #[.bool x.final, .slice ua x.edges.length uc] tAS) (LayT kf gc mb A.length pb (.slice (some ⟨b, off, none⟩) A.length cap) (.slice (some ⟨fa, 0, none⟩) F.length fc) Ts C F (.slice a2 (xs.length + 1) c2) (X1 xs x.final) (T ++ [t]) R)) := by
        have g1 := H6.out.pull4.pull4.pull4.noRowG ((CellT.stable _ _ _).both ((FolT.stable _ _ _ _ _ _ _ _ _).both ((MapT.stable _ _ _ _).both ((RowG.stable _ _ _ _ _).both ((AllRows.stable _ _ _ _ _ _).both HR.out))))) tAE 2
        have e1 : (X1 xs x.final).flatMap stc = xs.flatMap stc ++ [.bool x.final, .slice none 0 0] := by simp
        have e2 : (X1 xs x.final).length = xs.length + 1 := by simp
        unfold LayT
        rw [e1, e2]
        refine g1.impl fun _ q => ?_
        exact Both.mono (fun _ _ q => Both.mono (fun _ _ q => Both.mono (fun _ _ q => Both.mono (fun _ _ q => AllRows.push (val := fun x : Sta × Value => x.2) (cells := fun x => x.1.edges.flatMap edc) (n := fun x => x.1.edges.length) (⟨x.final, []⟩, .slice none 0 0) q) q.assoc) q.assoc) q.assoc) q.assoc
      have h8 := h7.noRowG ((CellT.stable _ _ _).both (LayT.stable HR.out)) tAE 2
      have H8 := Lib.hid h8
      clear h7 h8 r1
      go_loopw [3, 11, 45] (fun vo ve vi wr => ∃ (j : Nat) (t' : Trie) (T' : List Trie) (ys : List (Sta × Value)) (es : List Ed), vi = .int .i64 j ∧ j ≤ x.edges.length ∧ es.length = j ∧ UnfE A t' x.final (x.edges.drop j) ∧ (∀ c ∈ kids t', c ∈ kids t) ∧ htT t' ≤ htT t ∧ (∀ s ∈ T', s ∈ Ts) ∧ T'.Nodup ∧ T'.length = xs.length + 1 + ys.length ∧
        layE t (T ++ [t]) = ((layE t' T').1, ys.map Prod.fst ++ (layE t' T').2.1, es ++ (layE t' T').2.2) ∧
        At W wr (Both (RowG tAE 2 ve j (es.flatMap edc)) (Both (CellT w3.heap.size #[.bool x.final, .slice ua x.edges.length uc] tAS) (LayT kf gc mb A.length pb (.slice (some ⟨b, off, none⟩) A.length cap) (.slice (some ⟨fa, 0, none⟩) F.length fc) Ts C F vo (X1 xs x.final ++ ys) T' R)))) (fun _ _ vi _ => x.edges.length - (intOf vi).toNat)
      case atStart =>
        refine ⟨0, t, T ++ [t], [], [], rfl, Nat.zero_le _, rfl, HU.out, fun _ h => h, Nat.le_refl _, fun s hs => ?_, ?_, by simp [HXL.out], by simp, by rw [List.append_nil]; exact H8.out⟩
        · rcases List.mem_append.1 hs with hs | hs
          · exact hT s hs
          · rw [List.mem_singleton] at hs; subst hs; exact ht
        · exact List.nodup_append.2 ⟨hTn, by simp, fun a ha d hd e => by rw [List.mem_singleton] at hd; subst hd; subst e; exact HTN.out ha⟩
      case round =>
        obtain ⟨j, t', T', ys, es, rfl, hj, hesl, hut, hkd, hht', hT', hTn', hTl', hlay, h6⟩ := hrel
        by_cases hlj : j < x.edges.length
        · obtain ⟨e, he⟩ : ∃ e, x.edges[j]? = some e := ⟨_, List.getElem?_eq_getElem hlj⟩
          have hdr : x.edges.drop j = e :: x.edges.drop (j + 1) := by
            obtain ⟨h1, h2⟩ := List.getElem?_eq_some_iff.1 he
            rw [List.drop_eq_getElem_cons h1, h2]
          rw [hdr] at hut
          obtain ⟨c, r, rfl, hge0, huc2, hur⟩ := hut.cons
          obtain ⟨m, hm⟩ := Int.eq_ofNat_of_zero_le hge0
          rw [hm, Int.toNat_natCast] at huc2
          obtain ⟨d, hd⟩ := hC m huc2.lt
          have hval := HI.out.val hd huc2
          rw [← hval.2] at hd
          have hml := huc2.lt
          have hmI : (m : Int) < (A.length : Int) := by omega
          have hjI : (j : Int) < (x.edges.length : Int) := by omega
          have hht2 : htT c < k := by
            simp only [htT] at hht'
            omega
          obtain ⟨be, oe, ce, hse, e0, e1⟩ := RdEds.at (HE.out.below h6.below) he
          cases hse
          rw [hm] at e1
          have hst0 := (RowG.stable tAE 2 u11 j (es.flatMap edc)).both ((CellT.stable w3.heap.size #[.bool x.final, .slice (some ⟨be, oe, none⟩) x.edges.length uc] tAS).both (LayT.stable (kf := kf) (gc := gc) (mb := mb) (N := A.length) (pb := pb) (va := .slice (some ⟨b, off, none⟩) A.length cap) (vf := .slice (some ⟨fa, 0, none⟩) F.length fc) (Ts := Ts) (C := C) (F := F) (ov := u3) (xs := X1 xs x.final ++ ys) (T := T') HR.out))
          have h7 := h6.newCell hst0 #[bv e.1, .int .i64 m] tAE
          have h8 : At W (wr.alloc (.cells #[bv e.1, .int .i64 m] tAE)) (LayT kf gc mb A.length pb (.slice (some ⟨b, off, none⟩) A.length cap) (.slice (some ⟨fa, 0, none⟩) F.length fc) Ts C F u3 (X1 xs x.final ++ ys) T' (Both (CellT wr.heap.size #[bv e.1, .int .i64 m] tAE) (Both (RowG tAE 2 u11 j (es.flatMap edc)) (Both (CellT w3.heap.size #[.bool x.final, .slice (some ⟨be, oe, none⟩) x.edges.length uc] tAS) R)))) :=
            h7.impl fun _ q => Both.in4 (Both.mono (fun _ _ q => Both.in4 (Both.mono (fun _ _ q => Both.in4 q) q)) q)
          have hst2 : Stable (Both (CellT wr.heap.size #[bv e.1, .int .i64 m] tAE) (Both (RowG tAE 2 u11 j (es.flatMap edc)) (Both (CellT w3.heap.size #[.bool x.final, .slice (some ⟨be, oe, none⟩) x.edges.length uc] tAS) R))) := (CellT.stable _ _ _).both ((RowG.stable _ _ _ _ _).both ((CellT.stable _ _ _).both HR.out))
          have h9 := h8.drew (LayT.stable hst2)
          obtain ⟨z1, _, _⟩ := h8.folOpen.cellF (o := 1) rfl
          obtain ⟨z2, _, _⟩ := h8.folOpen.drop.rowCell (nats_get hd)
          have hkeyc := keyOf_nat (n := clsT Ts c) (by have := clsT_le hval.1; have := HI.out.le; omega)
          have hesb : es.length ≤ 1048576 := by omega
          have hjb : j ≤ 1048576 := by omega
          -- the rest of the round, from the append on
          have STEP : ∀ (w5 : World) (ov5 : Value) (zs : List (Sta × Value)) (T5 : List Trie), At W w5 (LayT kf gc mb A.length pb (.slice (some ⟨b, off, none⟩) A.length cap) (.slice (some ⟨fa, 0, none⟩) F.length fc) Ts C F ov5 zs T5 (Both (CellT wr.heap.size #[bv e.1, .int .i64 m] tAE) (Both (RowG tAE 2 u11 j (es.flatMap edc)) (Both (CellT w3.heap.size #[.bool x.final, .slice (some ⟨be, oe, none⟩) x.edges.length uc] tAS) R)))) →
              w5.cell? ⟨wr.heap.size, 0, none⟩ = some (bv e.1) ∧ At W w5 (Both (RowG tAE 2 u11 j (es.flatMap edc)) (Both (CellT w3.heap.size #[.bool x.final, .slice (some ⟨be, oe, none⟩) x.edges.length uc] tAS) (LayT kf gc mb A.length pb (.slice (some ⟨b, off, none⟩) A.length cap) (.slice (some ⟨fa, 0, none⟩) F.length fc) Ts C F ov5 zs T5 R))) := by
            intro w5 ov5 zs T5 g
            have g1 := g.impl fun _ q => Both.out4 q
            have g2 : At W w5 (Both (CellT wr.heap.size #[bv e.1, .int .i64 m] tAE) (Both (RowG tAE 2 u11 j (es.flatMap edc)) (Both (CellT w3.heap.size #[.bool x.final, .slice (some ⟨be, oe, none⟩) x.edges.length uc] tAS) (LayT kf gc mb A.length pb (.slice (some ⟨b, off, none⟩) A.length cap) (.slice (some ⟨fa, 0, none⟩) F.length fc) Ts C F ov5 zs T5 R)))) :=
              g1.impl fun _ q => Both.mono (fun _ _ q => Both.mono (fun _ _ q => Both.out4 q) (Both.out4 q)) q
            exact ⟨(g2.cellF (o := 0) (u := bv e.1) rfl).1, g2.drop⟩
          have HSTA : ∀ ov5 zs T5, Stable (Both (CellT w3.heap.size #[.bool x.final, .slice (some ⟨be, oe, none⟩) x.edges.length uc] tAS) (LayT kf gc mb A.length pb (.slice (some ⟨b, off, none⟩) A.length cap) (.slice (some ⟨fa, 0, none⟩) F.length fc) Ts C F ov5 zs T5 R)) := fun _ _ _ => (CellT.stable _ _ _).both (LayT.stable HR.out)
          have HSA := Lib.hid HSTA
          have HSTEP := Lib.hid STEP
          have HLAY := Lib.hid hlay
          have HESL := Lib.hid hesl
          have HUR := Lib.hid hur
          have HVAL := Lib.hid hval
          have HKC := Lib.hid hkeyc
          have HTS := Lib.hid hT'
          have HTND := Lib.hid hTn'
          have HTLN := Lib.hid hTl'
          by_cases hc : c ∈ T'
          · have hlook := h9.swap.mapHit (t := tMI) (e := tInt) true int_key Try.underlying99 HKC.out (plT_hit (Ts := Ts) hc)
            rw [if_pos rfl] at hlook
            have hlook2 := h9.swap.mapHit (t := tMI) (e := tInt) false int_key Try.underlying99 HKC.out (plT_hit (Ts := Ts) hc)
            rw [if_neg Bool.false_ne_true] at hlook2
            obtain ⟨y0, g9⟩ := STEP _ _ _ _ h8
            have HG9 := Lib.hid g9
            have HCM := Lib.hid hc
            clear h6 h7 h8 h9 hst0 hst2 STEP HSTA hlay hesl hur hval hkeyc hT' hTn' hTl' hc huc2 hd he hm hut hdr g9 hge0
            (repeat' (first | (go_big_may; fail) | go_values | go_skip | go_guarded | go_step | go_upon | go_back | dsimp only))
            (refine region_still_tail 8 (by kernel_rfl) (by kernel_rfl) ?_; simp only [List.take_succ_cons, List.take_zero, List.drop_succ_cons, List.drop_zero]; (iterate 8 (first | ((with_reducible refine still_plain ?_ rfl ?_ ?_); rotate_left; (next => (go_simp; (try with_reducible rfl))); simp only [Act.put, List.setIfInBounds_toArray, List.set_cons_zero, List.set_cons_succ]) | ((with_reducible refine still_skip ?_ ?_); (next => (go_simp; done)); simp only [Act.put, List.setIfInBounds_toArray, List.set_cons_zero, List.set_cons_succ]) | ((with_reducible refine still_val ?_ ?_ ?_ ?_); rotate_left; (next => (go_simp; done)); (next => (go_simp; (try with_reducible rfl))); simp only [Act.put, List.setIfInBounds_toArray, List.set_cons_zero, List.set_cons_succ]))); (with_reducible refine wpStill_nil ?_))
            (repeat' (first | (go_big_may; ((at_builtin; go_must (refine wpList_append_to_drew rfl _ _ 56 tAE rfl Try.underlying56 info_AE rfl (by decide) rfl (HG9.out) (HSA.out _ _ _) rfl (by first | rfl | simp) rfl (two_one' _ _ rfl rfl) (by unfold maxLen; omega) (by omega) ?_); intro a7 c7 w7 h10 _); have H10 := Lib.hid h10; clear h10)) | go_values | go_skip | go_guarded | go_step | go_upon | go_back | dsimp only))
            go_roundw
            case rel =>
              refine ⟨j + 1, r, T', ys, es ++ [(e.1, (ixT T' c : Int))], by simp, by omega, by simp [HESL.out], HUR.out, fun d hd => hkd d (by simp [kids, hd]), by simp only [htT] at hht'; omega, HTS.out, HTND.out, HTLN.out, ?_, ?_⟩
              · rw [HLAY.out, layE_old HCM.out]; simp
              · have e9 : (es ++ [(e.1, (ixT T' c : Int))]).flatMap edc = es.flatMap edc ++ [bv e.1, .int .i64 (ixT T' c : Nat)] := by simp
                rw [e9]
                exact H10.out
            case measure => simp [intOf] <;> omega
          · have hlook := h9.swap.mapMiss (t := tMI) (e := tInt) true int_key Try.underlying99 (zero_int _) HKC.out (plT_miss hT' hval.1 hc)
            rw [if_pos rfl] at hlook
            have hcall := IH.out _ c T' (X1 xs x.final ++ ys) u3 _ h9 hst2 hT' hTn' hval.1 hc hht2 (by rw [hTl']; simp; omega)
            have HCALL := Lib.hid hcall
            have HCM := Lib.hid hc
            clear h6 h7 h8 h9 hst0 hst2 STEP HSTA hlay hesl hur hval hkeyc hT' hTn' hTl' hc huc2 hd he hm hut hdr hge0 hcall
            (repeat' (first | (go_big_may; fail) | go_values | go_skip | go_guarded | go_step | go_upon | go_back | dsimp only))
            (refine region_still_tail 8 (by kernel_rfl) (by kernel_rfl) ?_; simp only [List.take_succ_cons, List.take_zero, List.drop_succ_cons, List.drop_zero]; (iterate 8 (first | ((with_reducible refine still_plain ?_ rfl ?_ ?_); rotate_left; (next => (go_simp; (try with_reducible rfl))); simp only [Act.put, List.setIfInBounds_toArray, List.set_cons_zero, List.set_cons_succ]) | ((with_reducible refine still_skip ?_ ?_); (next => (go_simp; done)); simp only [Act.put, List.setIfInBounds_toArray, List.set_cons_zero, List.set_cons_succ]) | ((with_reducible refine still_val ?_ ?_ ?_ ?_); rotate_left; (next => (go_simp; done)); (next => (go_simp; (try with_reducible rfl))); simp only [Act.put, List.setIfInBounds_toArray, List.set_cons_zero, List.set_cons_succ]))); (with_reducible refine wpStill_nil ?_))
            (repeat' (first | (go_big_may; fail) | go_values | go_skip | go_guarded | go_step | go_upon | go_back | dsimp only))
            refine HCALL.out.mono ?_
            rintro e7 w7 ⟨ov7, ys7, rfl, hys7, h11⟩
            obtain ⟨i1, i2, i3⟩ := layE_ix HCM.out
            have hlook2 := h11.swap.mapHit (t := tMI) (e := tInt) false int_key Try.underlying99 HKC.out (plT_hit (Ts := Ts) i1)
            rw [if_neg Bool.false_ne_true, i2] at hlook2
            obtain ⟨y0, g9⟩ := HSTEP.out _ _ _ _ h11
            have HG9 := Lib.hid g9
            have HYS7 := Lib.hid hys7
            have HI3 := Lib.hid i3
            have HT7 := Lib.hid (layE_in HI.out.closed c (T' ++ [c]) (HI.out.closed c HVAL.out.1) (fun s hs => by
              rcases List.mem_append.1 hs with hs | hs
              · exact HTS.out s hs
              · rw [List.mem_singleton] at hs; subst hs; exact HVAL.out.1))
            have HN7 := Lib.hid (show (layE c (T' ++ [c])).1.Nodup from by
              obtain ⟨Us, q⟩ := layE_spec c (T' ++ [c])
              exact q.nodup (List.nodup_append.2 ⟨HTND.out, by simp, fun a ha d hd e => by rw [List.mem_singleton] at hd; subst hd; subst e; exact HCM.out ha⟩))
            clear h11 g9 hys7 i1 i2 i3 HCALL
            (repeat' (first | (go_big_may; ((at_builtin; go_must (refine wpList_append_to rfl _ _ 56 tAE rfl Try.underlying56 info_AE rfl (by decide) rfl (HG9.out) (HSA.out _ _ _) rfl (by first | rfl | simp) rfl (two_one' _ _ rfl rfl) (by unfold maxLen; omega) (by omega) ?_); intro a7 c7 w8 h10 _); have H10 := Lib.hid h10; clear h10)) | go_values | go_skip | go_guarded | go_step | go_upon | go_back | dsimp only))
            go_roundw
            case rel =>
              have hyl : ys7.length = 1 + (layE c (T' ++ [c])).2.1.length := by
                have := congrArg List.length HYS7.out
                simp at this
                omega
              refine ⟨j + 1, r, (layE c (T' ++ [c])).1, ys ++ ys7, es ++ [(e.1, (T'.length : Int))], by simp, by omega, by simp [HESL.out], HUR.out, fun d hd => hkd d (by simp [kids, hd]), by simp only [htT] at hht'; omega, HT7.out, HN7.out, ?_, ?_, ?_⟩
              · rw [HI3.out, HTLN.out, List.length_append]; omega
              · rw [HLAY.out, layE_new HCM.out, List.map_append, HYS7.out]; simp
              · have e9 : (es ++ [(e.1, (T'.length : Int))]).flatMap edc = es.flatMap edc ++ [bv e.1, .int .i64 (T'.length : Nat)] := by simp
                rw [e9, ← List.append_assoc]
                exact H10.out
            case measure => simp [intOf] <;> omega
        · obtain rfl : j = x.edges.length := by omega
          rw [List.drop_eq_nil_of_le (Nat.le_refl _)] at hut
          obtain rfl := hut.nil
          simp only [layE, List.append_nil] at hlay
          have hf : t.final = x.final := HU.out.final
          obtain ⟨va, vc, hu9, _, _⟩ := own_shape h6.rowG
          have h4 := h6.swap.drop.pull4
          have hll : (X1 xs x.final ++ ys).length = xs.length + 1 + ys.length := by simp; omega
          have hstr : Stable (Both (RowG tAE 2 u11 x.edges.length (es.flatMap edc)) (Both (FolT kf gc mb A.length (.slice (some ⟨b, off, none⟩) A.length cap) (.slice (some ⟨fa, 0, none⟩) F.length fc) Ts C F) (Both (MapT Try.prog tInt pb (plT Ts T')) (Both (EdsG tAE (X1 xs x.final ++ ys)) R)))) :=
            (RowG.stable _ _ _ _ _).both ((FolT.stable _ _ _ _ _ _ _ _ _).both ((MapT.stable _ _ _ _).both ((AllRows.stable _ _ _ _ _ _).both HR.out)))
          obtain ⟨go, oc', hoo, _, hoc1, hoc2⟩ := own_cut h4.rowG (by omega)
          subst hoo
          have hgx := x1_get xs ys (⟨x.final, []⟩, .slice none 0 0)
          have hgetx : ((X1 xs x.final ++ ys).flatMap stc)[xs.length * 2 + 1]? = some (.slice none 0 0) := by
            have h9 := flatMap_get stc_len (X1 xs x.final ++ ys) (i := xs.length) (j := 1) (by omega) (by decide)
            have h8 : (X1 xs x.final ++ ys).getD xs.length default = (⟨x.final, []⟩, .slice none 0 0) := by rw [List.getD_eq_getElem?_getD, hgx]; rfl
            rw [h8] at h9
            exact h9
          obtain ⟨g1, g2, g3⟩ := h4.rowCell hgetx
          have h5 := h4.storeG hstr (xs.length * 2 + 1) u11
          rw [stc_set hgx u11 es, x1_set] at h5
          rw [← hesl] at h5
          have e7 : (xs ++ (((⟨x.final, es⟩, u11) : Sta × Value) :: ys)).length = (X1 xs x.final ++ ys).length := by simp
          have h6' : At W (wr.setCell ⟨go, xs.length * 2 + 1, none⟩ u11) (LayT kf gc mb A.length pb (.slice (some ⟨b, off, none⟩) A.length cap) (.slice (some ⟨fa, 0, none⟩) F.length fc) Ts C F (.slice (some ⟨go, 0, none⟩) (X1 xs x.final ++ ys).length oc') (xs ++ (((⟨x.final, es⟩, u11) : Sta × Value) :: ys)) T' R) := by
            unfold LayT
            rw [e7]
            refine h5.impl fun _ q => ?_
            have q1 := Both.mono (fun _ _ q2 => Both.mono (fun _ _ q => Both.mono (fun _ _ q4 => AllRows.setRow (val := fun x : Sta × Value => x.2) (cells := fun x => x.1.edges.flatMap edc) (n := fun x => x.1.edges.length) (y := (⟨x.final, es⟩, u11)) hgx rfl q4) q.assoc) (Both.assoc q2)) q
            rw [x1_set] at q1
            exact Both.mono (fun _ _ q => Both.assoc q) (Both.assoc q1)
          have H6 := Lib.hid h6'
          have HLAY := Lib.hid hlay
          have HESL := Lib.hid hesl
          have HFN := Lib.hid hf
          have hi0 : (0 : Int) ≤ (xs.length : Int) := by omega
          have hi1 : (xs.length : Int) < ((X1 xs x.final ++ ys).length : Int) := by omega
          have hjI : ¬ (x.edges.length : Int) < (x.edges.length : Int) := by omega
          generalize hlX : (X1 xs x.final ++ ys).length = LX at *
          clear h4 h5 h6 h6' hgx hgetx hstr hlay hesl e7 hll hf hT' hTn' hTl' hut hkd hht'
          subst hu9
          (repeat' (first | (go_big_may; fail) | go_values | go_skip | go_guarded | go_step | go_upon | go_back | dsimp only))
          go_ret
          refine ⟨.slice (some ⟨go, 0, none⟩) LX oc', (⟨x.final, es⟩, .slice va x.edges.length vc) :: ys, rfl, ?_, ?_⟩
          · rw [HLAY.out, HFN.out]; rfl
          · have hl1 : (layE t (T ++ [t])).1 = T' := by rw [HLAY.out]
            rw [hl1]
            exact H6.out
end Go.Proofs.Ytcbdncjknpdnbaa
