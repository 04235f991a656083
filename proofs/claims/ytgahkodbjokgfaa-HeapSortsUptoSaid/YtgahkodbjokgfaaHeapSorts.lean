/- HeapSorts walked. -/
import Derived.Test.YtgahkodbjokgfaaHeapSortP
namespace Go.Proofs.Ytgahkodbjokgfaa
open Go.RowKit

abbrev intsV (l : List Int) : List Value := l.map (.int .i64)
theorem RdRow.int {w : World} {v : Value} {n : Nat} {l : List Int} (h : RdRow w v n 1 (intsV l)) {i : Nat} (hi : i < l.length) :
    ∃ b off cap, v = .slice (some ⟨b, off, none⟩) n cap ∧ w.cell? ⟨b, off + i, none⟩ = some (.int .i64 (l.getD i 0)) := by
  obtain ⟨_, a, cap, rfl, _, _, hc⟩ := h
  obtain ⟨b, off, rfl, h0⟩ := hc i (.int .i64 (l.getD i 0)) (by simp [List.getD_eq_getElem?_getD, hi])
  exact ⟨b, off, cap, rfl, h0⟩

theorem run_make_rowN {P : Program} (t e : TypeId) (i : TypeInfo) (z : Value) (ht : P.underlying t = some (.slice e)) (hi : P.info? e = some i) (hz : i.zero = some z)
    (kl kc : IntKind) (n c : Nat) (hnc : n ≤ c) (hbytes : i.bytes * c ≤ 281474976710656) (h63 : c ≤ 9223372036854775807) (w : World) :
    (Instr.makeSlice t (.int kl (n : Int)) (.int kc (c : Int))).run P w = .ok (.slice (some ⟨w.heap.size, 0, none⟩) n c) (w.alloc (.cells (madeCells z.cells (c * i.size)) e)) := by
  have hb : (i.bytes : Int) * (c : Int) ≤ 281474976710656 := by
    have h : ((i.bytes * c : Nat) : Int) ≤ 281474976710656 := by omega
    rwa [Int.natCast_mul] at h
  have hr := run_make (P := P) w t e i z ht hi hz kl kc n c (by omega) (by omega) hb (by omega)
  simp only [Int.toNat_natCast] at hr
  exact hr
theorem info_bool : (Try.prog.info? 4).map (fun i => (i.zero, i.size, i.bytes)) = some (some (.bool false), 1, 1) := by kernel_rfl
theorem make_bools (n : Nat) (hn : n ≤ 1048576) (w : World) : (Instr.makeSlice 45 (.int .i64 (n : Int)) (.int .i64 (n : Int))).run Try.prog w = .ok (.slice (some ⟨w.heap.size, 0, none⟩) n n) (w.alloc (.cells (madeCells #[.bool false] n) 4)) := by
  obtain ⟨i, hi, hz, hs, hb⟩ := info_parts info_bool
  have := run_make_rowN (P := Try.prog) 45 4 i _ Try.underlying45 hi hz .i64 .i64 n n (Nat.le_refl _) (by rw [hb]; omega) (by omega) w
  rw [hs, Nat.mul_one] at this
  exact this

/-- The loop over the drained list. -/
def SeenAt (w3 : World) (g : Nat) (D : List It) (n i : Nat) (wr : World) : Prop :=
  i ≤ n ∧ Below w3.heap.size w3 wr ∧ ∃ C : Array Value, wr.heap[g]? = some (.cells C 4 (0, 0)) ∧ C.size = n ∧ ∀ t, t < n → C[t]? = some (.bool ((D.take i).any fun x => x.tag == (t : Int)))

theorem SeenAt.drewN {w3 : World} {g : Nat} {D : List It} {n i : Nat} {wr : World} (h : SeenAt w3 g D n i wr) (k : Nat) : SeenAt w3 g D n i (wr.drewN k) :=
  ⟨h.1, ((Upd.of_below h.2.1 []).drewN k).below (Nat.le_refl _) (by simp), h.2.2⟩

set_option maxRecDepth 100000 in
set_option maxHeartbeats 3200000 in
theorem heapSorts_walk (w : World) (keys : List Int) (v : Value) (rd : RdRow w v keys.length 1 (intsV keys)) (hn : keys.length ≤ 1048576) :
    Calls Try.prog 5 #[v] w fun e w' => e = .returned (.bool true) ∧ Below w.heap.size w w' := by
  obtain ⟨ak, ck, hv, hk1, hk2⟩ := rd.shape
  unfold maxLen at hk2
  subst hv
  have RD := Lib.hid rd
  clear rd
  go_enter Try.func5, Try.ntmps5
  (repeat' (first | (go_big_may; fail) | go_values | go_skip | go_guarded | go_step | go_upon | go_back | dsimp only))
  refine (wakes_calls w).mono ?_
  rintro e w1 ⟨rfl, hb1⟩
  have HB1 := Lib.hid hb1
  have hw1 := hb1.size
  clear hb1
  (repeat' (first | (go_big_may; fail) | go_values | go_skip | go_guarded | go_step | go_upon | go_back | dsimp only))
  go_loopw [3, 14] (fun vi x wr => ∃ i : Nat, x = .int .i64 i ∧ i ≤ keys.length ∧ wr.ownsRow w.heap.size 25 2 vi i (cellsI (numbered (keys.take i))) ∧ Below w.heap.size w wr) (fun _ x _ => keys.length - (intOf x).toNat)
  case atStart => exact ⟨0, rfl, Nat.zero_le _, World.ownsRow_nil _ _ _ _, HB1.out⟩
  case round =>
    obtain ⟨i, rfl, hi, hown, hb⟩ := hrel
    clear HB1 hw1
    have hbs := hb.size
    by_cases hlt : i < keys.length
    · obtain ⟨bx, off, cp, hsl, hx0⟩ := (RD.out.below hb).int hlt
      cases hsl
      have hbx := World.block_lt_of_cell? _ _ hx0
      have hnt := numbered_take keys i hlt
      generalize hkk : keys.getD i 0 = k at *
      have HNT := Lib.hid hnt
      have HB := Lib.hid hb
      clear hkk hnt hb
      have hi1 : (0 : Int) ≤ i := by omega
      have hi2 : (i : Int) < keys.length := by omega
      (repeat' (first | (go_big_may; (at_builtin; go_must (refine wpList_append_new2 rfl _ _ 22 25 rfl Try.underlying22 info_It rfl (by decide) rfl hown rfl rfl (two_oneCell _ _) hbs (by unfold maxLen; omega) (by omega) ?_); intro vo1 w2 hown1 hg1 hbk; have hb2 := Lib.hid (grownOwn HB.out hbs hown hg1); have HOWN1 := Lib.hid hown1; clear hown1 hg1 hbk hown)) | go_values | go_skip | go_guarded | go_step | go_upon | go_back | dsimp only))
      go_roundw
      case rel =>
        refine ⟨i + 1, by simp, hlt, ?_, hb2.out⟩
        rw [HNT.out, cellsI_append]
        simpa [cellsI] using HOWN1.out
      case measure => simp [intOf] <;> omega
    · obtain rfl : i = keys.length := by omega
      rw [List.take_length] at hown
      have hrd := RdRow.of_own hown
      have HB := Lib.hid hb
      clear hb hown
      (repeat' (first | (go_big_may; fail) | go_values | go_skip | go_guarded | go_step | go_upon | go_back | dsimp only))
      refine (Items_holds (xs := numbered keys) (by rw [numbered_length]; exact hrd) (by rw [numbered_length]; omega)).mono ?_
      rintro e w2 ⟨bh, vh, rfl, hh, hu, hg⟩
      have hu2 := Lib.hid ((Upd.of_below HB.out []).trans hu (Grow.nil _ _))
      have hg2 := Lib.hid ((Grow.refl w []).trans hg hbs)
      have HH := Lib.hid hh
      clear hh hrd hu hg HB hbs hlt
      (repeat' (first | (go_big_may; fail) | go_values | go_skip | go_guarded | go_step | go_upon | go_back | dsimp only))
      refine (Drain_holds lessK HH.out (by rw [numbered_length]; omega)).mono ?_
      rintro e w3 ⟨vr, rfl, hi, v', _, hu3, _⟩
      rw [numbered_length] at hi
      have hb := (hu2.out.trans hu3 hg2.out).below (Nat.le_refl _) (by simp)
      have hlen : (drainR ltK keys.length (numbered keys)).length = keys.length := drainR_len ltK _ _ (numbered_length keys)
      have hsort := sortAt keys
      generalize drainR ltK keys.length (numbered keys) = D at *
      have hrdD := hi.rd
      rw [hlen] at hrdD
      obtain ⟨ad, cd, hvr, hcd1, hcd2⟩ := hrdD.shape
      subst hvr
      unfold maxLen at hcd2
      have RDD := Lib.hid hrdD
      have HB := Lib.hid hb
      have HS := Lib.hid hsort
      have HLEN := Lib.hid hlen
      clear hi hu3 hu2 hg2 HH hrdD hb hsort hlen
      have hmk := make_bools keys.length hn
      (repeat' (first | (go_big_may; fail) | go_values | go_skip | go_guarded | go_step | go_upon | go_back | dsimp only))
      go_loopw [39] (fun x wr => ∃ i : Nat, x = .int .i64 i ∧ SeenAt w3 w3.heap.size D keys.length i wr) (fun x _ => keys.length - (intOf x).toNat)
      case atStart =>
        refine ⟨0, rfl, Nat.zero_le _, (Below.refl _ _).alloc (Nat.le_refl _) _, _, heap_alloc_new w3 _, by simp [madeCells], fun t ht => ?_⟩
        simp [madeCells, ht, Nat.mod_one]
      case round =>
        obtain ⟨i, rfl, hi, hb3, C, hC, hCs, hCt⟩ := hrel
        have hbw := (((Upd.of_below HB.out []).trans (Upd.of_below hb3 []) (Grow.nil _ _)).below (Nat.le_refl _) (by simp))
        by_cases hlt : i < keys.length
        · obtain ⟨t, k, hat, ht, hkey, hfresh, hord⟩ := HS.out i hlt
          have hiD : i < D.length := by rw [HLEN.out]; exact hlt
          obtain ⟨bx, off, cp, hsl, hx0, hx1⟩ := (RDD.out.below hb3).item hiD
          cases hsl
          rw [hat] at hx0 hx1
          dsimp only at hx0 hx1
          have hbx : bx < w3.heap.size := by
            obtain ⟨_, _, _, e, h0, _⟩ := RDD.out.item hiD
            cases e
            exact World.block_lt_of_cell? _ _ h0
          have hgl := lt_of_heap hC
          obtain ⟨bk, offk, cpk, hslk, hk0⟩ := (RD.out.below hbw).int ht
          cases hslk
          rw [hkey] at hk0
          have hi1 : (0 : Int) ≤ i := by omega
          have hi2 : (i : Int) < keys.length := by omega
          (repeat' (first | (go_big_may; fail) | go_values | go_skip | go_guarded | go_step | go_upon | go_back | dsimp only))
          have hba : Below wr.heap.size wr (wr.alloc (.cells #[.int .i64 k, .int .i64 (t : Int)] 25)) := (Below.refl _ _).alloc (Nat.le_refl _) _
          have z0 : (wr.alloc (.cells #[.int .i64 k, .int .i64 (t : Int)] 25)).cell? ⟨wr.heap.size, 0, none⟩ = some (.int .i64 k) := by rw [World.cell?_alloc_at _ _ _ _ rfl]; rfl
          have z1 : (wr.alloc (.cells #[.int .i64 k, .int .i64 (t : Int)] 25)).cell? ⟨wr.heap.size, 1, none⟩ = some (.int .i64 (t : Int)) := by rw [World.cell?_alloc_at _ _ _ _ rfl]; rfl
          have hbk := World.block_lt_of_cell? _ _ hk0
          have hC4 := (hba.block _ hgl).trans hC
          have hb4 := (((Upd.of_below hb3 []).trans (Upd.of_below hba []) (Grow.nil _ _)).below (Nat.le_refl _) (by simp))
          have hbw4 := (((Upd.of_below hbw []).trans (Upd.of_below hba []) (Grow.nil _ _)).below (Nat.le_refl _) (by simp))
          have y0 : (wr.alloc (.cells #[.int .i64 k, .int .i64 (t : Int)] 25)).cell? ⟨bk, offk + t, none⟩ = some (.int .i64 k) := by rw [hba.cell (p := ⟨bk, offk + t, none⟩) hbk]; exact hk0
          generalize wr.alloc (.cells #[.int .i64 k, .int .i64 (t : Int)] 25) = W4 at *
          generalize wr.heap.size = p at *
          have s0 : W4.cell? ⟨w3.heap.size, t, none⟩ = some (.bool false) := by
            have := hCt t ht
            rw [hfresh] at this
            simpa [World.cell?, hC4] using this
          have sf : W4.frozen? ⟨w3.heap.size, t, none⟩ = false := by simp [World.frozen?, hC4]
          have rdD := Lib.hid (RDD.out.below hb4)
          have HC4 := Lib.hid hC4
          have HB4 := Lib.hid hb4
          have HCT := Lib.hid hCt
          have HCS := Lib.hid hCs
          have HORD := Lib.hid hord
          have HAT := Lib.hid hat
          have ht1 : (0 : Int) ≤ t := by omega
          have ht2 : (t : Int) < keys.length := by omega
          have ht3 : ¬ ((t : Int) < 0) := by omega
          have ht4 : ¬ ((keys.length : Int) ≤ t) := by omega
          have hg4 := lt_of_heap hC4
          clear hba hx0 hx1 hk0 hbk hb3 hbw hC hC4 hb4 hbw4 hCt hCs hord hat hkey hfresh hmk
          go_quiet (fail)
          (repeat' (first | (go_big_may; fail) | go_values | go_skip | go_guarded | go_step | go_upon | go_back | dsimp only))
          have hblk : ∀ q, q ≠ w3.heap.size → ((W4.drewN nq).setCell ⟨w3.heap.size, t, none⟩ (.bool true)).heap[q]? = W4.heap[q]? := fun q hq => by rw [Below.heap_setCell _ _ _ _ hq]; rfl
          have z0' : ((W4.drewN nq).setCell ⟨w3.heap.size, t, none⟩ (.bool true)).cell? ⟨p, 0, none⟩ = some (.int .i64 k) := by rw [World.cell?_of_block (w := W4) (hblk p (by omega))]; exact z0
          have z1' : ((W4.drewN nq).setCell ⟨w3.heap.size, t, none⟩ (.bool true)).cell? ⟨p, 1, none⟩ = some (.int .i64 (t : Int)) := by rw [World.cell?_of_block (w := W4) (hblk p (by omega))]; exact z1
          have hC5 : ((W4.drewN nq).setCell ⟨w3.heap.size, t, none⟩ (.bool true)).heap[w3.heap.size]? = _ := heap_setCell (w := W4.drewN nq) (o := t) HC4.out (.bool true)
          have hb5 : Below w3.heap.size w3 ((W4.drewN nq).setCell ⟨w3.heap.size, t, none⟩ (.bool true)) := by
            exact (((Upd.of_below HB4.out []).drewN nq).setCell (p := ⟨w3.heap.size, t, none⟩) (.inr (Nat.le_refl _)) _).below (Nat.le_refl _) (by simp)
          have hprev : ∀ j, i = j + 1 → ((W4.drewN nq).setCell ⟨w3.heap.size, t, none⟩ (.bool true)).cell? ⟨bx, off + j * 2, none⟩ = some (.int .i64 (D.getD j default).key) ∧ ((W4.drewN nq).setCell ⟨w3.heap.size, t, none⟩ (.bool true)).cell? ⟨bx, off + j * 2 + 1, none⟩ = some (.int .i64 (D.getD j default).tag) := fun j hj => by
            obtain ⟨_, _, _, e, h0, h1⟩ := rdD.out.item (i := j) (by omega)
            cases e
            exact ⟨(World.cell?_of_block (w := W4) (a := ⟨bx, off + j * 2, none⟩) (hblk bx (by omega))).trans h0, (World.cell?_of_block (w := W4) (a := ⟨bx, off + j * 2 + 1, none⟩) (hblk bx (by omega))).trans h1⟩
          have HC5 := Lib.hid hC5
          have HB5 := Lib.hid hb5
          have HPREV := Lib.hid hprev
          clear hblk hC5 hb5 hprev z0 z1 y0 s0 sf HB4 HC4 rdD
          generalize (W4.drewN nq).setCell ⟨w3.heap.size, t, none⟩ (.bool true) = W5 at *
          have fin : SeenAt w3 w3.heap.size D keys.length (i + 1) W5 := by
            refine ⟨hlt, HB5.out, _, HC5.out, by simp [HCS.out], fun t' ht' => ?_⟩
            rw [List.take_add_one, List.getElem?_eq_getElem hiD, Option.toList_some, List.any_append]
            have hDi : D[i] = ⟨k, (t : Int)⟩ := by rw [← HAT.out, List.getD_eq_getElem?_getD, List.getElem?_eq_getElem hiD]; rfl
            rw [hDi]
            by_cases e : t' = t
            · subst e
              simp [HCS.out, ht']
            · have e2 : ¬ (t = t') := fun h => e h.symm
              have e3 : ¬ ((t : Int) = t') := by omega
              rw [Array.getElem?_setIfInBounds_ne e2, HCT.out t' ht']
              simp [e3]
          have FIN := Lib.hid fin
          clear fin HC5 HB5 HCT HCS HAT
          by_cases hi0 : i = 0
          · subst hi0
            clear HPREV HORD
            go_quiet (fail)
            (repeat' (first | (go_big_may; fail) | go_values | go_skip | go_guarded | go_step | go_upon | go_back | dsimp only))
            go_roundw
            case rel => exact ⟨1, rfl, FIN.out.drewN _⟩
            case measure => simp [intOf] <;> omega
          · obtain ⟨j, hj⟩ : ∃ j, i = j + 1 := ⟨i - 1, by omega⟩
            obtain ⟨q0, q1⟩ := HPREV.out j hj
            have hord := HORD.out (by omega)
            rw [show i - 1 = j by omega] at hord
            have hj1 : (0 : Int) ≤ j := by omega
            have hj2 : (j : Int) < keys.length := by omega
            have hj3 : IntKind.i64.wrap ((i : Int) - 1) = (j : Int) := by rw [IntKind.wrap_i64]; omega
            have hj4 : 0 < i := by omega
            generalize (D.getD j default).key = pk at *
            generalize (D.getD j default).tag = pt at *
            have HJ := Lib.hid hj
            clear hj hi0 HPREV HORD
            rcases hord with h1 | ⟨h1, h2⟩
            · have h3 : ¬ (k < pk) := by omega
              have h4 : ¬ (pk = k) := by omega
              go_quiet (fail)
              (repeat' (first | (go_big_may; fail) | go_values | go_skip | go_guarded | go_step | go_upon | go_back | dsimp only))
              go_roundw
              case rel => exact ⟨i + 1, by simp, FIN.out.drewN _⟩
              case measure => simp [intOf] <;> omega
            · have h3 : ¬ (k < pk) := by omega
              have h4 : ¬ ((t : Int) < pt) := by omega
              subst h1
              clear h2
              go_quiet (fail)
              (repeat' (first | (go_big_may; fail) | go_values | go_skip | go_guarded | go_step | go_upon | go_back | dsimp only))
              go_roundw
              case rel => exact ⟨i + 1, by simp, FIN.out.drewN _⟩
              case measure => simp [intOf] <;> omega
        · obtain rfl : i = keys.length := by omega
          have HBW := Lib.hid hbw
          clear hbw hb3 hC hCt hmk
          (repeat' (first | (go_big_may; fail) | go_values | go_skip | go_guarded | go_step | go_upon | go_back | dsimp only))
          go_ret
          exact ⟨rfl, HBW.out⟩
end Go.Proofs.Ytgahkodbjokgfaa
