/- record.Writer: what its calls do, walked. · record.Writer: Put, Close walked. · record.Writer: Close walked; Open walked. · record.Open walked. · record.Reader: From, more walked. · record.Reader: Next walked. · A reader over any sealed run tells the text's records and then its fault: no program in sight. · A sealed run stays as it is: no program in sight. · A writer's run stays open until the writer seals it: no program in sight. · What a writer puts into a store of its own and a reader tells: no program in sight. -/
import Derived.Test.YtgeabmmicofanaaGreatDoorBuSpLaw19
import Derived.Test.YtgeabmmicofanaaGreatDoorBuSpLaw07
import Derived.Test.YtgeabmmicofanaaGreatDoorBuSpLaw03
import Derived.Test.YtgeabmmicofanaaGreatDoorBuSpLaw22
import Derived.Deep.RegionHeld3
set_option linter.unusedSimpArgs false
set_option linter.unusedVariables false
namespace Go.Proofs.YtgeabmmicofanaaGreatDoor
open Go.RowKit

/-- A writer. -/
structure WrD where
  run : Nat
  block : Nat
  buf : List UInt8
  dead : Nat
abbrev wrCells (b : Nat) (ef : Nat → Nat × Nat) (x : WrD) : Array Value := #[.pointer (some ⟨b, 0, none⟩), .int .i64 x.run, .int .i64 x.block, .string ⟨x.buf.toArray⟩, errV ef x.dead]
theorem cell_at {w : World} {k : Nat} {cs : Array Value} {T : TypeId} (h : w.heap[k]? = some (.cells cs T (0, 0))) (i : Nat) : w.cell? ⟨k, i, none⟩ = cs[i]? := by simp [World.cell?, h]
theorem thaw_at {w : World} {k : Nat} {cs : Array Value} {T : TypeId} (h : w.heap[k]? = some (.cells cs T (0, 0))) (i : Nat) : w.frozen? ⟨k, i, none⟩ = false := by simp [World.frozen?, h]
structure WrFacts (w : World) (k b : Nat) (ef : Nat → Nat × Nat) (x : WrD) : Prop where
  c0 : w.cell? ⟨k, 0, none⟩ = some (.pointer (some ⟨b, 0, none⟩))
  c1 : w.cell? ⟨k, 1, none⟩ = some (.int .i64 x.run)
  c2 : w.cell? ⟨k, 2, none⟩ = some (.int .i64 x.block)
  c3 : w.cell? ⟨k, 3, none⟩ = some (.string ⟨x.buf.toArray⟩)
  c4 : w.cell? ⟨k, 4, none⟩ = some (errV ef x.dead)
  fz : ∀ j, w.frozen? ⟨k, j, none⟩ = false
  lt : k < w.heap.size
theorem fails10_all {W : World} {ef : Nat → Nat × Nat} (h : Fails W ef fails10) : Fails W ef failsAll := h.less (by decide)
theorem fails10_7 {W : World} {ef : Nat → Nat × Nat} (h : Fails W ef fails10) : Fails W ef fails7 := h.less (by decide)

/-- What flush does. -/
def flushP (S : St) (x : WrD) (n : Nat) : St × WrD × Nat :=
  if (appendP S x.run (x.buf.take n)).2 = 0 then ((appendP S x.run (x.buf.take n)).1, { x with buf := x.buf.drop n }, 0)
  else ((appendP S x.run (x.buf.take n)).1, { x with dead := (appendP S x.run (x.buf.take n)).2 }, (appendP S x.run (x.buf.take n)).2)
theorem run_neq_iface_nil2 (a : Addr) (wz : World) : (binOp .neq tErr (.iface tES (.pointer (some a))) .nilIface).run Tryz.prog wz = .ok (.bool true) wz := run_neq_iface_nil wz _ _ Tryz.underlying58
theorem cat_one (t : List UInt8) : cat [t] = t := by simp [cat]
theorem ex_drop (t : List UInt8) (n : Nat) : (⟨t.toArray⟩ : ByteArray).extract n t.length = ⟨(t.drop n).toArray⟩ := by
  rw [Lib.extract_eq]
  congr 2
  rw [List.take_of_length_le]
  simp

end Go.Proofs.YtgeabmmicofanaaGreatDoor
namespace Go.Proofs.YtgeabmmicofanaaGreatDoor
open Go.RowKit

def bufLen (w : World) (k : Nat) : Nat := match w.cell? ⟨k, 3, none⟩ with | some (.string s) => s.size | _ => 0
/-- The blocks that are whole are flushed. -/
def putL : Nat → St → WrD → St × WrD × Nat
  | 0, S, x => (S, x, 0)
  | n + 1, S, x => if x.block ≤ x.buf.length then (if (flushP S x x.block).2.2 = 0 then putL n (flushP S x x.block).1 (flushP S x x.block).2.1 else flushP S x x.block) else (S, x, 0)
def putP (S : St) (x : WrD) (recs : List (List UInt8)) : St × WrD × Nat :=
  if x.dead ≠ 0 then (S, x, x.dead) else if fits recs = false then (S, x, 10) else putL ((x.buf ++ frameL recs).length + 1) S { x with buf := x.buf ++ frameL recs }
/-- What stays true of a store whose writer works. -/
structure Inv (I : St → Prop) : Prop where
  le : ∀ S, I S → ∀ (z : Int) p, S.find z = some p → p.2.text.length ≤ S.used
  app : ∀ S (z : Int) t, I S → I (appendP S z t).1
end Go.Proofs.YtgeabmmicofanaaGreatDoor
namespace Go.Proofs.YtgeabmmicofanaaGreatDoor
open Go.RowKit

/-- The buffer's rest is flushed. -/
def restP (S : St) (x : WrD) : St × WrD × Nat := if x.buf = [] then (S, x, 0) else flushP S x x.buf.length
def closeP (S : St) (x : WrD) : St × WrD × Nat × Nat :=
  if x.dead ≠ 0 then (S, x, 0, x.dead) else
  if (restP S x).2.2 ≠ 0 then ((restP S x).1, (restP S x).2.1, 0, (restP S x).2.2) else
  if (sealP (restP S x).1 (restP S x).2.1.run).2 ≠ 0 then ((sealP (restP S x).1 (restP S x).2.1.run).1, { (restP S x).2.1 with dead := (sealP (restP S x).1 (restP S x).2.1.run).2 }, 0, (sealP (restP S x).1 (restP S x).2.1.run).2)
  else ((sealP (restP S x).1 (restP S x).2.1.run).1, { (restP S x).2.1 with dead := 13 }, (restP S x).2.1.run, 0)
end Go.Proofs.YtgeabmmicofanaaGreatDoor
namespace Go.Proofs.YtgeabmmicofanaaGreatDoor
open Go.RowKit

section
variable {W w : World} {R : Thing} {b : Nat} {ef : Nat → Nat × Nat} {S : St}
end
end Go.Proofs.YtgeabmmicofanaaGreatDoor
namespace Go.Proofs.YtgeabmmicofanaaGreatDoor
open Go.RowKit

/-- A reader. -/
structure RdD where
  run : Nat
  block : Nat
  pos : Nat
  fin : Nat
  buf : List UInt8
  dead : Nat
abbrev tRd : TypeId := 129
abbrev rdCells (b : Nat) (ef : Nat → Nat × Nat) (x : RdD) : Array Value := #[.pointer (some ⟨b, 0, none⟩), .int .i64 x.run, .int .i64 x.block, .int .i64 x.pos, .int .i64 x.fin, .string ⟨x.buf.toArray⟩, errV ef x.dead]
def RdT (k b : Nat) (ef : Nat → Nat × Nat) (x : RdD) : Thing := CellT k (rdCells b ef x) tRd
theorem RdT.stable (k b : Nat) (ef : Nat → Nat × Nat) (x : RdD) : Stable (RdT k b ef x) := CellT.stable _ _ _
structure RdFacts (w : World) (k b : Nat) (ef : Nat → Nat × Nat) (x : RdD) : Prop where
  c0 : w.cell? ⟨k, 0, none⟩ = some (.pointer (some ⟨b, 0, none⟩))
  c1 : w.cell? ⟨k, 1, none⟩ = some (.int .i64 x.run)
  c2 : w.cell? ⟨k, 2, none⟩ = some (.int .i64 x.block)
  c3 : w.cell? ⟨k, 3, none⟩ = some (.int .i64 x.pos)
  c4 : w.cell? ⟨k, 4, none⟩ = some (.int .i64 x.fin)
  c5 : w.cell? ⟨k, 5, none⟩ = some (.string ⟨x.buf.toArray⟩)
  c6 : w.cell? ⟨k, 6, none⟩ = some (errV ef x.dead)
  fz : ∀ j, w.frozen? ⟨k, j, none⟩ = false
  lt : k < w.heap.size
theorem At.rd {W w : World} {R : Thing} {k b : Nat} {ef : Nat → Nat × Nat} {x : RdD} (h : At W w (Both (RdT k b ef x) R)) : RdFacts w k b ef x := by
  have h1 := (show At W w (Both (CellT k (rdCells b ef x) tRd) R) from h).cell.1
  exact ⟨cell_at h1 0, cell_at h1 1, cell_at h1 2, cell_at h1 3, cell_at h1 4, cell_at h1 5, cell_at h1 6, thaw_at h1, lt_of_heap h1⟩
theorem At.rdBuf {W w : World} {R : Thing} {k b : Nat} {ef : Nat → Nat × Nat} {x : RdD} (h : At W w (Both (RdT k b ef x) R)) (hR : Stable R) (t : List UInt8) : At W (w.setCell ⟨k, 5, none⟩ (.string ⟨t.toArray⟩)) (Both (RdT k b ef { x with buf := t }) R) :=
  (show At W w (Both (CellT k (rdCells b ef x) tRd) R) from h).setCell hR 5 (.string ⟨t.toArray⟩)
theorem At.rdPos {W w : World} {R : Thing} {k b : Nat} {ef : Nat → Nat × Nat} {x : RdD} (h : At W w (Both (RdT k b ef x) R)) (hR : Stable R) (n : Nat) : At W (w.setCell ⟨k, 3, none⟩ (.int .i64 (n : Int))) (Both (RdT k b ef { x with pos := n }) R) :=
  (show At W w (Both (CellT k (rdCells b ef x) tRd) R) from h).setCell hR 3 (.int .i64 (n : Int))
theorem At.rdDead {W w : World} {R : Thing} {k b : Nat} {ef : Nat → Nat × Nat} {x : RdD} (h : At W w (Both (RdT k b ef x) R)) (hR : Stable R) (c : Nat) : At W (w.setCell ⟨k, 6, none⟩ (errV ef c)) (Both (RdT k b ef { x with dead := c }) R) :=
  (show At W w (Both (CellT k (rdCells b ef x) tRd) R) from h).setCell hR 6 (errV ef c)

section
variable {W w : World} {R : Thing} {k b : Nat} {ef : Nat → Nat × Nat} {S : St}
set_option maxRecDepth 100000 in
set_option maxHeartbeats 1600000 in
theorem From_ok (h : At W w (Both (StoreT b S) R)) (hR : Stable R) (hF : Fails W ef fails10) {n r : Nat} (hn : 1 ≤ n ∧ n ≤ 4096) (hr : inI64 r) (hc : readC S r 0 0 = 0) (hz : sizeC S r = 0) :
    Calls Tryz.prog 54 #[.pointer (some ⟨b, 0, none⟩), .int .i64 r, .int .i64 n] w fun e w' => ∃ k, e = .returned (.tuple #[.pointer (some ⟨k, 0, none⟩), .nilIface]) ∧ At W w' (Both (RdT k b ef ⟨r, n, 0, sizeN S r, [], 0⟩) (Both (StoreT b S) R)) := by
  have hrd := Read_at h hR (fails10_all hF) hr (a := 0) (n := 0) (by unfold inI64; omega) (by unfold inI64; omega)
  rw [hc, errV_zero] at hrd
  have hsz := fun (w' : World) (h' : At W w' (Both (StoreT b S) R)) => Size_at h' hR (fails10_all hF) hr
  rw [hz, errV_zero] at hsz
  have HRD := Lib.hid hrd
  have HSZ := Lib.hid hsz
  have neqn : ∀ wz : World, (binOp .neq tErr .nilIface .nilIface).run Tryz.prog wz = .ok (.bool false) wz := fun wz => neq_nil wz
  have h1 : ¬ (n : Int) < 1 := by omega
  have h2 : ¬ 4096 < (n : Int) := by omega
  generalize sizeN S r = sz at *
  have HST := Lib.hid ((StoreT.stable b S).both hR)
  clear h hR hF hc hrd hsz hn hz
  go_enter Tryz.func54, Tryz.ntmps54
  (repeat' (first | (go_big_may; fail) | go_values | go_skip | go_guarded | go_step | go_upon | go_back | dsimp only))
  refine HRD.out.mono ?_
  rintro e w1 ⟨rfl, h1⟩
  have H1 := Lib.hid h1
  clear h1
  (repeat' (first | (go_big_may; fail) | go_values | go_skip | go_guarded | go_step | go_upon | go_back | dsimp only))
  refine (HSZ.out _ H1.out).mono ?_
  rintro e w2 ⟨rfl, h2⟩
  have hnew := h2.newCell HST.out (rdCells b ef ⟨r, n, 0, sz, [], 0⟩) tRd
  simp only [rdCells] at hnew
  rw [errV_zero] at hnew
  have HN := Lib.hid hnew
  clear h2 hnew
  (repeat' (first | (go_big_may; fail) | go_values | go_skip | go_guarded | go_step | go_upon | go_back | dsimp only))
  go_ret2
  exact ⟨_, rfl, HN.out⟩

/-- A block more. -/
def moreP (S : St) (x : RdD) : RdD × Bool :=
  if min x.block (x.fin - x.pos) = 0 ∨ readC S x.run x.pos (min x.block (x.fin - x.pos) : Nat) ≠ 0 then (x, false)
  else ({ x with buf := x.buf ++ readT S x.run x.pos (min x.block (x.fin - x.pos) : Nat), pos := x.pos + min x.block (x.fin - x.pos) }, true)
set_option maxRecDepth 100000 in
set_option maxHeartbeats 3200000 in
theorem more_at {x : RdD} (h : At W w (Both (RdT k b ef x) (Both (StoreT b S) R))) (hR : Stable R) (hF : Fails W ef fails10) (hr : inI64 x.run) (hp : x.pos ≤ x.fin) (hf : x.fin ≤ 1099511627776) (hl : x.buf.length ≤ 1099511627776)
    (ht : (readT S x.run x.pos (min x.block (x.fin - x.pos) : Nat)).length ≤ 1099511627776) :
    Calls Tryz.prog 75 #[.pointer (some ⟨k, 0, none⟩)] w fun e w' => e = .returned (.bool (moreP S x).2) ∧ At W w' (Both (RdT k b ef (moreP S x).1) (Both (StoreT b S) R)) := by
  obtain ⟨c0, c1, c2, c3, c4, c5, _, fz, hlt⟩ := h.rd
  have hst : Stable (Both (RdT k b ef x) (Both (StoreT b S) R)) := (RdT.stable _ _ _ _).both ((StoreT.stable _ _).both hR)
  obtain ⟨m, hm⟩ : ∃ m : Nat, m = min x.block (x.fin - x.pos) := ⟨_, rfl⟩
  have hmi : min (x.block : Int) ((x.fin : Int) - x.pos) = (m : Int) := by rw [hm]; omega
  have hws : IntKind.i64.wrap ((x.fin : Int) - x.pos) = (x.fin : Int) - x.pos := by rw [IntKind.wrap_i64] <;> omega
  have HST := Lib.hid hst
  have H := Lib.hid h
  have HMI := Lib.hid hmi
  have HR := Lib.hid hR
  have hml : m ≤ x.fin - x.pos := by rw [hm]; omega
  obtain ⟨res, hres⟩ : ∃ res, res = moreP S x := ⟨_, rfl⟩
  rw [← hres]
  unfold moreP at hres
  rw [← hm] at hres ht
  have hrd := fun (w1 : World) (h1 : At W w1 (Both (RdT k b ef x) (Both (StoreT b S) R))) => Read_at h1.swap ((RdT.stable _ _ _ _).both hR) (fails10_all hF) hr (a := (x.pos : Int)) (n := (m : Int)) (by unfold inI64; omega) (by unfold inI64; omega)
  have HRD := Lib.hid hrd
  have HHM := Lib.hid hm
  clear h hst hmi hrd hm hF
  go_enter Tryz.func75, Tryz.ntmps75
  (repeat' (first | (go_big_may; fail) | go_values | go_skip | go_guarded | go_step | go_upon | go_back | dsimp only))
  go_quiet (fail)
  (repeat' (first | (go_big_may; fail) | go_values | go_skip | go_guarded | go_step | go_upon | go_back | dsimp only))
  rw [HMI.out]
  have HA := Lib.hid (fun n => H.out.mono HST.out (below_dW w n))
  generalize hw1 : w.drewN _ = w1
  have h1 : At W w1 (Both (RdT k b ef x) (Both (StoreT b S) R)) := by rw [← hw1]; exact HA.out _
  have H1 := Lib.hid h1
  clear c0 c1 c2 c3 c4 c5 fz hlt HA hw1 HMI
  obtain ⟨c0, c1, _, c3, _, _, _, _, hlt⟩ := H1.out.rd
  have hcg := And.intro c0 (And.intro c1 c3)
  have hrd := HRD.out _ (H1.out.mono HST.out ((Below.refl _ _).drew))
  have HX := Lib.hid hrd
  clear hrd h1
  by_cases hc : readC S x.run x.pos m = 0
  · have hx := HX.out
    rw [hc, errV_zero] at hx
    have HX2 := Lib.hid hx
    have neqn : ∀ wz : World, (binOp .neq tErr .nilIface .nilIface).run Tryz.prog wz = .ok (.bool false) wz := fun wz => neq_nil wz
    clear hx HX
    go_region_held3 (fun wx => wx.cell? ⟨k, 0, none⟩ = some (.pointer (some ⟨b, 0, none⟩)) ∧ wx.cell? ⟨k, 1, none⟩ = some (.int .i64 x.run) ∧ wx.cell? ⟨k, 3, none⟩ = some (.int .i64 x.pos)) (first | assumption | go_keep) (((with_reducible refine Calls.mono HX2.out ?_); rintro e w3 ⟨rfl, h4⟩; have H4 := Lib.hid h4.swap; have cg4 := And.intro h4.swap.rd.c0 (And.intro h4.swap.rd.c1 h4.swap.rd.c3); have hl4 := h4.swap.rd.lt; clear h4))
    all_goals
      clear hcg cg4 c0 c1 c3
      by_cases hm0 : m = 0
      · rw [if_pos (.inl hm0)] at hres
        have HRES := Lib.hid hres
        have hmb : ((m : Int) == 0) = true := by rw [hm0]; rfl
        clear hres hm0
        (repeat' (first | (go_big_may; fail) | go_values | go_skip | go_guarded | go_step | go_upon | go_back | dsimp only))
        go_ret
        rw [HRES.out]
        exact ⟨rfl, H4.out⟩
      · rw [if_neg (by simp [hm0, hc])] at hres
        have HRES := Lib.hid hres
        have hmb : ((m : Int) == 0) = false := by
          have : ¬ (m : Int) = 0 := by omega
          simpa using this
        generalize readT S x.run x.pos m = t at *
        obtain ⟨_, _, _, d3, _, d5, _, dz, dl⟩ := H4.out.rd
        have hcat : (⟨x.buf.toArray⟩ : ByteArray) ++ ⟨t.toArray⟩ = ⟨(x.buf ++ t).toArray⟩ := by
          apply ByteArray.ext
          simp [ByteArray.data_append]
        have hsum : ¬ 9223372036854775807 < x.buf.length + t.length := by omega
        have hwp : IntKind.i64.wrap ((x.pos : Int) + m) = (x.pos : Int) + m := by rw [IntKind.wrap_i64] <;> omega
        have hend := (H4.out.rdBuf ((StoreT.stable _ _).both HR.out) (x.buf ++ t)).rdPos ((StoreT.stable _ _).both HR.out) (x.pos + m)
        have e1 : ((x.pos + m : Nat) : Int) = (x.pos : Int) + m := by omega
        rw [e1] at hend
        have HEND := Lib.hid hend
        clear hres hm0 hend H4 e1
        (repeat' (first | (go_big_may; fail) | go_values | go_skip | go_guarded | go_step | go_upon | go_back | dsimp only))
        go_ret
        rw [HRES.out]
        exact ⟨rfl, HEND.out⟩
  · have hx := HX.out
    rw [errV_pos ef hc] at hx
    rw [if_pos (.inr hc)] at hres
    have neqi := run_neq_iface_nil2 ⟨(ef (readC S x.run x.pos m)).1, (ef (readC S x.run x.pos m)).2, none⟩
    generalize readC S x.run x.pos m = c at *
    have HX2 := Lib.hid hx
    have HRES := Lib.hid hres
    clear hx HX hc hres
    go_region_held3 (fun wx => wx.cell? ⟨k, 0, none⟩ = some (.pointer (some ⟨b, 0, none⟩)) ∧ wx.cell? ⟨k, 1, none⟩ = some (.int .i64 x.run) ∧ wx.cell? ⟨k, 3, none⟩ = some (.int .i64 x.pos)) (first | assumption | go_keep) (((with_reducible refine Calls.mono HX2.out ?_); rintro e w3 ⟨rfl, h4⟩; have H4 := Lib.hid h4.swap; have cg4 := And.intro h4.swap.rd.c0 (And.intro h4.swap.rd.c1 h4.swap.rd.c3); have hl4 := h4.swap.rd.lt; clear h4))
    all_goals
      clear hcg cg4 c0 c1 c3
      by_cases hm0 : m = 0
      · have hmb : ((m : Int) == 0) = true := by rw [hm0]; rfl
        clear hm0
        (repeat' (first | (go_big_may; fail) | go_values | go_skip | go_guarded | go_step | go_upon | go_back | dsimp only))
        go_ret
        rw [HRES.out]
        exact ⟨rfl, H4.out⟩
      · have hmb : ((m : Int) == 0) = false := by
          have : ¬ (m : Int) = 0 := by omega
          simpa using this
        clear hm0
        (repeat' (first | (go_big_may; fail) | go_values | go_skip | go_guarded | go_step | go_upon | go_back | dsimp only))
        go_ret
        rw [HRES.out]
        exact ⟨rfl, H4.out⟩
end
end Go.Proofs.YtgeabmmicofanaaGreatDoor
namespace Go.Proofs.YtgeabmmicofanaaGreatDoor
open Go.RowKit

/-- What Next does with a buffer that holds something. -/
def nextS (S : St) (y : RdD) (go : RdD → RdD × List UInt8 × Bool × Nat) : RdD × List UInt8 × Bool × Nat :=
  if (nextAt y.buf 0).2.2 = 0 then ({ y with buf := y.buf.drop (nextAt y.buf 0).2.1.toNat }, (nextAt y.buf 0).1, true, 0) else
  if (nextAt y.buf 0).2.2 ≠ 60 ∨ (moreP S y).2 = false then ({ y with dead := 11 }, [], false, 11) else go (moreP S y).1
theorem nextS_of {S : St} {y : RdD} {go : RdD → RdD × List UInt8 × Bool × Nat} {rec : List UInt8} {nn : Int} {ee : Nat} (h : nextAt y.buf 0 = (rec, nn, ee)) :
    nextS S y go = if ee = 0 then ({ y with buf := y.buf.drop nn.toNat }, rec, true, 0) else if ee ≠ 60 ∨ (moreP S y).2 = false then ({ y with dead := 11 }, [], false, 11) else go (moreP S y).1 := by
  unfold nextS
  rw [h]
/-- A record more, of n rounds at most. -/
def nextL : Nat → St → RdD → RdD × List UInt8 × Bool × Nat
  | 0, _, x => (x, [], false, x.dead)
  | n + 1, S, x =>
    if x.dead ≠ 0 then (x, [], false, x.dead) else
    if x.buf = [] ∧ (moreP S x).2 = false then (x, [], false, 0) else
    nextS S (if x.buf = [] then (moreP S x).1 else x) (nextL n S)
theorem moreP_fst {S : St} {x : RdD} (h : (moreP S x).2 = false) : (moreP S x).1 = x := by
  unfold moreP at h ⊢
  split
  · rfl
  · rename_i hn
    rw [if_neg hn] at h; cases h
theorem moreP_grows {S : St} {x : RdD} (h : (moreP S x).2 = true) : x.pos < (moreP S x).1.pos ∧ (moreP S x).1.fin = x.fin ∧ (moreP S x).1.run = x.run ∧ (moreP S x).1.block = x.block ∧ (moreP S x).1.dead = x.dead ∧ ((x.pos ≤ x.fin) → (moreP S x).1.pos ≤ x.fin) ∧ ∃ m, (moreP S x).1.buf = x.buf ++ readT S x.run x.pos (m : Nat) ∧ m ≤ x.fin - x.pos ∧ (moreP S x).1.pos = x.pos + m := by
  unfold moreP at h ⊢
  by_cases hn : min x.block (x.fin - x.pos) = 0 ∨ readC S x.run x.pos (min x.block (x.fin - x.pos) : Nat) ≠ 0
  · rw [if_pos hn] at h; cases h
  · rw [if_neg hn]
    have h1 : ¬ min x.block (x.fin - x.pos) = 0 := fun e => hn (.inl e)
    dsimp only
    refine ⟨by omega, rfl, rfl, rfl, rfl, fun _ => by omega, _, rfl, by omega, rfl⟩
/-- How much is left, and whether it works. -/
def rdLeft (w : World) (k : Nat) : Nat :=
  (match w.cell? ⟨k, 3, none⟩, w.cell? ⟨k, 4, none⟩ with | some a, some b => (intOf b - intOf a).toNat * 2 | _, _ => 0) + (match w.cell? ⟨k, 6, none⟩ with | some .nilIface => 1 | _ => 0)
theorem readT_len {S : St} {z a n : Int} : (readT S z a n).length ≤ n.toNat := by
  unfold readT
  split
  · simp
  · split
    · simp
    · split
      · simp
      · simp only [List.length_take]; omega

set_option maxRecDepth 100000 in
set_option maxHeartbeats 6400000 in
theorem Next_at {W w : World} {R : Thing} {k b : Nat} {ef : Nat → Nat × Nat} {S : St} {x : RdD} (h : At W w (Both (RdT k b ef x) (Both (StoreT b S) R))) (hR : Stable R) (hF : Fails W ef fails10) (hr : inI64 x.run) (hp : x.pos ≤ x.fin) (hf : x.fin ≤ 1099511627776) (hl : x.buf.length ≤ x.pos) :
    Calls Tryz.prog 56 #[.pointer (some ⟨k, 0, none⟩)] w fun e w' => e = .returned (.tuple #[.string ⟨(nextL (x.fin - x.pos + 1) S x).2.1.toArray⟩, .bool (nextL (x.fin - x.pos + 1) S x).2.2.1, errV ef (nextL (x.fin - x.pos + 1) S x).2.2.2]) ∧ At W w' (Both (RdT k b ef (nextL (x.fin - x.pos + 1) S x).1) (Both (StoreT b S) R)) := by
  obtain ⟨res, hres⟩ : ∃ res, res = nextL (x.fin - x.pos + 1) S x := ⟨_, rfl⟩
  rw [← hres]
  have HF := Lib.hid hF
  have HR := Lib.hid hR
  have H := Lib.hid h
  have HRES := Lib.hid hres
  have HP := Lib.hid (And.intro hr (And.intro hp (And.intro hf hl)))
  have hgl : ∀ w' x', At W w' (Both (RdT k b ef x') (Both (StoreT b S) R)) → w'.cell? ⟨7, 0, none⟩ = some (.iface tES (.pointer (some ⟨(ef 11).1, (ef 11).2, none⟩))) := fun w' x' h' => (HF.out.below h'.below).cell (11, 7) (by decide)
  have HGL := Lib.hid hgl
  have eqln : ∀ wz : World, (binOp .eql tErr .nilIface .nilIface).run Tryz.prog wz = .ok (.bool true) wz := fun wz => eql_nil wz
  clear h hres hR hF hr hp hf hl hgl
  go_enter Tryz.func56, Tryz.ntmps56
  (repeat' (first | (go_big_may; fail) | go_values | go_skip | go_guarded | go_step | go_upon | go_back | dsimp only))
  go_loopw [] (fun wr => ∃ (n : Nat) (y : RdD), y.fin - y.pos < n ∧ y.pos ≤ y.fin ∧ y.fin ≤ 1099511627776 ∧ y.buf.length ≤ y.pos ∧ y.run = x.run ∧ res = nextL n S y ∧ At W wr (Both (RdT k b ef y) (Both (StoreT b S) R))) (fun wr => rdLeft wr k)
  case atStart => exact ⟨_, x, Nat.lt_succ_self _, HP.out.2.1, HP.out.2.2.1, HP.out.2.2.2, rfl, HRES.out, H.out⟩
  case round =>
    obtain ⟨n, y, hn, hp, hf, hl, hrn, hr1, h1⟩ := hrel
    have H1 := Lib.hid h1
    have HRN := Lib.hid hrn
    have HR1 := Lib.hid hr1
    clear h1 hrn hr1 H HRES
    obtain ⟨n, rfl⟩ : ∃ m, n = m + 1 := ⟨n - 1, by omega⟩
    by_cases hd : y.dead = 0
    · have HMW := Lib.hid (show rdLeft wr k = (y.fin - y.pos) * 2 + 1 by
        have f := H1.out.rd
        unfold rdLeft
        rw [f.c3, f.c4, f.c6, hd, errV_zero]
        simp [intOf] <;> omega)
      have c6 := H1.out.rd.c6
      have c5 := H1.out.rd.c5
      rw [hd, errV_zero] at c6
      have hr1 := HR1.out
      unfold nextL at hr1
      rw [if_neg (by simpa using hd)] at hr1
      by_cases hb0 : y.buf = []
      · have hmo := more_at H1.out HR.out HF.out (by rw [HRN.out]; exact HP.out.1) hp hf (by omega) (by have h1 := readT_len (S := S) (z := y.run) (a := y.pos) (n := (min y.block (y.fin - y.pos) : Nat)); omega)
        rw [hb0] at c5
        by_cases hmb : (moreP S y).2 = false
        · rw [if_pos ⟨hb0, hmb⟩] at hr1
          rw [hmb, moreP_fst hmb] at hmo
          have HMO := Lib.hid hmo
          have HR2 := Lib.hid hr1
          have hlt := H1.out.rd.lt
          clear hr1 hb0 hd HR1 HRN hmo hmb
          (repeat' (first | (go_big_may; fail) | go_values | go_skip | go_guarded | go_step | go_upon | go_back | dsimp only))
          refine HMO.out.mono ?_
          rintro e w3 ⟨rfl, h3⟩
          have H3 := Lib.hid h3
          clear h3
          (repeat' (first | (go_big_may; fail) | go_values | go_skip | go_guarded | go_step | go_upon | go_back | dsimp only))
          go_ret3
          rw [HR2.out]
          dsimp only
          rw [errV_zero]
          exact ⟨rfl, H3.out⟩
        · have hmt : (moreP S y).2 = true := by simpa using hmb
          obtain ⟨g1, g2, g3, _, g5, g6, m, g7, g8, g9⟩ := moreP_grows hmt
          rw [if_neg (fun h => hmb h.2), if_pos hb0] at hr1
          rw [hmt] at hmo
          have hq := readT_len (S := S) (z := y.run) (a := y.pos) (n := (m : Nat))
          have HPY := Lib.hid (show (moreP S y).1.pos ≤ (moreP S y).1.fin ∧ (moreP S y).1.fin ≤ 1099511627776 ∧ (moreP S y).1.buf.length ≤ (moreP S y).1.pos ∧ (moreP S y).1.run = x.run ∧ (moreP S y).1.fin - (moreP S y).1.pos < n + 1 ∧ (moreP S y).1.dead = 0 by
            have h3 := g6 hp
            rw [g7, List.length_append, g3, g5]
            refine ⟨by omega, by omega, by omega, HRN.out, by omega, hd⟩)
          have HLE := Lib.hid (show (moreP S y).1.fin - (moreP S y).1.pos ≤ y.fin - y.pos by omega)
          have HMO := Lib.hid hmo
          have HR2 := Lib.hid hr1
          have hlt := H1.out.rd.lt
          generalize (moreP S y).1 = y1 at *
          clear hr1 hb0 hd HR1 HRN hmo hmb hmt g1 g2 g3 g5 g6 g7 g8 g9 hq
          (repeat' (first | (go_big_may; fail) | go_values | go_skip | go_guarded | go_step | go_upon | go_back | dsimp only))
          refine HMO.out.mono ?_
          rintro e w3 ⟨rfl, h3⟩
          have H3 := Lib.hid h3
          clear h3 c5 c6 hlt HMO
          obtain ⟨_, _, _, _, _, d5, d6, dz, dl⟩ := H3.out.rd
          rw [HPY.out.2.2.2.2.2, errV_zero] at d6
          have hnx := fun (w' : World) => next_calls ⟨y1.buf.toArray⟩ 0 w' (by have := HPY.out; simp [ByteArray.size]; omega)
          have hok := nextAt_ok (l := y1.buf) (a := 0)
          have hr2 := HR2.out
          obtain ⟨rec, nn, ee, hNX⟩ : ∃ rec nn ee, nextAt y1.buf 0 = (rec, nn, ee) := ⟨_, _, _, rfl⟩
          rw [nextS_of hNX] at hr2
          rw [hNX] at hok
          dsimp only at hok
          simp only [hNX] at hnx
          have HNX := Lib.hid hnx
          clear hnx hNX
          by_cases hee : ee = 0
          · obtain ⟨_, hn1, hn2, _⟩ := hok hee
            rw [if_pos hee] at hr2
            subst hee
            obtain ⟨q, rfl⟩ := Int.eq_ofNat_of_zero_le (show 0 ≤ nn by omega)
            have hql : q ≤ y1.buf.length := by omega
            have hql2 : (q : Int) ≤ (y1.buf.length : Int) := by omega
            have hex := ex_drop y1.buf q
            have hend := H3.out.rdBuf ((StoreT.stable _ _).both HR.out) (y1.buf.drop q)
            have HEND := Lib.hid hend
            have HR3 := Lib.hid hr2
            clear hend hr2 hok hn1 hn2
            (repeat' (first | (go_big_may; fail) | go_values | go_skip | go_guarded | go_step | go_upon | go_back | dsimp only))
            refine (HNX.out _).mono ?_
            rintro e w5 ⟨rfl, rfl⟩
            (repeat' (first | (go_big_may; fail) | go_values | go_skip | go_guarded | go_step | go_upon | go_back | dsimp only))
            go_ret3
            rw [HR3.out]
            dsimp only
            rw [errV_zero]
            exact ⟨rfl, HEND.out⟩
          · rw [if_neg hee] at hr2
            have heb : ((ee : Int) == 0) = false := by
              have : ¬ (ee : Int) = 0 := by omega
              simpa using this
            by_cases he60 : ee = 60
            · subst he60
              have hmo := fun (wq : World) (hq : At W wq (Both (RdT k b ef y1) (Both (StoreT b S) R))) => more_at hq HR.out HF.out (by rw [HPY.out.2.2.2.1]; exact HP.out.1) HPY.out.1 HPY.out.2.1 (by have := HPY.out; omega) (by have h1 := readT_len (S := S) (z := y1.run) (a := y1.pos) (n := (min y1.block (y1.fin - y1.pos) : Nat)); have h2 := HPY.out; omega)
              by_cases hmb : (moreP S y1).2 = false
              · rw [if_pos (.inr hmb)] at hr2
                rw [hmb, moreP_fst hmb] at hmo
                have HMO := Lib.hid hmo
                have HR3 := Lib.hid hr2
                clear hmo hr2 hmb hok
                (repeat' (first | (go_big_may; fail) | go_values | go_skip | go_guarded | go_step | go_upon | go_back | dsimp only))
                refine (HNX.out _).mono ?_
                rintro e w5 ⟨rfl, rfl⟩
                (repeat' (first | (go_big_may; fail) | go_values | go_skip | go_guarded | go_step | go_upon | go_back | dsimp only))
                refine (HMO.out _ H3.out).mono ?_
                rintro e w6 ⟨rfl, h6⟩
                have H6 := Lib.hid h6
                clear h6 d5 d6 dz dl HMO
                have hdead := H6.out.rdDead ((StoreT.stable _ _).both HR.out) 11
                rw [errV_pos ef (by decide)] at hdead
                have HDEAD := Lib.hid hdead
                have cg6 := HGL.out _ _ H6.out
                have HM6 := Lib.hid (show rdLeft (w6.setCell ⟨k, 6, none⟩ (.iface tES (.pointer (some ⟨(ef 11).1, (ef 11).2, none⟩)))) k = (y1.fin - y1.pos) * 2 by
                  have f := hdead.rd
                  unfold rdLeft
                  rw [f.c3, f.c4, f.c6]
                  dsimp only
                  rw [errV_pos ef (by decide)]
                  have := HPY.out.1
                  simp [intOf] <;> omega)
                obtain ⟨_, _, _, _, _, _, v6, vz, vl⟩ := H6.out.rd
                have hgk : ¬ 7 = k := fun e => by
                  have h1 := H6.out.rd.c0
                  rw [← e, cg6] at h1
                  cases h1
                obtain ⟨vd, v6⟩ : ∃ vd, w6.cell? ⟨k, 6, none⟩ = some vd := ⟨_, v6⟩
                clear hdead
                (repeat' (first | (go_big_may; fail) | go_values | go_skip | go_guarded | go_step | go_upon | go_back | dsimp only))
                go_roundw
                case rel => exact ⟨n + 1, { y1 with dead := 11 }, HPY.out.2.2.2.2.1, HPY.out.1, HPY.out.2.1, HPY.out.2.2.1, HPY.out.2.2.2.1, by unfold nextL; exact HR3.out.trans (if_pos (Nat.succ_ne_zero 10)).symm, HDEAD.out⟩
                case measure => rw [HM6.out, HMW.out]; have := HLE.out; omega
              · have hmt : (moreP S y1).2 = true := by simpa using hmb
                obtain ⟨g1, g2, g3, _, g5, g6, m, g7, g8, g9⟩ := moreP_grows hmt
                rw [if_neg (by simp [hmt])] at hr2
                rw [hmt] at hmo
                have hq := readT_len (S := S) (z := y1.run) (a := y1.pos) (n := (m : Nat))
                have HZ := Lib.hid (show (moreP S y1).1.fin - (moreP S y1).1.pos < n ∧ (moreP S y1).1.pos ≤ (moreP S y1).1.fin ∧ (moreP S y1).1.fin ≤ 1099511627776 ∧ (moreP S y1).1.buf.length ≤ (moreP S y1).1.pos ∧ (moreP S y1).1.run = x.run ∧ (moreP S y1).1.dead = 0 ∧ (moreP S y1).1.fin - (moreP S y1).1.pos < y1.fin - y1.pos by
                  have h2 := HPY.out
                  have h3 := g6 h2.1
                  rw [g7, List.length_append, g3, g5]
                  refine ⟨by omega, by omega, by omega, by omega, h2.2.2.2.1, h2.2.2.2.2.2, by omega⟩)
                have HMO := Lib.hid hmo
                have HR3 := Lib.hid hr2
                generalize (moreP S y1).1 = z at *
                clear hmo hr2 hmb hmt hok g1 g2 g3 g5 g6 g7 g8 g9 hq
                (repeat' (first | (go_big_may; fail) | go_values | go_skip | go_guarded | go_step | go_upon | go_back | dsimp only))
                refine (HNX.out _).mono ?_
                rintro e w5 ⟨rfl, rfl⟩
                (repeat' (first | (go_big_may; fail) | go_values | go_skip | go_guarded | go_step | go_upon | go_back | dsimp only))
                refine (HMO.out _ H3.out).mono ?_
                rintro e w6 ⟨rfl, h6⟩
                have H6 := Lib.hid h6
                have HM6 := Lib.hid (show rdLeft w6 k = (z.fin - z.pos) * 2 + 1 by
                  have f := h6.rd
                  unfold rdLeft
                  rw [f.c3, f.c4, f.c6, HZ.out.2.2.2.2.2.1, errV_zero]
                  have := HZ.out.2.1
                  simp [intOf] <;> omega)
                clear h6 d5 d6 dz dl HMO
                (repeat' (first | (go_big_may; fail) | go_values | go_skip | go_guarded | go_step | go_upon | go_back | dsimp only))
                go_roundw
                case rel => exact ⟨n, z, HZ.out.1, HZ.out.2.1, HZ.out.2.2.1, HZ.out.2.2.2.1, HZ.out.2.2.2.2.1, HR3.out, H6.out⟩
                case measure => rw [HM6.out, HMW.out]; have := HLE.out; have := HZ.out; omega
            · rw [if_pos (.inl he60)] at hr2
              have h60b : ((ee : Int) == 60) = false := by
                have : ¬ (ee : Int) = 60 := by omega
                simpa using this
              have HR3 := Lib.hid hr2
              have H6 := Lib.hid H3.out
              clear hr2 hok
              (repeat' (first | (go_big_may; fail) | go_values | go_skip | go_guarded | go_step | go_upon | go_back | dsimp only))
              refine (HNX.out _).mono ?_
              rintro e w6 ⟨rfl, rfl⟩
              clear d5 d6 dz dl
              have hdead := H6.out.rdDead ((StoreT.stable _ _).both HR.out) 11
              rw [errV_pos ef (by decide)] at hdead
              have HDEAD := Lib.hid hdead
              have cg6 := HGL.out _ _ H6.out
              have HM6 := Lib.hid (show rdLeft (w3.setCell ⟨k, 6, none⟩ (.iface tES (.pointer (some ⟨(ef 11).1, (ef 11).2, none⟩)))) k = (y1.fin - y1.pos) * 2 by
                have f := hdead.rd
                unfold rdLeft
                rw [f.c3, f.c4, f.c6]
                dsimp only
                rw [errV_pos ef (by decide)]
                have := HPY.out.1
                simp [intOf] <;> omega)
              obtain ⟨_, _, _, _, _, _, v6, vz, vl⟩ := H6.out.rd
              have hgk : ¬ 7 = k := fun e => by
                have h1 := H6.out.rd.c0
                rw [← e, cg6] at h1
                cases h1
              obtain ⟨vd, v6⟩ : ∃ vd, w3.cell? ⟨k, 6, none⟩ = some vd := ⟨_, v6⟩
              clear hdead
              (repeat' (first | (go_big_may; fail) | go_values | go_skip | go_guarded | go_step | go_upon | go_back | dsimp only))
              go_roundw
              case rel => exact ⟨n + 1, { y1 with dead := 11 }, HPY.out.2.2.2.2.1, HPY.out.1, HPY.out.2.1, HPY.out.2.2.1, HPY.out.2.2.2.1, by unfold nextL; exact HR3.out.trans (if_pos (Nat.succ_ne_zero 10)).symm, HDEAD.out⟩
              case measure => rw [HM6.out, HMW.out]; have := HLE.out; omega
      · rw [if_neg (fun h => hb0 h.1), if_neg hb0] at hr1
        have hne : y.buf.isEmpty = false := by simpa using hb0
        have HPY := Lib.hid (show y.pos ≤ y.fin ∧ y.fin ≤ 1099511627776 ∧ y.buf.length ≤ y.pos ∧ y.run = x.run ∧ y.fin - y.pos < n + 1 ∧ y.dead = 0 from ⟨hp, hf, hl, HRN.out, hn, hd⟩)
        have HLE := Lib.hid (show y.fin - y.pos ≤ y.fin - y.pos from Nat.le_refl _)
        have HR2 := Lib.hid hr1
        clear hr1 hb0 hd HR1 HRN
        obtain ⟨_, _, _, _, _, d5, d6, dz, dl⟩ := H1.out.rd
        rw [HPY.out.2.2.2.2.2, errV_zero] at d6
        have hnx := fun (w' : World) => next_calls ⟨y.buf.toArray⟩ 0 w' (by have := HPY.out; simp [ByteArray.size]; omega)
        have hok := nextAt_ok (l := y.buf) (a := 0)
        have hr2 := HR2.out
        obtain ⟨rec, nn, ee, hNX⟩ : ∃ rec nn ee, nextAt y.buf 0 = (rec, nn, ee) := ⟨_, _, _, rfl⟩
        rw [nextS_of hNX] at hr2
        rw [hNX] at hok
        dsimp only at hok
        simp only [hNX] at hnx
        have HNX := Lib.hid hnx
        clear hnx hNX
        by_cases hee : ee = 0
        · obtain ⟨_, hn1, hn2, _⟩ := hok hee
          rw [if_pos hee] at hr2
          subst hee
          obtain ⟨q, rfl⟩ := Int.eq_ofNat_of_zero_le (show 0 ≤ nn by omega)
          have hql : q ≤ y.buf.length := by omega
          have hql2 : (q : Int) ≤ (y.buf.length : Int) := by omega
          have hex := ex_drop y.buf q
          have hend := H1.out.rdBuf ((StoreT.stable _ _).both HR.out) (y.buf.drop q)
          have HEND := Lib.hid hend
          have HR3 := Lib.hid hr2
          clear hend hr2 hok hn1 hn2
          (repeat' (first | (go_big_may; fail) | go_values | go_skip | go_guarded | go_step | go_upon | go_back | dsimp only))
          refine (HNX.out _).mono ?_
          rintro e w5 ⟨rfl, rfl⟩
          (repeat' (first | (go_big_may; fail) | go_values | go_skip | go_guarded | go_step | go_upon | go_back | dsimp only))
          go_ret3
          rw [HR3.out]
          dsimp only
          rw [errV_zero]
          exact ⟨rfl, HEND.out⟩
        · rw [if_neg hee] at hr2
          have heb : ((ee : Int) == 0) = false := by
            have : ¬ (ee : Int) = 0 := by omega
            simpa using this
          by_cases he60 : ee = 60
          · subst he60
            have hmo := fun (wq : World) (hq : At W wq (Both (RdT k b ef y) (Both (StoreT b S) R))) => more_at hq HR.out HF.out (by rw [HPY.out.2.2.2.1]; exact HP.out.1) HPY.out.1 HPY.out.2.1 (by have := HPY.out; omega) (by have h1 := readT_len (S := S) (z := y.run) (a := y.pos) (n := (min y.block (y.fin - y.pos) : Nat)); have h2 := HPY.out; omega)
            by_cases hmb : (moreP S y).2 = false
            · rw [if_pos (.inr hmb)] at hr2
              rw [hmb, moreP_fst hmb] at hmo
              have HMO := Lib.hid hmo
              have HR3 := Lib.hid hr2
              clear hmo hr2 hmb hok
              (repeat' (first | (go_big_may; fail) | go_values | go_skip | go_guarded | go_step | go_upon | go_back | dsimp only))
              refine (HNX.out _).mono ?_
              rintro e w5 ⟨rfl, rfl⟩
              (repeat' (first | (go_big_may; fail) | go_values | go_skip | go_guarded | go_step | go_upon | go_back | dsimp only))
              refine (HMO.out _ H1.out).mono ?_
              rintro e w6 ⟨rfl, h6⟩
              have H6 := Lib.hid h6
              clear h6 d5 d6 dz dl HMO
              have hdead := H6.out.rdDead ((StoreT.stable _ _).both HR.out) 11
              rw [errV_pos ef (by decide)] at hdead
              have HDEAD := Lib.hid hdead
              have cg6 := HGL.out _ _ H6.out
              have HM6 := Lib.hid (show rdLeft (w6.setCell ⟨k, 6, none⟩ (.iface tES (.pointer (some ⟨(ef 11).1, (ef 11).2, none⟩)))) k = (y.fin - y.pos) * 2 by
                have f := hdead.rd
                unfold rdLeft
                rw [f.c3, f.c4, f.c6]
                dsimp only
                rw [errV_pos ef (by decide)]
                have := HPY.out.1
                simp [intOf] <;> omega)
              obtain ⟨_, _, _, _, _, _, v6, vz, vl⟩ := H6.out.rd
              have hgk : ¬ 7 = k := fun e => by
                have h1 := H6.out.rd.c0
                rw [← e, cg6] at h1
                cases h1
              obtain ⟨vd, v6⟩ : ∃ vd, w6.cell? ⟨k, 6, none⟩ = some vd := ⟨_, v6⟩
              clear hdead
              (repeat' (first | (go_big_may; fail) | go_values | go_skip | go_guarded | go_step | go_upon | go_back | dsimp only))
              go_roundw
              case rel => exact ⟨n + 1, { y with dead := 11 }, HPY.out.2.2.2.2.1, HPY.out.1, HPY.out.2.1, HPY.out.2.2.1, HPY.out.2.2.2.1, by unfold nextL; exact HR3.out.trans (if_pos (Nat.succ_ne_zero 10)).symm, HDEAD.out⟩
              case measure => rw [HM6.out, HMW.out]; have := HLE.out; omega
            · have hmt : (moreP S y).2 = true := by simpa using hmb
              obtain ⟨g1, g2, g3, _, g5, g6, m, g7, g8, g9⟩ := moreP_grows hmt
              rw [if_neg (by simp [hmt])] at hr2
              rw [hmt] at hmo
              have hq := readT_len (S := S) (z := y.run) (a := y.pos) (n := (m : Nat))
              have HZ := Lib.hid (show (moreP S y).1.fin - (moreP S y).1.pos < n ∧ (moreP S y).1.pos ≤ (moreP S y).1.fin ∧ (moreP S y).1.fin ≤ 1099511627776 ∧ (moreP S y).1.buf.length ≤ (moreP S y).1.pos ∧ (moreP S y).1.run = x.run ∧ (moreP S y).1.dead = 0 ∧ (moreP S y).1.fin - (moreP S y).1.pos < y.fin - y.pos by
                have h2 := HPY.out
                have h3 := g6 h2.1
                rw [g7, List.length_append, g3, g5]
                refine ⟨by omega, by omega, by omega, by omega, h2.2.2.2.1, h2.2.2.2.2.2, by omega⟩)
              have HMO := Lib.hid hmo
              have HR3 := Lib.hid hr2
              generalize (moreP S y).1 = z at *
              clear hmo hr2 hmb hmt hok g1 g2 g3 g5 g6 g7 g8 g9 hq
              (repeat' (first | (go_big_may; fail) | go_values | go_skip | go_guarded | go_step | go_upon | go_back | dsimp only))
              refine (HNX.out _).mono ?_
              rintro e w5 ⟨rfl, rfl⟩
              (repeat' (first | (go_big_may; fail) | go_values | go_skip | go_guarded | go_step | go_upon | go_back | dsimp only))
              refine (HMO.out _ H1.out).mono ?_
              rintro e w6 ⟨rfl, h6⟩
              have H6 := Lib.hid h6
              have HM6 := Lib.hid (show rdLeft w6 k = (z.fin - z.pos) * 2 + 1 by
                have f := h6.rd
                unfold rdLeft
                rw [f.c3, f.c4, f.c6, HZ.out.2.2.2.2.2.1, errV_zero]
                have := HZ.out.2.1
                simp [intOf] <;> omega)
              clear h6 d5 d6 dz dl HMO
              (repeat' (first | (go_big_may; fail) | go_values | go_skip | go_guarded | go_step | go_upon | go_back | dsimp only))
              go_roundw
              case rel => exact ⟨n, z, HZ.out.1, HZ.out.2.1, HZ.out.2.2.1, HZ.out.2.2.2.1, HZ.out.2.2.2.2.1, HR3.out, H6.out⟩
              case measure => rw [HM6.out, HMW.out]; have := HLE.out; have := HZ.out; omega
          · rw [if_pos (.inl he60)] at hr2
            have h60b : ((ee : Int) == 60) = false := by
              have : ¬ (ee : Int) = 60 := by omega
              simpa using this
            have HR3 := Lib.hid hr2
            have H6 := Lib.hid H1.out
            clear hr2 hok
            (repeat' (first | (go_big_may; fail) | go_values | go_skip | go_guarded | go_step | go_upon | go_back | dsimp only))
            refine (HNX.out _).mono ?_
            rintro e w6 ⟨rfl, rfl⟩
            clear d5 d6 dz dl
            have hdead := H6.out.rdDead ((StoreT.stable _ _).both HR.out) 11
            rw [errV_pos ef (by decide)] at hdead
            have HDEAD := Lib.hid hdead
            have cg6 := HGL.out _ _ H6.out
            have HM6 := Lib.hid (show rdLeft (wr.setCell ⟨k, 6, none⟩ (.iface tES (.pointer (some ⟨(ef 11).1, (ef 11).2, none⟩)))) k = (y.fin - y.pos) * 2 by
              have f := hdead.rd
              unfold rdLeft
              rw [f.c3, f.c4, f.c6]
              dsimp only
              rw [errV_pos ef (by decide)]
              have := HPY.out.1
              simp [intOf] <;> omega)
            obtain ⟨_, _, _, _, _, _, v6, vz, vl⟩ := H6.out.rd
            have hgk : ¬ 7 = k := fun e => by
              have h1 := H6.out.rd.c0
              rw [← e, cg6] at h1
              cases h1
            obtain ⟨vd, v6⟩ : ∃ vd, wr.cell? ⟨k, 6, none⟩ = some vd := ⟨_, v6⟩
            clear hdead
            (repeat' (first | (go_big_may; fail) | go_values | go_skip | go_guarded | go_step | go_upon | go_back | dsimp only))
            go_roundw
            case rel => exact ⟨n + 1, { y with dead := 11 }, HPY.out.2.2.2.2.1, HPY.out.1, HPY.out.2.1, HPY.out.2.2.1, HPY.out.2.2.2.1, by unfold nextL; exact HR3.out.trans (if_pos (Nat.succ_ne_zero 10)).symm, HDEAD.out⟩
            case measure => rw [HM6.out, HMW.out]; have := HLE.out; omega
    · have hr1 := HR1.out
      unfold nextL at hr1
      rw [if_pos (by simpa using hd)] at hr1
      have c6 := H1.out.rd.c6
      have HEP := Lib.hid (errV_pos ef hd)
      rw [errV_pos ef hd] at c6
      have neqi := fun wz : World => run_eql_iface_nil (P := Tryz.prog) wz tES (.pointer (some ⟨(ef y.dead).1, (ef y.dead).2, none⟩)) Tryz.underlying58
      have HR2 := Lib.hid hr1
      have HSTA := Lib.hid (fun n => H1.out.mono ((RdT.stable k b ef y).both ((StoreT.stable b S).both HR.out)) (below_dW wr n))
      have hlt := H1.out.rd.lt
      clear hr1 HR1 hd HRN
      (repeat' (first | (go_big_may; fail) | go_values | go_skip | go_guarded | go_step | go_upon | go_back | dsimp only))
      go_quiet (fail)
      (repeat' (first | (go_big_may; fail) | go_values | go_skip | go_guarded | go_step | go_upon | go_back | dsimp only))
      go_ret3
      rw [HR2.out]
      dsimp only
      rw [HEP.out]
      exact ⟨rfl, HSTA.out _⟩
end Go.Proofs.YtgeabmmicofanaaGreatDoor
namespace Go.Proofs.YtgeabmmicofanaaGreatDoor

theorem lead_append {l q : List UInt8} (h : lead l < l.length) : lead (l ++ q) = lead l := by
  induction l with
  | nil => simp at h
  | cons c r ih =>
    simp only [lead, List.length_cons, List.cons_append] at h ⊢
    by_cases hc : 128 ≤ c.toNat
    · rw [if_pos hc] at h ⊢
      rw [if_pos hc, ih (by omega)]
    · rw [if_neg hc, if_neg hc]
theorem lead_append_le (l q : List UInt8) : lead l ≤ lead (l ++ q) := by
  induction l with
  | nil => simp [lead]
  | cons c r ih =>
    simp only [lead, List.cons_append]
    split <;> omega
theorem rdU_append {p : List UInt8} (q : List UInt8) (h : (rdU p).2.2 ≠ 60) : rdU (p ++ q) = rdU p := by
  unfold rdU at h ⊢
  by_cases h10 : 10 ≤ lead p
  · rw [if_pos h10, if_pos (Nat.le_trans h10 (lead_append_le p q))]
  · rw [if_neg h10] at h ⊢
    cases hc : p[lead p]? with
    | none => rw [hc] at h; exact absurd rfl h
    | some c =>
      have hlt : lead p < p.length := (List.getElem?_eq_some_iff.1 hc).1
      rw [lead_append hlt, if_neg h10, List.getElem?_append_left hlt, hc, List.take_append_of_le_length (by omega)]
theorem rdAt_zero {p : List UInt8} (h0 : p ≠ []) : rdAt p 0 = if (rdU p).2.2 = 0 then ((rdU p).1, ((rdU p).2.1 : Int), 0) else (0, 0, (rdU p).2.2) := by
  have hl := List.length_pos_iff.2 h0
  unfold rdAt
  rw [if_neg (by omega)]
  simp
theorem rdAt_append {p : List UInt8} (q : List UInt8) (h0 : p ≠ []) (h : (rdAt p 0).2.2 ≠ 60) : rdAt (p ++ q) 0 = rdAt p 0 := by
  have h1 : p ++ q ≠ [] := fun e => h0 (List.append_eq_nil_iff.1 e).1
  have hu : (rdU p).2.2 ≠ 60 := by
    intro e
    rw [rdAt_zero h0, e] at h
    exact h rfl
  rw [rdAt_zero h1, rdAt_zero h0, rdU_append q hu]
theorem nextAt_append {p : List UInt8} (q : List UInt8) (h0 : p ≠ []) (h : (nextAt p 0).2.2 ≠ 60) : nextAt (p ++ q) 0 = nextAt p 0 := by
  have hr : (rdAt p 0).2.2 ≠ 60 := by
    intro e
    unfold nextAt at h
    rw [if_pos (by rw [e]; decide), e] at h
    exact h rfl
  have e := rdAt_append q h0 hr
  unfold nextAt at h ⊢
  rw [e]
  by_cases h1 : (rdAt p 0).2.2 ≠ 0
  · rw [if_pos h1, if_pos h1]
  · rw [if_neg h1] at h ⊢
    rw [if_neg h1]
    by_cases h2 : 255 < (rdAt p 0).1
    · rw [if_pos h2, if_pos h2]
    · rw [if_neg h2] at h ⊢
      rw [if_neg h2]
      by_cases h3 : (p.length : Int) - (rdAt p 0).2.1 < (rdAt p 0).1
      · rw [if_pos h3] at h; exact absurd rfl h
      · have hk := rdAt_ok (Classical.not_not.1 h1)
        rw [if_neg (by rw [List.length_append]; omega), if_neg h3]
        obtain ⟨k, hk2⟩ := Int.eq_ofNat_of_zero_le (show 0 ≤ (rdAt p 0).2.1 by omega)
        rw [hk2, Int.toNat_natCast, List.drop_append_of_le_length (by omega), List.take_append_of_le_length (by rw [List.length_drop]; omega)]

/-- The reader y has the records l left of the text T, and aft behind them. -/
structure RSim (T : List UInt8) (y : RdD) (l : List (List UInt8)) (aft : Nat) : Prop where
  fin : y.fin = T.length
  pos : y.pos ≤ T.length
  buf : y.buf.length ≤ y.pos
  left : (y.dead = 0 ∧ ∃ er, headsL (y.buf ++ T.drop y.pos) = (l, er) ∧ aft = if er = 0 then 0 else 11) ∨ (y.dead = 11 ∧ l = [] ∧ aft = 11)
section
variable {S : St} {T : List UInt8}
/-- The run is there, sealed. -/
def HasT (S : St) (z : Nat) (T : List UInt8) : Prop := ∃ p, S.find (z : Int) = some p ∧ p.2 = ⟨T, true⟩
theorem HasT.read {z a m : Nat} (h : HasT S z T) (hm : a + m ≤ T.length) : readC S z a m = 0 ∧ readT S z a m = (T.drop a).take m := by
  obtain ⟨⟨k, t, s⟩, hf, hp⟩ := h
  cases hp
  have h1 : ¬ ((a : Int) < 0 ∨ (m : Int) < 0 ∨ (a : Int) > T.length ∨ (m : Int) > T.length - a) := by omega
  unfold readC readT
  rw [hf]
  dsimp only
  rw [if_neg (show ¬ (true = false) by decide), if_neg (show ¬ (true = false) by decide), if_neg h1, if_neg h1]
  exact ⟨rfl, rfl⟩
theorem more_yes {y : RdD} (h : HasT S y.run T) (hb : 1 ≤ y.block) (hfin : y.fin = T.length) (hp : y.pos < T.length) :
    moreP S y = ({ y with buf := y.buf ++ (T.drop y.pos).take (min y.block (T.length - y.pos)), pos := y.pos + min y.block (T.length - y.pos) }, true) := by
  have hr := h.read (a := y.pos) (m := min y.block (T.length - y.pos)) (by omega)
  unfold moreP
  rw [hfin, hr.1, hr.2, if_neg (by simp; omega)]
theorem more_no {y : RdD} (hfin : y.fin = T.length) (hp : T.length ≤ y.pos) : moreP S y = (y, false) := by
  unfold moreP
  rw [if_pos (.inl (by omega))]
theorem more_text {y : RdD} (m : Nat) : (y.buf ++ (T.drop y.pos).take m) ++ T.drop (y.pos + m) = y.buf ++ T.drop y.pos := by
  rw [List.append_assoc, ← List.drop_drop, List.take_append_drop]

/-- What Next answers. -/
def saysL (l : List (List UInt8)) (aft : Nat) : List UInt8 × Bool × Nat := match l with | [] => ([], false, aft) | r :: _ => (r, true, 0)
theorem next_any : ∀ (n : Nat) (y : RdD) (l : List (List UInt8)) (aft : Nat), T.length - y.pos < n → HasT S y.run T → 1 ≤ y.block → RSim T y l aft →
    (nextL n S y).2 = saysL l aft ∧ RSim T (nextL n S y).1 l.tail aft ∧ (nextL n S y).1.run = y.run ∧ (nextL n S y).1.block = y.block := by
  intro n
  induction n with
  | zero => intro y l aft h; omega
  | succ n ih =>
    intro y l aft hn hT hb hR
    -- a buffer that holds something
    have key : ∀ y : RdD, T.length - y.pos < n + 1 → HasT S y.run T → 1 ≤ y.block → RSim T y l aft → y.dead = 0 → y.buf ≠ [] →
        (nextS S y (nextL n S)).2 = saysL l aft ∧ RSim T (nextS S y (nextL n S)).1 l.tail aft ∧ (nextS S y (nextL n S)).1.run = y.run ∧ (nextS S y (nextL n S)).1.block = y.block := by
      intro y hn hT hb hR hd h0
      obtain ⟨er, hh, ha⟩ : ∃ er, headsL (y.buf ++ T.drop y.pos) = (l, er) ∧ aft = if er = 0 then 0 else 11 := by
        rcases hR.left with h | h
        · exact h.2
        · rw [hd] at h; exact absurd h.1 (by decide)
      have h1 : y.buf ++ T.drop y.pos ≠ [] := fun e => h0 (List.append_eq_nil_iff.1 e).1
      unfold nextS
      by_cases hz : (nextAt y.buf 0).2.2 = 0
      · have e := nextAt_append (T.drop y.pos) h0 (by rw [hz]; decide)
        have hk := nextAt_ok hz
        rw [headsL_ok h1 (by rw [e]; exact hz), e] at hh
        obtain ⟨k, hk2⟩ := Int.eq_ofNat_of_zero_le (show 0 ≤ (nextAt y.buf 0).2.1 by omega)
        rw [hk2, Int.toNat_natCast, List.drop_append_of_le_length (by omega)] at hh
        rw [if_pos hz, hk2, Int.toNat_natCast]
        injection hh with h2 h3
        rw [← h2]
        refine ⟨rfl, ⟨hR.fin, hR.pos, ?_, .inl ⟨hd, er, ?_, ha⟩⟩, rfl, rfl⟩
        · have := hR.buf
          simp only [List.length_drop]
          omega
        · show headsL (y.buf.drop k ++ T.drop y.pos) = _
          rw [List.tail_cons, ← h3]
      · rw [if_neg hz]
        by_cases h60 : (nextAt y.buf 0).2.2 = 60
        · by_cases hp : y.pos < T.length
          · rw [more_yes hT hb hR.fin hp, if_neg (by rw [h60]; simp)]
            have hbf := hR.buf
            have := ih { y with buf := y.buf ++ (T.drop y.pos).take (min y.block (T.length - y.pos)), pos := y.pos + min y.block (T.length - y.pos) } l aft (by show T.length - (y.pos + min y.block (T.length - y.pos)) < n; omega) hT hb
              ⟨hR.fin, by show y.pos + min y.block (T.length - y.pos) ≤ _; omega, by simp only [List.length_append, List.length_take, List.length_drop]; omega, .inl ⟨hd, er, by rw [← hh]; exact congrArg headsL (more_text _), ha⟩⟩
            exact this
          · rw [more_no hR.fin (by omega), if_pos (.inr rfl)]
            rw [List.drop_eq_nil_of_le (by omega), List.append_nil, headsL_err h0 hz] at hh
            injection hh with h2 h3
            rw [← h2, ha, if_neg (by rw [← h3]; exact hz)]
            exact ⟨rfl, ⟨hR.fin, hR.pos, hR.buf, .inr ⟨rfl, rfl, rfl⟩⟩, rfl, rfl⟩
        · have e := nextAt_append (T.drop y.pos) h0 h60
          rw [headsL_err h1 (by rw [e]; exact hz), e] at hh
          injection hh with h2 h3
          rw [if_pos (.inl h60), ← h2, ha, if_neg (by rw [← h3]; exact hz)]
          exact ⟨rfl, ⟨hR.fin, hR.pos, hR.buf, .inr ⟨rfl, rfl, rfl⟩⟩, rfl, rfl⟩
    unfold nextL
    by_cases hd : y.dead = 0
    · rw [if_neg (by simpa using hd)]
      by_cases h0 : y.buf = []
      · by_cases hp : y.pos < T.length
        · rw [more_yes hT hb hR.fin hp, if_neg (by simp), if_pos h0]
          obtain ⟨er, hh, ha⟩ : ∃ er, headsL (y.buf ++ T.drop y.pos) = (l, er) ∧ aft = if er = 0 then 0 else 11 := by
            rcases hR.left with h | h
            · exact h.2
            · rw [hd] at h; exact absurd h.1 (by decide)
          have hbf := hR.buf
          have := key { y with buf := y.buf ++ (T.drop y.pos).take (min y.block (T.length - y.pos)), pos := y.pos + min y.block (T.length - y.pos) } (by show T.length - (y.pos + min y.block (T.length - y.pos)) < n + 1; omega) hT hb
            ⟨hR.fin, by show y.pos + min y.block (T.length - y.pos) ≤ _; omega, by simp only [List.length_append, List.length_take, List.length_drop]; omega, .inl ⟨hd, er, by rw [← hh]; exact congrArg headsL (more_text _), ha⟩⟩ hd
            (by
              intro e
              have h2 := congrArg List.length e
              simp only [List.length_append, List.length_take, List.length_drop, List.length_nil] at h2
              omega)
          exact this
        · rw [more_no hR.fin (by omega), if_pos ⟨h0, rfl⟩]
          rcases hR.left with ⟨_, er, hh, ha⟩ | h
          · rw [h0, List.drop_eq_nil_of_le (by omega), List.append_nil, headsL_nil] at hh
            injection hh with h2 h3
            rw [← h2, ha, ← h3]
            exact ⟨rfl, ⟨hR.fin, hR.pos, hR.buf, .inl ⟨hd, 0, by show headsL (y.buf ++ T.drop y.pos) = _; rw [h0, List.drop_eq_nil_of_le (by omega), List.append_nil, headsL_nil]; rfl, rfl⟩⟩, rfl, rfl⟩
          · rw [hd] at h; exact absurd h.1 (by decide)
      · rw [if_neg (fun h => h0 h.1), if_neg h0]
        exact key y hn hT hb hR hd h0
    · rw [if_pos hd]
      rcases hR.left with h | ⟨h1, h2, h3⟩
      · exact absurd h.1 hd
      · rw [h2, h3, h1]
        exact ⟨rfl, ⟨hR.fin, hR.pos, hR.buf, .inr ⟨h1, rfl, rfl⟩⟩, rfl, rfl⟩
/-- A reader at the beginning. -/
theorem RSim.start (T : List UInt8) (z block : Nat) : RSim T ⟨z, block, 0, T.length, [], 0⟩ (headsL T).1 (if (headsL T).2 = 0 then 0 else 11) :=
  ⟨rfl, Nat.zero_le _, Nat.le_refl _, .inl ⟨rfl, (headsL T).2, by simp, rfl⟩⟩
end
end Go.Proofs.YtgeabmmicofanaaGreatDoor
namespace Go.Proofs.YtgeabmmicofanaaGreatDoor

theorem find_key {S : St} {z : Int} {p : Nat × RunD} (h : S.find z = some p) : (p.1 : Int) = z := by
  unfold St.find at h
  have := List.find?_some h
  simpa using this
theorem HasT.runs {S S' : St} {z : Nat} {T : List UInt8} (h : HasT S z T) (hs : S'.runs = S.runs) : HasT S' z T := by
  obtain ⟨p, hp, hT⟩ := h
  exact ⟨p, by unfold St.find at hp ⊢; rw [hs]; exact hp, hT⟩
theorem HasT.set {S : St} {z : Nat} {T : List UInt8} (h : HasT S z T) {k : Nat} (hk : k ≠ z) (r : RunD) : HasT (S.setRun k r) z T := by
  obtain ⟨p, hp, hT⟩ := h
  refine ⟨p, ?_, hT⟩
  have h1 := find_key hp
  rw [find_setRun, hp, Option.map_some, if_neg (by omega)]
/-- A call at a run that is open: another run's text is not touched. -/
theorem HasT.withRun {S : St} {z : Nat} {T : List UInt8} (h : HasT S z T) (z' : Int) {f : Nat × RunD → St × Nat} (hf : ∀ p, S.find z' = some p → p.1 ≠ z → HasT (f p).1 z T) : HasT (withRun S z' f).1 z T := by
  unfold Go.Proofs.YtgeabmmicofanaaGreatDoor.withRun
  split
  · exact h.runs rfl
  · cases hp : S.find z' with
    | none => exact h.runs rfl
    | some p =>
      dsimp only
      by_cases hs : p.2.sealed = true
      · rw [if_pos hs]; exact h.runs rfl
      · rw [if_neg hs]
        refine hf p hp fun e => ?_
        obtain ⟨q, hq, hT⟩ := h
        have h1 := find_key hp
        rw [← e, h1, hp] at hq
        injection hq with hq
        rw [hq, hT] at hs
        exact hs rfl
theorem HasT.append {S : St} {z : Nat} {T : List UInt8} (h : HasT S z T) (z' : Int) (t : List UInt8) : HasT (appendP S z' t).1 z T :=
  h.withRun z' fun p _ hne => by
    split
    · exact h.runs rfl
    · have h1 : HasT (stepS S) z T := h.runs rfl
      exact (h1.set hne ⟨p.2.text ++ t, p.2.sealed⟩).runs rfl
theorem HasT.seal {S : St} {z : Nat} {T : List UInt8} (h : HasT S z T) (z' : Int) : HasT (sealP S z').1 z T :=
  h.withRun z' fun p _ hne => by
    have h1 : HasT (stepS S) z T := h.runs rfl
    exact h1.set hne ⟨p.2.text, true⟩
theorem HasT.create {S : St} {z : Nat} {T : List UInt8} (h : HasT S z T) : HasT (createP S).1 z T := by
  unfold createP
  split
  · exact h.runs rfl
  · split
    · exact h.runs rfl
    · obtain ⟨p, hp, hT⟩ := h
      refine ⟨p, ?_, hT⟩
      unfold St.find at hp ⊢
      simp only [createS, stepS]
      rw [List.find?_append, hp]
      rfl
/-- Put, Close, Drop of a writer: a sealed run stays. -/
theorem HasT.flush {S : St} {z : Nat} {T : List UInt8} (h : HasT S z T) (x : WrD) (n : Nat) : HasT (flushP S x n).1 z T := by
  unfold flushP
  split <;> exact h.append _ _
theorem HasT.putL {z : Nat} {T : List UInt8} : ∀ (n : Nat) {S : St} (x : WrD), HasT S z T → HasT (putL n S x).1 z T
  | 0, _, _, h => h
  | n + 1, S, x, h => by
    unfold Go.Proofs.YtgeabmmicofanaaGreatDoor.putL
    split
    · split
      · exact HasT.putL n _ (h.flush x _)
      · exact h.flush x _
    · exact h
theorem HasT.put {S : St} {z : Nat} {T : List UInt8} (h : HasT S z T) (x : WrD) (ss : List (List UInt8)) : HasT (putP S x ss).1 z T := by
  unfold putP
  split
  · exact h
  · split
    · exact h
    · exact HasT.putL _ _ h
theorem HasT.rest {S : St} {z : Nat} {T : List UInt8} (h : HasT S z T) (x : WrD) : HasT (restP S x).1 z T := by
  unfold restP
  split
  · exact h
  · exact h.flush x _
end Go.Proofs.YtgeabmmicofanaaGreatDoor
namespace Go.Proofs.YtgeabmmicofanaaGreatDoor

/-- The run is open, or gone. -/
def OpenAt (S : St) (z : Nat) : Prop := ∀ p, S.find (z : Int) = some p → p.2.sealed = false
theorem OpenAt.runs {S S' : St} {z : Nat} (h : OpenAt S z) (hs : S'.runs = S.runs) : OpenAt S' z := fun p hp => h p (by unfold St.find at hp ⊢; rw [← hs]; exact hp)
theorem OpenAt.set {S : St} {z : Nat} (h : OpenAt S z) {k : Nat} {r : RunD} (hr : k = z → r.sealed = false) : OpenAt (S.setRun k r) z := by
  intro p hp
  rw [find_setRun] at hp
  obtain ⟨q, hq, he⟩ := Option.map_eq_some_iff.1 hp
  have h1 := find_key hq
  by_cases hk : q.1 = k
  · rw [if_pos hk] at he
    rw [← he]
    exact hr (by omega)
  · rw [if_neg hk] at he
    rw [← he]
    exact h q hq
theorem OpenAt.withRun {S : St} {z : Nat} (h : OpenAt S z) (z' : Int) {f : Nat × RunD → St × Nat} (hf : ∀ p, S.find z' = some p → p.2.sealed = false → OpenAt (f p).1 z) : OpenAt (withRun S z' f).1 z := by
  unfold Go.Proofs.YtgeabmmicofanaaGreatDoor.withRun
  split
  · exact h.runs rfl
  · cases hp : S.find z' with
    | none => exact h.runs rfl
    | some p =>
      dsimp only
      by_cases hs : p.2.sealed = true
      · rw [if_pos hs]; exact h.runs rfl
      · rw [if_neg hs]; exact hf p hp (by simpa using hs)
theorem OpenAt.append {S : St} {z : Nat} (h : OpenAt S z) (z' : Int) (t : List UInt8) : OpenAt (appendP S z' t).1 z :=
  h.withRun z' fun p _ hs => by
    split
    · exact h.runs rfl
    · have h1 : OpenAt (stepS S) z := h.runs rfl
      exact (h1.set (k := p.1) (r := ⟨p.2.text ++ t, p.2.sealed⟩) (fun _ => hs)).runs rfl
theorem OpenAt.seal {S : St} {z : Nat} (h : OpenAt S z) {z' : Int} (hz : z' ≠ z) : OpenAt (sealP S z').1 z :=
  h.withRun z' fun p hp _ => by
    have h1 : OpenAt (stepS S) z := h.runs rfl
    have h2 := find_key hp
    exact h1.set (k := p.1) (r := ⟨p.2.text, true⟩) (fun e => absurd (by omega) hz)
theorem OpenAt.create {S : St} {z : Nat} (h : OpenAt S z) : OpenAt (createP S).1 z := by
  unfold createP
  split
  · exact h.runs rfl
  · split
    · exact h.runs rfl
    · intro p hp
      unfold St.find at hp
      simp only [createS, stepS] at hp
      rw [List.find?_append] at hp
      cases hq : S.runs.find? fun q => decide ((q.1 : Int) = z) with
      | some q =>
        rw [hq] at hp
        simp only [Option.some_or, Option.some.injEq] at hp
        subst hp
        exact h q hq
      | none =>
        rw [hq] at hp
        simp only [Option.none_or] at hp
        have := List.mem_of_find?_eq_some hp
        simp only [List.mem_singleton] at this
        rw [this]
theorem OpenAt.flush {S : St} {z : Nat} (h : OpenAt S z) (x : WrD) (n : Nat) : OpenAt (flushP S x n).1 z := by
  unfold flushP
  split <;> exact h.append _ _
theorem OpenAt.putL {z : Nat} : ∀ (n : Nat) {S : St} (x : WrD), OpenAt S z → OpenAt (putL n S x).1 z
  | 0, _, _, h => h
  | n + 1, S, x, h => by
    unfold Go.Proofs.YtgeabmmicofanaaGreatDoor.putL
    split
    · split
      · exact OpenAt.putL n _ (h.flush x _)
      · exact h.flush x _
    · exact h
theorem OpenAt.put {S : St} {z : Nat} (h : OpenAt S z) (x : WrD) (ss : List (List UInt8)) : OpenAt (putP S x ss).1 z := by
  unfold putP
  split
  · exact h
  · split
    · exact h
    · exact OpenAt.putL _ _ h
theorem OpenAt.rest {S : St} {z : Nat} (h : OpenAt S z) (x : WrD) : OpenAt (restP S x).1 z := by
  unfold restP
  split
  · exact h
  · exact h.flush x _
end Go.Proofs.YtgeabmmicofanaaGreatDoor
namespace Go.Proofs.YtgeabmmicofanaaGreatDoor

/-- A store with one run, open; sealed. -/
def oSt (cap : Nat) (t : List UInt8) : St := ⟨cap, t.length, t.length, 1, 0, [(1, ⟨t, false⟩)]⟩
def cSt (cap : Nat) (t : List UInt8) : St := ⟨cap, t.length, t.length, 1, 0, [(1, ⟨t, true⟩)]⟩
/-- One run, no longer than what is used. -/
def I1 (S : St) : Prop := ∃ t b, S.runs = [(1, ⟨t, b⟩)] ∧ t.length ≤ S.used
/-- The records that fit. -/
def fitL : List (List UInt8) → Nat → List (List UInt8) × Nat
  | [], n => ([], n)
  | r :: rs, n => if r.length ≤ 255 ∧ n < 1048576 then (r :: (fitL rs (n + r.length + 2)).1, (fitL rs (n + r.length + 2)).2) else fitL rs n
end Go.Proofs.YtgeabmmicofanaaGreatDoor
