/- (*hornbooklaw09.world).alike walked. -/
import Derived.Test.YthcicmbkkkhifaaGreatDoorBuBatPlLaw35
import Derived.Test.YthcicmbkkkhifaaGreatDoorBuBatPlLaw38
import Derived.Deep.QuietTactic
import Derived.BigQuiet
set_option linter.unusedSimpArgs false
set_option linter.unusedVariables false
namespace Go.Proofs.YthcicmbkkkhifaaGreatDoor
open Go.RowKit

abbrev tWl9 : TypeId := 59
abbrev wl9C (sb rb : Nat) (fv gv : Value) : Array Value := #[.pointer (some ⟨sb, 0, none⟩), fv, .pointer (some ⟨rb, 0, none⟩), gv]
theorem run_string_all {P : Program} {w : World} (src dst e : TypeId) (hs : P.underlying src = some (.slice e)) (he : P.underlying e = some (.int .u8)) (hd : P.underlying dst = some .string)
    {ao : Option Addr} {cap : Nat} {l : List UInt8} (h : RdRow w (.slice ao l.length cap) l.length 1 (bvs l)) : Sem.run P (convert src dst (Value.slice ao l.length cap)) w = .ok (.string ⟨l.toArray⟩) w := by
  have := run_string_part (P := P) (w := w) src dst e hs he hd h (k := 0) (m := l.length) (by omega)
  simp only [List.drop_zero, List.take_length, Nat.sub_zero] at this
  rw [← this]
  congr 3
  split
  · rfl
  · cases ao with
    | none => rfl
    | some a => simp [Addr.add]
section
variable {W w : World} {R : Thing} {kx sb rb : Nat} {S : St} {fv gv : Value}
set_option maxRecDepth 100000 in
set_option maxHeartbeats 12800000 in
theorem alike_calls (h : At W w (Both (CellT kx (wl9C sb rb fv gv) tWl9) (Both (StoreT sb S) (Both (RefT rb S) R)))) (hR : Stable R) (hG : GoodS S) (hS : Sealed S) :
    Calls Tryz.prog 23 #[.pointer (some ⟨kx, 0, none⟩)] w fun e w' => e = .returned (.bool true) ∧ At W w' (Both (CellT kx (wl9C sb rb fv gv) tWl9) (Both (StoreT sb S) (Both (RefT rb S) R))) := by
  have h1 := h.perm (show _ = Both (RefT rb S) (Both (StoreT sb S) (Both (CellT kx (wl9C sb rb fv gv) tWl9) R)) by ac_rfl)
  obtain ⟨rv, rs, hr, h2⟩ := h1.ref
  have hst2 : Stable (Both (CellT rb (refCells S rv) tRef) (Both (RowG tRRun 3 rv rs.length (rs.flatMap cellsR)) (Both (TextsT rs) (Both (CellT kx (wl9C sb rb fv gv) tWl9) R)))) := (CellT.stable _ _ _).both ((RowG.stable _ _ _ _ _).both ((TextsT.stable _).both ((CellT.stable _ _ _).both hR)))
  have h3 := h2.perm (show _ = Both (StoreT sb S) (Both (CellT rb (refCells S rv) tRef) (Both (RowG tRRun 3 rv rs.length (rs.flatMap cellsR)) (Both (TextsT rs) (Both (CellT kx (wl9C sb rb fv gv) tWl9) R)))) by ac_rfl)
  have hlv := Live_at h3 hst2
  have hkl : S.keys.length = rs.length := by unfold St.keys; rw [hr]; simp
  have hk : ∀ i, i < rs.length → S.keys[i]? = some ((rs.getD i default).num : Int) := fun i hi => by
    unfold St.keys
    rw [hr]
    simp [runOf, hi, List.getD_eq_getElem?_getD]
  have hmem : ∀ i, i < rs.length → runOf (rs.getD i default) ∈ S.runs := fun i hi => by
    rw [hr, List.getD_eq_getElem?_getD, List.getElem?_eq_getElem hi]
    exact List.mem_map_of_mem (List.getElem_mem hi)
  have c0 := cell_at h.cell.1 0
  have lx := lt_of_heap h.cell.1
  have HK := Lib.hid hk
  have HM := Lib.hid hmem
  have HKL := Lib.hid hkl
  have HR := Lib.hid hr
  have HLV := Lib.hid hlv
  have HG := Lib.hid hG
  have HS := Lib.hid hS
  have HST := Lib.hid ((RowT.stable (.slice none 0 0) []).both ((StoreT.stable sb S).both hst2))
  have HST2 := Lib.hid ((StoreT.stable sb S).both hst2)
  have hrl : rs.length ≤ 16777216 := (h2.refR hr).len hG
  clear h h1 h2 h3 hr hlv hk hmem hkl hst2 hG hS hR
  go_enter Tryz.func23, Tryz.ntmps23
  (repeat' (first | (go_big_may; fail) | go_values | go_skip | go_guarded | go_step | go_upon | go_back | dsimp only))
  refine HLV.out.mono ?_
  rintro e w3 ⟨vl, rfl, h4⟩
  obtain ⟨al, cl, hvl, _, _⟩ := own_shape h4.row
  rw [HKL.out] at hvl
  subst hvl
  have h5 := h4.perm (show _ = Both (CellT rb (refCells S rv) tRef) (Both (RowG tRRun 3 rv rs.length (rs.flatMap cellsR)) (Both (TextsT rs) (Both (StoreT sb S) (Both (RowT (.slice al rs.length cl) S.keys) (Both (CellT kx (wl9C sb rb fv gv) tWl9) R))))) by ac_rfl)
  have hrr := h5.refR HR.out
  obtain ⟨ar, cr, hrv, _, _⟩ := hrr.shape
  subst hrv
  obtain ⟨_, d1, d2, _, d4⟩ := hrr.c
  have lr := lt_of_heap hrr.cells
  have hx := h5.drop.drop.drop.drop.drop.cell.1
  have x0 := cell_at hx 0
  have x2 := cell_at hx 2
  have lx3 := lt_of_heap hx
  have hdn : ∀ n, At W (w3.drewN n) (Both (RowT (.slice al rs.length cl) S.keys) (Both (StoreT sb S) (Both (CellT rb (refCells S (.slice ar rs.length cr)) tRef) (Both (RowG tRRun 3 (.slice ar rs.length cr) rs.length (rs.flatMap cellsR)) (Both (TextsT rs) (Both (CellT kx (wl9C sb rb fv gv) tWl9) R)))))) := fun n => h4.drewN ((RowT.stable _ _).both HST2.out) n
  have hus := fun n => (Used_at (hdn n).drop).mono fun e w' (q : e = _ ∧ _) => (⟨q.1, q.2.symm⟩ : e = Ending.returned (.int .i64 S.used) ∧ w' = w3.drewN n)
  have hpk := fun n => (Peak_at (hdn n).drop).mono fun e w' (q : e = _ ∧ _) => (⟨q.1, q.2.symm⟩ : e = Ending.returned (.int .i64 S.peak) ∧ w' = w3.drewN n)
  have hmd := fun n => (Made_at (hdn n).drop).mono fun e w' (q : e = _ ∧ _) => (⟨q.1, q.2.symm⟩ : e = Ending.returned (.int .i64 S.made) ∧ w' = w3.drewN n)
  have hru := fun n => (rUsed_calls (show RefR (w3.drewN n) rb S (.slice ar rs.length cr) rs from hrr.below (below_dW w3 n)) HG.out).mono fun e w' (q : e = _ ∧ _) => (⟨q.1, q.2.symm⟩ : e = Ending.returned (.int .i64 S.used) ∧ w' = w3.drewN n)
  have HUS := Lib.hid hus
  have HPK := Lib.hid hpk
  have HMD := Lib.hid hmd
  have HRU := Lib.hid hru
  have HDN := Lib.hid hdn
  clear h4 h5 hrr hx hdn hus hpk hmd hru HLV c0 lx
  (repeat' (first | (go_big_may; fail) | go_values | go_skip | go_guarded | go_step | go_upon | go_back | dsimp only))
  go_quiet ((first
    | (go_at_call 21; exact Calls.quiet_of_same (HUS.out _))
    | (go_at_call 36; exact Calls.quiet_of_same (HPK.out _))
    | (go_at_call 37; exact Calls.quiet_of_same (HMD.out _))
    | (go_at_call 35; exact Calls.quiet_of_same (HRU.out _))))
  clear d1 d2 HUS HPK HMD HRU
  (repeat' (first | (go_big_may; fail) | go_values | go_skip | go_guarded | go_step | go_upon | go_back | dsimp only))
  go_loopw [67] (fun vi wr => ∃ (i : Nat), vi = .int .i64 i ∧ i ≤ rs.length ∧ At W wr (Both (RowT (.slice al rs.length cl) S.keys) (Both (StoreT sb S) (Both (CellT rb (refCells S (.slice ar rs.length cr)) tRef) (Both (RowG tRRun 3 (.slice ar rs.length cr) rs.length (rs.flatMap cellsR)) (Both (TextsT rs) (Both (CellT kx (wl9C sb rb fv gv) tWl9) R))))))) (fun vi _ => rs.length - (intOf vi).toNat)
  case atStart => exact ⟨0, rfl, Nat.zero_le _, HDN.out _⟩
  case round =>
    obtain ⟨i, rfl, hi, h6⟩ := hrel
    clear x0 x2 lx3 d4 lr
    by_cases hlt : i < rs.length
    · have hrr := ((h6.perm (show _ = Both (CellT rb (refCells S (.slice ar rs.length cr)) tRef) (Both (RowG tRRun 3 (.slice ar rs.length cr) rs.length (rs.flatMap cellsR)) (Both (TextsT rs) (Both (RowT (.slice al rs.length cl) S.keys) (Both (StoreT sb S) (Both (CellT kx (wl9C sb rb fv gv) tWl9) R))))) by ac_rfl))).refR HR.out
      obtain ⟨_, _, _, _, d4⟩ := hrr.c
      have lr := lt_of_heap hrr.cells
      have hx := h6.drop.drop.drop.drop.drop.cell.1
      have x0 := cell_at hx 0
      have x2 := cell_at hx 2
      have lx3 := lt_of_heap hx
      have hdn2 : ∀ n, At W (wr.drewN n) (Both (RowT (.slice al rs.length cl) S.keys) (Both (StoreT sb S) (Both (CellT rb (refCells S (.slice ar rs.length cr)) tRef) (Both (RowG tRRun 3 (.slice ar rs.length cr) rs.length (rs.flatMap cellsR)) (Both (TextsT rs) (Both (CellT kx (wl9C sb rb fv gv) tWl9) R)))))) := fun n => h6.drewN ((RowT.stable _ _).both HST2.out) n
      obtain ⟨gk, offk, capk, hslk, hck⟩ := (RdRow.of_own h6.row).intA (HK.out i hlt)
      rw [HKL.out] at hslk
      simp only [Value.slice.injEq] at hslk
      obtain ⟨rfl, _, rfl⟩ := hslk
      obtain ⟨gr, capr, hslr, r0, r1, _, _⟩ := hrr.item hlt
      simp only [Value.slice.injEq] at hslr
      obtain ⟨rfl, _, rfl⟩ := hslr
      have hmm := HM.out i hlt
      have hrm : rs.getD i default ∈ rs := by rw [List.getD_eq_getElem?_getD, List.getElem?_eq_getElem hlt]; exact List.getElem_mem hlt
      have hrow := hrr.texts _ hrm
      have hse := HS.out _ hmm
      have htx := fun n => (text_same (hdn2 n).drop HG.out hmm hse).mono fun e w' (q : e = _ ∧ _) => (⟨q.1, q.2.symm⟩ : e = Ending.returned (.string ⟨(rs.getD i default).text.toArray⟩) ∧ w' = wr.drewN n)
      rw [show (runOf (rs.getD i default)).1 = (rs.getD i default).num from rfl] at htx
      obtain ⟨at_, ct, hvt, _, _⟩ := own_shape hrow
      rw [hvt] at r1 hrow
      have hcv : ∀ n, Sem.run Tryz.prog (convert 84 9 (Value.slice at_ (rs.getD i default).text.length ct)) (wr.drewN n) = .ok (.string ⟨(rs.getD i default).text.toArray⟩) (wr.drewN n) := fun n => run_string_all _ _ 5 Tryz.underlying84 Tryz.underlying5 Tryz.underlying9 ((RdRow.of_own hrow).below (below_dW wr n))
      have HTX := Lib.hid htx
      have HDN2 := Lib.hid hdn2
      have hi0 : (0 : Int) ≤ i := by omega
      have hi1 : (i : Int) < rs.length := by omega
      have hwr : IntKind.i64.wrap ((i : Int) + 1) = ((i + 1 : Nat) : Int) := by rw [IntKind.wrap_i64] <;> omega
      generalize rs.getD i default = rr at *
      clear hrr hx hmm hrm hrow hse hdn2 htx hvt h6
      (repeat' (first | (go_big_may; fail) | go_values | go_skip | go_guarded | go_step | go_upon | go_back | dsimp only))
      go_quiet ((go_at_call 25; exact Calls.quiet_of_same (HTX.out _)))
      (repeat' (first | (go_big_may; fail) | go_values | go_skip | go_guarded | go_step | go_upon | go_back | dsimp only))
      go_roundw
      case rel => exact ⟨i + 1, rfl, hlt, HDN2.out _⟩
      case measure => simp [intOf]; omega
    · have hi0 : ¬ (i : Int) < rs.length := by omega
      have HEND := Lib.hid h6
      clear h6
      (repeat' (first | (go_big_may; fail) | go_values | go_skip | go_guarded | go_step | go_upon | go_back | dsimp only))
      go_ret
      exact ⟨rfl, (At.toRef HR.out (HEND.out.drop.perm (show _ = Both (CellT rb (refCells S (.slice ar rs.length cr)) tRef) (Both (RowG tRRun 3 (.slice ar rs.length cr) rs.length (rs.flatMap cellsR)) (Both (TextsT rs) (Both (StoreT sb S) (Both (CellT kx (wl9C sb rb fv gv) tWl9) R)))) by ac_rfl))).perm (by ac_rfl)⟩
end
end Go.Proofs.YthcicmbkkkhifaaGreatDoor
