/- walk.Minimize walked: the least automaton of the tree. -/
import Derived.Test.YthjkfiniafblbaaMinLay
import Derived.Test.YthjkfiniafblbaaWkShape
import Derived.Test.YthjkfiniafblbaaWkCount
import Derived.Test.YthjkfiniafblbaaDawgBuild
namespace Go.Proofs.Ythjkfiniafblbaa
open Go.RowKit

theorem mk_ms (w : World) : (Instr.makeMap tMSI none).run Try.prog w = .ok (.map (some w.heap.size)) (w.alloc (.map #[] 0)) := by kernel_rfl
set_option maxRecDepth 100000 in
set_option maxHeartbeats 3200000 in
theorem Minimize_calls {w : World} {A : List Sta} {va : Value} (hA : RdAut w va A) (hl : A.length ≤ 1048576 ∧ edgesN A ≤ 1048576) (hs : shapeB A = true) {t : Trie} (ht : Unf A 0 t) :
    Calls Try.prog 32 #[va] w fun e w' => ∃ ov, e = .returned (.tuple #[ov, .int .i64 0]) ∧ At w w' (Both (AutG tAS tAE ov (minT t)) Nought) := by
  have hsh := shaped_of hs
  have HS := Lib.hid (Shape_calls hA hl)
  rw [shapeV_ok hs] at HS
  obtain ⟨a0, c0, hv, _, hc0⟩ := hA.shape
  have hn : A.length ≤ 1048576 := by omega
  have FOLD := Lib.hid (fun w' kf gc mb (h : At w w' (Both (FolT kf gc mb A.length va (.slice none 0 0) [] (List.replicate A.length 0) []) Nought)) => fold_at hA hl kf gc mb (htT t + 1) w' 0 t (.slice none 0 0) [] (List.replicate A.length 0) [] Nought h Stable.nought (FI.start A) ht (by omega))
  have LAY := Lib.hid (fun w' kf gc mb pb vf Ts C F (hi : FI A Ts C F) (hC : ∀ i, i < A.length → ∃ d, C[i]? = some (d + 1)) (hm : t ∈ Ts) (h : At w w' (LayT kf gc mb A.length pb va vf Ts C F (.slice none 0 0) [] [] Nought)) => lay_at hA hl hi hC kf gc mb pb vf (htT t + 1) w' t [] [] (.slice none 0 0) Nought h Stable.nought (by simp) List.nodup_nil hm (by simp) (by omega) rfl)
  have HT := Lib.hid ht
  have HSH := Lib.hid hsh
  have hmm := mk_ms
  have hmi := mk_mi
  clear hA hs ht hsh hl
  subst hv
  go_enter Try.func32, Try.ntmps32
  (repeat' (first | (go_big_may; fail) | go_values | go_skip | go_guarded | go_step | go_upon | go_back | dsimp only))
  refine HS.out.mono ?_
  rintro e1 w1 ⟨rfl, hb1⟩
  have HNW := Lib.hid (At.nought hb1)
  clear hb1
  (repeat' (first | (go_big_may; ((at_make; go_must (refine wpList_make_at rfl _ _ 23 rfl tInt Try.underlying23 info_Int rfl rfl rfl rfl rfl (by omega) (by unfold maxLen; omega) HNW.out Stable.nought ?_)); intro w2 h2 _; have H2 := Lib.hid h2; clear h2)) | go_values | go_skip | go_guarded | go_step | go_upon | go_back | dsimp only))
  have hs2 := (RowG.stable tInt 1 (.slice (some ⟨w1.heap.size, 0, none⟩) A.length A.length) A.length (List.replicate A.length (.int .i64 0))).both Stable.nought
  have h3 := H2.out.newMap hs2 Try.prog tStr
  have hs3 := (MapT.stable Try.prog tStr w2.heap.size []).both hs2
  have h4 := h3.newCell hs3 #[.slice a0 A.length c0, .slice (some ⟨w1.heap.size, 0, none⟩) A.length A.length, .map (some w2.heap.size), .slice none 0 0] tFo
  have z3 : (w2.alloc (.map #[] 0)).heap.size = w2.heap.size + 1 := by simp
  rw [z3] at h4
  have h5 := (h4.swap2.noRowG ((CellT.stable _ _ _).both ((RowG.stable _ _ _ _ _).both ((MapT.stable _ _ _ _).both Stable.nought))) tInt 1).pull4.pull4.pull4
  rw [show List.replicate A.length (Value.int .i64 0) = nats (List.replicate A.length 0) from by simp [nats]] at h5
  have h6 := FOLD.out _ _ _ _ (At.folShut (Ts := []) (F := []) h5)
  have HF := Lib.hid h6
  clear h3 h4 h5 h6 hs2 hs3 z3
  (repeat' (first | (go_big_may; fail) | go_values | go_skip | go_guarded | go_step | go_upon | go_back | dsimp only))
  refine HF.out.mono ?_
  rintro e3 w3 ⟨vf, Ts, C, F, c, rfl, hst, hc, h7⟩
  have hval := hst.inv.val hc HT.out
  have hC : ∀ i, i < A.length → ∃ d, C[i]? = some (d + 1) := fun i hi => hst.inv.reach 0 c hc i (HSH.out.reach i hi)
  have h8 := (h7.newMap ((FolT.stable _ _ _ _ _ _ _ _ _).both Stable.nought) Try.prog tInt).noAut ((MapT.stable _ _ _ _).both ((FolT.stable _ _ _ _ _ _ _ _ _).both Stable.nought)) tAS tAE
  have h9 := h8.pull4.impl fun _ q => Both.mono (fun _ _ q => q.pull3) q
  have h10 := LAY.out _ _ _ _ _ _ _ _ _ hst.inv hC hval.1 h9
  rw [hval.2] at h10
  generalize hq : c + 1 = q at *
  have HL := Lib.hid h10
  clear h7 h8 h9 h10 hst hc hval hC hq HF
  (repeat' (first | (go_big_may; fail) | go_values | go_skip | go_guarded | go_step | go_upon | go_back | dsimp only))
  refine HL.out.mono ?_
  rintro e4 w4 ⟨ov, ys, rfl, hys, h11⟩
  have h12 := At.autG h11.drop.drop
  have HE := Lib.hid (And.intro hys h12)
  clear h11 h12 hys HL
  (repeat' (first | (go_big_may; fail) | go_values | go_skip | go_guarded | go_step | go_upon | go_back | dsimp only))
  go_ret2
  refine ⟨_, rfl, ?_⟩
  have h13 := HE.out.2
  rw [List.nil_append, HE.out.1] at h13
  exact h13
end Go.Proofs.Ythjkfiniafblbaa
