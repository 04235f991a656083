/- walk's laws: wakes walked: the four words' automaton is built, counted, and its last word told. -/
import Derived.Test.YthjkfiniafblbaaWkRNth
import Derived.Test.YthjkfiniafblbaaDawgP
import Derived.Test.YthjkfiniafblbaaWkRef
namespace Go.Proofs.Ythjkfiniafblbaa
open Go.RowKit

def tEnd : Trie := .edge 115 (.fin true) (.fin true)
def tFour : Trie := .edge 99 (.edge 97 (.edge 116 tEnd (.fin false)) (.fin false)) (.edge 100 (.edge 111 (.edge 103 tEnd (.fin false)) (.fin false)) (.fin false))
theorem unf_four : Unf four 0 tFour := by
  refine ⟨_, rfl, ?_⟩
  unfold tFour tEnd
  repeat' (first | exact ⟨rfl, rfl⟩ | refine ⟨_, _, rfl, ⟨_, by decide, rfl, ?_⟩, ?_⟩)
theorem cnt_four : cntT tFour = 4 := by decide
theorem nth_four : nthT tFour 3 = dogs := by decide
theorem RdRow_lit {w : World} {T : TypeId} (C : Array Value) (n size : Nat) (h : C.size = n * size) (hn : n ≤ maxLen) : RdRow (w.alloc (.cells C T)) (.slice (some ⟨w.heap.size, 0, none⟩) n n) n size C.toList := by
  refine ⟨by simpa using h, _, n, rfl, Nat.le_refl _, hn, fun j u hu => ⟨w.heap.size, 0, rfl, ?_⟩⟩
  rw [World.cell?_alloc_at _ _ _ _ rfl]
  simpa using hu
theorem four_rises : Rises [cat, cats, dog, dogs] := by
  intro j a b ha hb
  match j with
  | 0 => simp at ha hb; subst ha hb; exact ⟨by decide +kernel, by decide +kernel⟩
  | 1 => simp at ha hb; subst ha hb; exact ⟨by decide +kernel, by decide +kernel⟩
  | 2 => simp at ha hb; subst ha hb; exact ⟨by decide +kernel, by decide +kernel⟩
  | j + 3 => simp at hb
set_option maxRecDepth 100000 in
set_option maxHeartbeats 1600000 in
theorem wakes_calls (w : World) : Calls Try.prog 14 #[] w fun e w' => e = .returned (.bool true) ∧ Below w.heap.size w w' := by
  have hrd := RdRow_lit (w := w) (T := 9) #[.string ⟨#[99, 97, 116]⟩, .string ⟨#[99, 97, 116, 115]⟩, .string ⟨#[100, 111, 103]⟩, .string ⟨#[100, 111, 103, 115]⟩] 4 1 rfl (by simp [maxLen])
  have HB := Lib.hid (Build_at (L := [cat, cats, dog, dogs]) hrd (by decide) (by decide) four_rises build_four (by decide))
  clear hrd
  go_enter Try.func14, Try.ntmps14
  (repeat' (first | (go_big_may; fail) | go_values | go_skip | go_guarded | go_step | go_upon | go_back | dsimp only))
  refine HB.out.mono ?_
  rintro e1 w1 ⟨ov, rfl, h1⟩
  have HB1 := Lib.hid (((Below.refl _ _).alloc (Nat.le_refl _) _).trans (h1.below.mono (by simp)))
  have HR1 := Lib.hid h1.autRd
  clear h1
  (repeat' (first | (go_big_may; fail) | go_values | go_skip | go_guarded | go_step | go_upon | go_back | dsimp only))
  refine (Count_calls HR1.out (by decide) four_shape unf_four).mono ?_
  rintro e2 w2 ⟨rfl, hb2⟩
  have HB2 := Lib.hid hb2
  clear hb2
  have hn := nthS_in (t := tFour) (m := 3) (by rw [cnt_four]; decide)
  have HN := Lib.hid (Nth_calls (HR1.out.below HB2.out) (by decide) unf_four (by rw [cnt_four]; decide) 3 four_shape)
  rw [show ((3 : Nat) : Int) = 3 from rfl] at hn
  rw [hn.1, hn.2, nth_four] at HN
  have e1 : countV tFour = 4 := by unfold countV; rw [cnt_four]; rfl
  have e2 : countE tFour = 0 := by unfold countE; rw [cnt_four]; rfl
  rw [e1, e2]
  clear hn e1 e2
  (repeat' (first | (go_big_may; fail) | go_values | go_skip | go_guarded | go_step | go_upon | go_back | dsimp only))
  refine HN.out.mono ?_
  rintro e3 w3 ⟨rfl, hb3⟩
  have HB3 := Lib.hid hb3
  clear hb3
  (repeat' (first | (go_big_may; fail) | go_values | go_skip | go_guarded | go_step | go_upon | go_back | dsimp only))
  go_ret
  exact ⟨rfl, HB1.out.trans ((HB2.out.mono HB1.out.size).trans (HB3.out.mono (Nat.le_trans HB1.out.size HB2.out.size)))⟩
end Go.Proofs.Ythjkfiniafblbaa
