/- merge: lists of sealed runs, each named once; no program in sight. · merge: remove, look and fit walked; slices.Contains of ints. · batch: the failures that a former's calls answer, in plain Lean; hornbooklaw10.code walked. -/
import Derived.Test.YtadokkffmekndaaGreatDoorBuMgAgLaw47
import Derived.Test.YtadokkffmekndaaGreatDoorBuMgAgLaw34
import Derived.Test.YtadokkffmekndaaGreatDoorBuMgAgLaw49
import Derived.Test.YtadokkffmekndaaGreatDoorBuMgAgLaw30
import Derived.Test.YtadokkffmekndaaGreatDoorBuMgAgLaw40
import Derived.Test.YtadokkffmekndaaGreatDoorBuMgAgLaw43
import Derived.Test.YtadokkffmekndaaGreatDoorBuMgAgLaw27
set_option linter.unusedSimpArgs false
set_option linter.unusedVariables false
namespace Go.Proofs.YtadokkffmekndaaGreatDoor
open Go.RowKit

/-- Each of these is a sealed run, and none is named twice. -/
def LokP (S : St) (l : List Int) : Prop := l.Nodup ∧ ∀ z ∈ l, ∃ (n : Nat) (T : List UInt8), z = (n : Int) ∧ (n, (⟨T, true⟩ : RunD)) ∈ S.runs
theorem hasT_of {S : St} (hG : GoodS S) {n : Nat} {T : List UInt8} (h : (n, (⟨T, true⟩ : RunD)) ∈ S.runs) : HasT S n T := ⟨_, find_of_mem hG h, rfl⟩
theorem hasT_len {S : St} (hG : GoodS S) {n : Nat} {T : List UInt8} (h : HasT S n T) : T.length ≤ 67108864 := by
  obtain ⟨p, hp, hT⟩ := h
  have h1 := hG.le _ hp
  rw [hT] at h1
  have h2 := hG.sizes
  dsimp only at h1
  omega
theorem stands_has {S : St} {n : Nat} {T : List UInt8} (h : HasT S n T) : standsP S n = risB none (headsL T).1 := by
  obtain ⟨⟨k, t, s⟩, hp, hT⟩ := h
  cases hT
  have e : readT S n 0 (sizeN S n : Nat) = T := by
    unfold readT sizeN
    rw [hp]
    dsimp only
    rw [if_neg (by decide), if_neg (by omega)]
    simp
  unfold standsP
  rw [e]
theorem read_run0 {S : St} {z : Int} (h : readC S z 0 0 = 0) : ∃ (n : Nat) (T : List UInt8), z = (n : Int) ∧ (n, (⟨T, true⟩ : RunD)) ∈ S.runs := by
  unfold readC at h
  cases hf : S.find z with
  | none => rw [hf] at h; exact absurd h (by decide)
  | some p =>
    rw [hf] at h
    dsimp only at h
    obtain ⟨k, t, s⟩ := p
    have h1 := find_key hf
    have h2 := (find_mem hf).1
    cases s with
    | false => exact absurd h (by simp)
    | true => exact ⟨k, t, by dsimp only at h1; omega, h2⟩
theorem look_lokN {S : St} : ∀ (l seen : List Int), lookP S seen l = 0 → l.Nodup ∧ (∀ z ∈ l, z ∉ seen) ∧ ∀ z ∈ l, ∃ (n : Nat) (T : List UInt8), z = (n : Int) ∧ (n, (⟨T, true⟩ : RunD)) ∈ S.runs
  | [], _, _ => ⟨List.nodup_nil, by simp, by simp⟩
  | z :: l, seen, h => by
    unfold lookP at h
    by_cases h1 : readC S z 0 0 = 0
    · rw [if_neg (by simpa using h1)] at h
      by_cases h2 : z ∈ seen
      · rw [if_pos h2] at h; exact absurd h (by decide)
      · rw [if_neg h2] at h
        obtain ⟨k1, k2, k3⟩ := look_lokN l (seen ++ [z]) h
        refine ⟨List.nodup_cons.2 ⟨fun hz => k2 z hz (by simp), k1⟩, fun y hy => ?_, fun y hy => ?_⟩
        · rcases List.mem_cons.1 hy with rfl | hy
          · exact h2
          · exact fun hs => k2 y hy (by simp [hs])
        · rcases List.mem_cons.1 hy with rfl | hy
          · exact read_run0 h1
          · exact k3 y hy
    · rw [if_pos (by simpa using h1)] at h
      exact absurd h h1
theorem look_lok {S : St} {l : List Int} (h : lookP S [] l = 0) : LokP S l := ⟨(look_lokN l [] h).1, (look_lokN l [] h).2.2⟩
theorem LokP.take {S : St} {l : List Int} (h : LokP S l) (k : Nat) : LokP S (l.take k) := ⟨h.1.sublist (List.take_sublist _ _), fun z hz => h.2 z (List.mem_of_mem_take hz)⟩
theorem LokP.runs {S S' : St} {l : List Int} (h : LokP S l) (hs : S'.runs = S.runs) : LokP S' l := ⟨h.1, fun z hz => by rw [hs]; exact h.2 z hz⟩
theorem LokP.create {S : St} (hG : GoodS S) {l : List Int} (h : LokP S l) (hc : (createP S).2.2 = 0) : LokP (createP S).1 l := by
  obtain ⟨htop, _⟩ := create_top hG hc
  exact ⟨h.1, fun z hz => by
    obtain ⟨n, T, h1, h2⟩ := h.2 z hz
    exact ⟨n, T, h1, by rw [htop.runs]; exact List.mem_append_left _ h2⟩⟩
theorem stands_create {S : St} (hG : GoodS S) {l : List Int} (h : LokP S l) (hc : (createP S).2.2 = 0) {z : Int} (hz : z ∈ l) : standsP (createP S).1 z = standsP S z := by
  obtain ⟨n, T, rfl, h2⟩ := h.2 z hz
  obtain ⟨htop, _⟩ := create_top hG hc
  rw [stands_has (hasT_of hG h2), stands_has (hasT_of htop.good (by rw [htop.runs]; exact List.mem_append_left _ h2))]
theorem all_create {S : St} (hG : GoodS S) {l : List Int} (h : LokP S l) (hc : (createP S).2.2 = 0) : allP (createP S).1 l = allP S l := by
  unfold allP
  rw [List.map_congr_left fun z hz => stands_create hG h hc hz]
theorem LokP.z64 {S : St} (hG : GoodS S) {l : List Int} (h : LokP S l) : ∀ z ∈ l, inI64 z := fun z hz => by
  obtain ⟨n, T, rfl, h2⟩ := h.2 z hz
  have := (hG.inside _ h2).2
  have := hG.sizes.2.2.2.1
  unfold inI64; dsimp only at *; omega
/-- Behind a round that went through: the rest of the list and the new run stand. -/
theorem LokP.round {S : St} (hG : GoodS S) {l : List Int} (h : LokP S l) (k : Nat) (h0 : (writtenP S (allP S (l.take k))).2.2 = 0) :
    GoodS (goneZ (writtenP S (allP S (l.take k))).1 (l.take k)) ∧ LokP (goneZ (writtenP S (allP S (l.take k))).1 (l.take k)) (l.drop k ++ [((writtenP S (allP S (l.take k))).2.1 : Int)]) ∧ (writtenP S (allP S (l.take k))).2.1 ≤ 16777216 ∧ GoodS (writtenP S (allP S (l.take k))).1 := by
  obtain ⟨g1, g2, g3⟩ := written_top hG (allP_fits S (l.take k))
  obtain ⟨k1, k2, k3, _⟩ := goneZ_good (l.take k) g1
  rcases g3 with ⟨w1, w2, w3, w4⟩ | ⟨w1, _⟩
  · have hsz := g1.sizes.2.2.2.1
    have hnd : (l.take k ++ l.drop k).Nodup := by rw [List.take_append_drop]; exact h.1
    have hdj := (List.nodup_append.1 hnd)
    have hold : ∀ z ∈ l, z ≠ ((S.made + 1 : Nat) : Int) := fun z hz e => by
      obtain ⟨n, T, rfl, h2⟩ := h.2 z hz
      have := (hG.inside _ h2).2
      dsimp only at this
      omega
    refine ⟨k1, ⟨?_, ?_⟩, by omega, g1⟩
    · rw [w2]
      refine List.nodup_append.2 ⟨hdj.2.1, by simp, fun a ha b hb => ?_⟩
      rw [List.mem_singleton.1 hb]
      exact hold a (List.mem_of_mem_drop ha)
    · intro z hz
      rw [k3, w4]
      rcases List.mem_append.1 hz with hz | hz
      · obtain ⟨n, T, rfl, h2⟩ := h.2 z (List.mem_of_mem_drop hz)
        refine ⟨n, T, rfl, List.mem_filter.2 ⟨List.mem_append_left _ h2, decide_eq_true fun hm => ?_⟩⟩
        exact hdj.2.2 _ hm _ hz rfl
      · rw [List.mem_singleton.1 hz, w2]
        refine ⟨S.made + 1, _, rfl, List.mem_filter.2 ⟨List.mem_append_right _ List.mem_cons_self, decide_eq_true fun hm => ?_⟩⟩
        exact hold _ (List.mem_of_mem_take hm) rfl
  · exact absurd h0 w1
theorem LokP.bad {S : St} (hG : GoodS S) (l m : List Int) : GoodS (writtenP S (allP S l)).1 ∧ GoodS (goneZ (writtenP S (allP S l)).1 m) :=
  ⟨(written_top hG (allP_fits S l)).1, (goneZ_good m (written_top hG (allP_fits S l)).1).1⟩
theorem LokP.few {S : St} (hG : GoodS S) {l : List Int} (h : LokP S l) : l.length ≤ 16777216 := by
  have h1 : ∀ z ∈ l, ∃ p ∈ S.runs, (p.1 : Int) = z := fun z hz => by
    obtain ⟨n, T, rfl, h2⟩ := h.2 z hz
    exact ⟨_, h2, rfl⟩
  have h2 : l ⊆ (List.range' 1 S.made).map (fun (n : Nat) => (n : Int)) := fun z hz => by
    obtain ⟨p, hp, rfl⟩ := h1 z hz
    have := hG.inside _ hp
    exact List.mem_map.2 ⟨p.1, by rw [List.mem_range'_1]; omega, rfl⟩
  have h3 := nodup_le _ _ h.1 (fun x hx => h2 hx)
  simp only [List.length_map, List.length_range'] at h3
  have := hG.sizes.2.2.2.1
  omega
theorem stands_sum {S : St} (hG : GoodS S) : ∀ (l : List Int), LokP S l → (l.map (standsP S)).flatten.length ≤ l.length * 67108864
  | [], _ => by simp
  | z :: l, h => by
    have ih := stands_sum hG l ⟨(List.nodup_cons.1 h.1).2, fun y hy => h.2 y (List.mem_cons_of_mem _ hy)⟩
    obtain ⟨n, T, rfl, h2⟩ := h.2 z List.mem_cons_self
    have h3 := hasT_of hG h2
    have h4 := stands_has h3
    have h5 := hasT_len hG h3
    have h6 : (risB none (headsL T).1).length ≤ (headsL T).1.length := risB_len _ _
    have h7 := headsL_len T
    rw [List.map_cons, List.flatten_cons, List.length_append, List.length_cons, h4]
    omega
end Go.Proofs.YtadokkffmekndaaGreatDoor
namespace Go.Proofs.YtadokkffmekndaaGreatDoor
open Go.RowKit

theorem goneZ_snoc : ∀ (l : List Int) (S : St) (z : Int), goneZ S (l ++ [z]) = (removeP (goneZ S l) z).1
  | [], _, _ => rfl
  | y :: l, S, z => goneZ_snoc l _ z
theorem take_snoc {α : Type} {l : List α} {k : Nat} {x : α} (h : l[k]? = some x) : l.take (k + 1) = l.take k ++ [x] := by rw [List.take_add_one, h]; rfl
theorem mfit_calls (n : Int) (w : World) :
    Calls Tryz.prog 32 #[.int .i64 n, .int .i64 2, .int .i64 64] w fun e w' => e = .returned (.bool (decide (2 ≤ n ∧ n ≤ 64))) ∧ w = w' := by
  by_cases h1 : (2 : Int) ≤ n
  · by_cases h2 : n ≤ 64
    · have hd : decide (2 ≤ n ∧ n ≤ 64) = true := decide_eq_true ⟨h1, h2⟩
      rw [hd]
      clear hd
      go_enter Tryz.func32, Tryz.ntmps32
      (repeat' (first | (go_big_may; fail) | go_values | go_skip | go_guarded | go_step | go_upon | go_back | dsimp only))
      go_ret
      exact ⟨rfl, rfl⟩
    · have hd : decide (2 ≤ n ∧ n ≤ 64) = false := decide_eq_false fun h => h2 h.2
      rw [hd]
      clear hd
      go_enter Tryz.func32, Tryz.ntmps32
      (repeat' (first | (go_big_may; fail) | go_values | go_skip | go_guarded | go_step | go_upon | go_back | dsimp only))
      go_ret
      exact ⟨rfl, rfl⟩
  · have hd : decide (2 ≤ n ∧ n ≤ 64) = false := decide_eq_false fun h => h1 h.1
    rw [hd]
    clear hd
    go_enter Tryz.func32, Tryz.ntmps32
    (repeat' (first | (go_big_may; fail) | go_values | go_skip | go_guarded | go_step | go_upon | go_back | dsimp only))
    go_ret
    exact ⟨rfl, rfl⟩
set_option maxHeartbeats 800000 in
theorem Index_ints (L : List Int) (x : Int) (v : Value) (w : World) (hv : RdRow w v L.length 1 (intsV L)) :
    Calls Tryz.prog 95 #[v, .int .i64 x] w fun e w' => (∃ i : Int, e = .returned (.int .i64 i) ∧ (0 ≤ i ↔ x ∈ L)) ∧ w = w' := by
  obtain ⟨a, cap, rfl, hc1, hc2⟩ := hv.shape
  unfold maxLen at hc2
  have HV := Lib.hid hv
  clear hv
  go_enter Tryz.func95, Tryz.ntmps95
  (repeat' (first | (go_big_may; fail) | go_values | go_skip | go_guarded | go_step | go_upon | go_back | dsimp only))
  go_loopw [8] (fun vi wr => ∃ k : Nat, vi = .int .i64 k ∧ k ≤ L.length ∧ x ∉ L.take k ∧ wr = w) (fun i _ => L.length - (intOf i).toNat)
  case atStart => exact ⟨0, rfl, Nat.zero_le _, by simp, rfl⟩
  case round =>
    obtain ⟨k, rfl, hk, hno, rfl⟩ := hrel
    have HNO := Lib.hid hno
    by_cases hlt : k < L.length
    · obtain ⟨y, hy⟩ : ∃ y, L[k]? = some y := ⟨_, List.getElem?_eq_getElem hlt⟩
      obtain ⟨gb, off, cp, hsl, hcell⟩ := HV.out.intA hy
      simp only [Value.slice.injEq] at hsl
      obtain ⟨hao, _, hcv⟩ := hsl
      subst hao
      subst hcv
      have hi0 : (0 : Int) ≤ k := by omega
      have hi1 : (k : Int) < L.length := by omega
      have hwr : IntKind.i64.wrap ((k : Int) + 1) = ((k + 1 : Nat) : Int) := by rw [IntKind.wrap_i64] <;> omega
      by_cases hyx : x = y
      · subst hyx
        have hq : (x == x) = true := by simp
        have HM := Lib.hid (List.mem_of_getElem? hy)
        clear hno hy
        (repeat' (first | (go_big_may; fail) | go_values | go_skip | go_guarded | go_step | go_upon | go_back | dsimp only))
        go_ret
        exact ⟨⟨_, rfl, fun _ => HM.out, fun _ => by omega⟩, rfl⟩
      · have hq : (x == y) = false := by simp [hyx]
        have hno2 : x ∉ L.take (k + 1) := by
          rw [take_snoc hy]
          simp only [List.mem_append, List.mem_singleton, not_or]
          exact ⟨hno, hyx⟩
        have HNO2 := Lib.hid hno2
        clear hno hy hno2 hyx
        (repeat' (first | (go_big_may; fail) | go_values | go_skip | go_guarded | go_step | go_upon | go_back | dsimp only))
        go_roundw
        case rel => exact ⟨k + 1, rfl, hlt, HNO2.out, trivial⟩
        case measure => simp [intOf]; omega
    · have hi1 : ¬ (k : Int) < L.length := by omega
      rw [List.take_of_length_le (by omega)] at hno
      have HM := Lib.hid hno
      clear hno
      (repeat' (first | (go_big_may; fail) | go_values | go_skip | go_guarded | go_step | go_upon | go_back | dsimp only))
      go_ret
      exact ⟨⟨-1, rfl, fun h => absurd h (by decide), fun h => absurd h HM.out⟩, rfl⟩
theorem Contains_ints (L : List Int) (x : Int) (v : Value) (w : World) (hv : RdRow w v L.length 1 (intsV L)) :
    Calls Tryz.prog 60 #[v, .int .i64 x] w fun e w' => e = .returned (.bool (decide (x ∈ L))) ∧ w = w' := by
  have HI := Lib.hid (Index_ints L x v w hv)
  clear hv
  go_enter Tryz.func60, Tryz.ntmps60
  (repeat' (first | (go_big_may; fail) | go_values | go_skip | go_guarded | go_step | go_upon | go_back | dsimp only))
  refine HI.out.mono ?_
  rintro e w' ⟨⟨i, rfl, hi⟩, rfl⟩
  have hd : decide (x ∈ L) = decide (0 ≤ i) := decide_eq_decide.2 hi.symm
  have HD := Lib.hid hd
  clear hd hi HI
  (repeat' (first | (go_big_may; fail) | go_values | go_skip | go_guarded | go_step | go_upon | go_back | dsimp only))
  go_ret
  rw [HD.out]
  exact ⟨rfl, rfl⟩
section
variable {W w : World} {R : Thing} {b : Nat} {ef : Nat → Nat × Nat} {S : St} {l : List Int} {v : Value}
theorem RdRow.takeI {w : World} {ao : Option Addr} {n cp : Nat} {l : List Int} (h : RdRow w (.slice ao n cp) l.length 1 (intsV l)) {k : Nat} (hk : k ≤ l.length) : RdRow w (.slice ao k cp) (l.take k).length 1 (intsV (l.take k)) := by
  obtain ⟨h1, a, cap, h2, h3, h4, h5⟩ := h
  simp only [Value.slice.injEq] at h2
  obtain ⟨rfl, rfl, rfl⟩ := h2
  refine ⟨by simp [intsV], ao, cp, by rw [List.length_take, Nat.min_eq_left hk], by rw [List.length_take]; omega, h4, fun j u hj => ?_⟩
  have h6 : (intsV l)[j]? = some u := by
    simp only [intsV, List.getElem?_map, List.getElem?_take] at hj ⊢
    split at hj
    · exact hj
    · simp at hj
  exact h5 j u h6
set_option maxRecDepth 100000 in
set_option maxHeartbeats 1600000 in
theorem remove_at (h : At W w (Both (StoreT b S) R)) (hR : Stable R) (hF : Fails W ef fails13) (hG : GoodS S) (hz : ∀ z ∈ l, inI64 z) (hlen : l.length ≤ 1099511627776) (hv : ∃ ao cp, v = .slice ao l.length cp) (hrd : ∀ w', At W w' R → RdRow w' v l.length 1 (intsV l)) :
    Calls Tryz.prog 62 #[.pointer (some ⟨b, 0, none⟩), v] w fun e w' => e = .returned (.tuple #[]) ∧ At W w' (Both (StoreT b (goneZ S l)) R) := by
  obtain ⟨av, cv, rfl⟩ := hv
  have HF := Lib.hid (hF.less (fl' := fails11) (by decide))
  have HR := Lib.hid hR
  have HG := Lib.hid hG
  have HZ := Lib.hid hz
  have HRD := Lib.hid hrd
  have H := Lib.hid h
  clear h hR hF hG hz hrd
  go_enter Tryz.func62, Tryz.ntmps62
  (repeat' (first | (go_big_may; fail) | go_values | go_skip | go_guarded | go_step | go_upon | go_back | dsimp only))
  go_loopw [8] (fun vi wr => ∃ k : Nat, vi = .int .i64 k ∧ k ≤ l.length ∧ At W wr (Both (StoreT b (goneZ S (l.take k))) R)) (fun i _ => l.length - (intOf i).toNat)
  case atStart => exact ⟨0, rfl, Nat.zero_le _, H.out⟩
  case round =>
    obtain ⟨k, rfl, hk, h1⟩ := hrel
    by_cases hlt : k < l.length
    · obtain ⟨y, hy⟩ : ∃ y, l[k]? = some y := ⟨_, List.getElem?_eq_getElem hlt⟩
      obtain ⟨gb, off, cp, hsl, hcell⟩ := (HRD.out _ h1.drop).intA hy
      simp only [Value.slice.injEq] at hsl
      obtain ⟨hao, _, hcv⟩ := hsl
      subst hao
      subst hcv
      have hi0 : (0 : Int) ≤ k := by omega
      have hi1 : (k : Int) < l.length := by omega
      have hwr : IntKind.i64.wrap ((k : Int) + 1) = ((k + 1 : Nat) : Int) := by rw [IntKind.wrap_i64] <;> omega
      have hrm := Remove_7 h1 HR.out (fails11_7 HF.out) (HZ.out y (List.mem_of_getElem? hy)) (goneZ_good (l.take k) HG.out).1.le
      have hs := goneZ_snoc (l.take k) S y
      rw [← take_snoc hy] at hs
      rw [← hs] at hrm
      have HRM := Lib.hid hrm
      generalize errV ef (removeP (goneZ S (l.take k)) y).2 = ev at *
      clear hrm hs h1 hy
      (repeat' (first | (go_big_may; fail) | go_values | go_skip | go_guarded | go_step | go_upon | go_back | dsimp only))
      refine HRM.out.mono ?_
      rintro e w1 ⟨rfl, h2⟩
      have H2 := Lib.hid h2
      clear h2 HRM
      (repeat' (first | (go_big_may; fail) | go_values | go_skip | go_guarded | go_step | go_upon | go_back | dsimp only))
      go_roundw
      case rel => exact ⟨k + 1, rfl, hlt, H2.out⟩
      case measure => simp [intOf]; omega
    · have hi1 : ¬ (k : Int) < l.length := by omega
      rw [List.take_of_length_le (by omega)] at h1
      have H1 := Lib.hid h1
      clear h1
      (repeat' (first | (go_big_may; fail) | go_values | go_skip | go_guarded | go_step | go_upon | go_back | dsimp only))
      go_end0
      exact ⟨rfl, H1.out⟩
set_option maxRecDepth 100000 in
set_option maxHeartbeats 3200000 in
theorem look_at (h : At W w (Both (StoreT b S) R)) (hR : Stable R) (hF : Fails W ef fails13) (hz : ∀ z ∈ l, inI64 z) (hlen : l.length ≤ 1099511627776) (hv : ∃ ao cp, v = .slice ao l.length cp) (hrd : ∀ w', At W w' R → RdRow w' v l.length 1 (intsV l)) :
    Calls Tryz.prog 38 #[.pointer (some ⟨b, 0, none⟩), v] w fun e w' => e = .returned (errV ef (lookP S [] l)) ∧ At W w' (Both (StoreT b S) R) := by
  obtain ⟨av, cv, rfl⟩ := hv
  have HF := Lib.hid hF
  have HR := Lib.hid hR
  have HZ := Lib.hid hz
  have HRD := Lib.hid hrd
  have H := Lib.hid h
  have neqn : ∀ wz : World, (binOp .neq tErr .nilIface .nilIface).run Tryz.prog wz = .ok (.bool false) wz := fun wz => neq_nil wz
  obtain ⟨res, hres⟩ : ∃ res, res = lookP S [] l := ⟨_, rfl⟩
  rw [← hres]
  have HRES := Lib.hid hres
  clear h hR hF hz hrd hres
  go_enter Tryz.func38, Tryz.ntmps38
  (repeat' (first | (go_big_may; fail) | go_values | go_skip | go_guarded | go_step | go_upon | go_back | dsimp only))
  go_loopw [11] (fun vi wr => ∃ k : Nat, vi = .int .i64 k ∧ k ≤ l.length ∧ res = lookP S (l.take k) (l.drop k) ∧ At W wr (Both (StoreT b S) R)) (fun i _ => l.length - (intOf i).toNat)
  case atStart => exact ⟨0, rfl, Nat.zero_le _, by rw [HRES.out]; rfl, H.out⟩
  case round =>
    obtain ⟨k, rfl, hk, hlk, h1⟩ := hrel
    clear HRES H
    by_cases hlt : k < l.length
    · obtain ⟨y, hy⟩ : ∃ y, l[k]? = some y := ⟨_, List.getElem?_eq_getElem hlt⟩
      have hdr : l.drop k = y :: l.drop (k + 1) := by
        obtain ⟨h1, h2⟩ := List.getElem?_eq_some_iff.1 hy
        rw [List.drop_eq_getElem_cons h1, h2]
      rw [hdr, lookP] at hlk
      obtain ⟨gb, off, cp, hsl, hcell⟩ := (HRD.out _ h1.drop).intA hy
      simp only [Value.slice.injEq] at hsl
      obtain ⟨hao, _, hcv⟩ := hsl
      subst hao
      subst hcv
      have hi0 : (0 : Int) ≤ k := by omega
      have hi1 : (k : Int) < l.length := by omega
      have hwr : IntKind.i64.wrap ((k : Int) + 1) = ((k + 1 : Nat) : Int) := by rw [IntKind.wrap_i64] <;> omega
      have hrm := Read_at h1 HR.out (HF.out.less (by decide)) (HZ.out y (List.mem_of_getElem? hy)) (a := 0) (n := 0) (by unfold inI64; omega) (by unfold inI64; omega)
      have hcp := (HRD.out _ h1.drop).shape
      obtain ⟨_, _, hcs, hcp1, hcp2⟩ := hcp
      simp only [Value.slice.injEq] at hcs
      obtain ⟨rfl, _, rfl⟩ := hcs
      unfold maxLen at hcp2
      generalize readT S y 0 0 = T at *
      by_cases hc : readC S y 0 0 = 0
      · rw [if_neg (by simpa using hc)] at hlk
        rw [hc, errV_zero] at hrm
        have HRM := Lib.hid hrm
        have HLK := Lib.hid hlk
        have hct := fun (w' : World) (h' : At W w' R) => Contains_ints (l.take k) y _ w' ((HRD.out w' h').takeI hk)
        have HTK := Lib.hid (take_snoc hy)
        clear hrm h1 hy hdr hlk hc
        by_cases hm : y ∈ l.take k
        · rw [decide_eq_true hm] at hct
          have HCT := Lib.hid hct
          have HM := Lib.hid hm
          clear hct hm
          (repeat' (first | (go_big_may; fail) | go_values | go_skip | go_guarded | go_step | go_upon | go_back | dsimp only))
          refine HRM.out.mono ?_
          rintro e w1 ⟨rfl, h2⟩
          have H2 := Lib.hid h2
          have cg := (HF.out.below h2.below).cell (12, 2) (by decide)
          clear h2 HRM
          (repeat' (first | (go_big_may; fail) | go_values | go_skip | go_guarded | go_step | go_upon | go_back | dsimp only))
          refine (HCT.out w1 H2.out.drop).mono ?_
          rintro e w2 ⟨rfl, rfl⟩
          (repeat' (first | (go_big_may; fail) | go_values | go_skip | go_guarded | go_step | go_upon | go_back | dsimp only))
          go_ret
          have hl := HLK.out
          rw [if_pos HM.out] at hl
          rw [hl, errV_pos ef (by decide)]
          exact ⟨rfl, H2.out⟩
        · rw [decide_eq_false hm] at hct
          have HCT := Lib.hid hct
          have HM := Lib.hid hm
          clear hct hm
          (repeat' (first | (go_big_may; fail) | go_values | go_skip | go_guarded | go_step | go_upon | go_back | dsimp only))
          refine HRM.out.mono ?_
          rintro e w1 ⟨rfl, h2⟩
          have H2 := Lib.hid h2
          clear h2 HRM
          (repeat' (first | (go_big_may; fail) | go_values | go_skip | go_guarded | go_step | go_upon | go_back | dsimp only))
          refine (HCT.out w1 H2.out.drop).mono ?_
          rintro e w2 ⟨rfl, rfl⟩
          (repeat' (first | (go_big_may; fail) | go_values | go_skip | go_guarded | go_step | go_upon | go_back | dsimp only))
          go_roundw
          case rel => exact ⟨k + 1, rfl, hlt, by have hl := HLK.out; rw [if_neg HM.out] at hl; rw [HTK.out]; exact hl, H2.out⟩
          case measure => simp [intOf]; omega
      · rw [if_pos (by simpa using hc)] at hlk
        rw [errV_pos ef hc] at hrm
        have HRM := Lib.hid hrm
        have HLK := Lib.hid hlk
        have HC := Lib.hid hc
        have neqi := run_neq_iface_nil2 ⟨(ef (readC S y 0 0)).1, (ef (readC S y 0 0)).2, none⟩
        clear hrm h1 hy hdr hlk hc
        (repeat' (first | (go_big_may; fail) | go_values | go_skip | go_guarded | go_step | go_upon | go_back | dsimp only))
        refine HRM.out.mono ?_
        rintro e w1 ⟨rfl, h2⟩
        have H2 := Lib.hid h2
        clear h2 HRM
        (repeat' (first | (go_big_may; fail) | go_values | go_skip | go_guarded | go_step | go_upon | go_back | dsimp only))
        go_ret
        rw [HLK.out, errV_pos ef HC.out]
        exact ⟨rfl, H2.out⟩
    · have hi1 : ¬ (k : Int) < l.length := by omega
      rw [List.drop_eq_nil_of_le (by omega)] at hlk
      have HLK := Lib.hid hlk
      have H1 := Lib.hid h1
      clear h1 hlk
      (repeat' (first | (go_big_may; fail) | go_values | go_skip | go_guarded | go_step | go_upon | go_back | dsimp only))
      go_ret
      rw [HLK.out]
      exact ⟨(congrArg Ending.returned (errV_zero ef).symm), H1.out⟩
end
end Go.Proofs.YtadokkffmekndaaGreatDoor
namespace Go.Proofs.YtadokkffmekndaaGreatDoor
open Go.RowKit

/-- The failures that a merge or a sort answers. -/
def okM (c : Nat) : Prop := okB c ∨ c = 1 ∨ c = 2 ∨ c = 3 ∨ c = 5 ∨ c = 12
theorem new_fok {S : St} {b : Int} (hb : 1 ≤ b ∧ b ≤ 65536) : FOk S ⟨[], b.toNat, [], 0⟩ := ⟨by dsimp only; omega, fun _ => by show 0 < b.toNat; omega, rfl, okC_zero, (fun n hn => by cases hn), Nat.zero_le _⟩
end Go.Proofs.YtadokkffmekndaaGreatDoor
