/- merge: lists of sealed runs, each named once; no program in sight. · merge: remove, look and fit walked; slices.Contains of ints. · batch: the failures that a former's calls answer, in plain Lean; hornbooklaw10.code walked. · hornbookref10: Stands, remove, Look walked. -/
import Derived.Test.YtadokkffmekndaaGreatDoorBuMgPlLaw45
import Derived.Test.YtadokkffmekndaaGreatDoorBuMgPlLaw35
import Derived.Test.YtadokkffmekndaaGreatDoorBuMgPlLaw47
import Derived.Test.YtadokkffmekndaaGreatDoorBuMgPlLaw15
import Derived.Test.YtadokkffmekndaaGreatDoorBuMgPlLaw39
import Derived.Test.YtadokkffmekndaaGreatDoorBuMgPlLaw42
import Derived.Test.YtadokkffmekndaaGreatDoorBuMgPlLaw12
import Derived.Test.YtadokkffmekndaaGreatDoorBuMgPlLaw46
import Derived.Test.YtadokkffmekndaaGreatDoorBuMgPlLaw21
import Derived.Test.YtadokkffmekndaaGreatDoorBuMgPlLaw20
import Derived.Deep.QuietTactic
import Derived.BigQuiet
set_option linter.unusedSimpArgs false
set_option linter.unusedVariables false
namespace Go.Proofs.YtadokkffmekndaaGreatDoor
open Go.RowKit
def LokP (S : St) (l : List Int) : Prop := l.Nodup ∧ ∀ z ∈ l, ∃ (n : Nat) (T : List UInt8), z = (n : Int) ∧ (n, (⟨T, true⟩ : RunD)) ∈ S.runs
theorem hasT_of {S : St} (hG : GoodS S) {n : Nat} {T : List UInt8} (h : (n, (⟨T, true⟩ : RunD)) ∈ S.runs) : HasT S n T := ⟨_, find_of_mem hG h, rfl⟩
theorem hasT_len {S : St} (hG : GoodS S) {n : Nat} {T : List UInt8} (h : HasT S n T) : T.length ≤ 67108864 := by
  obtain ⟨p, hp, hT⟩ := h
  have h1 := hG.le _ hp
  rw [hT] at h1
  have h2 := hG.sizes
  dsimp only at h1
  omega
theorem stands_has {S : St} {n : Nat} {T : List UInt8} (h : HasT S n T) : standsP S n = risB none (headsL T).1 := by
  obtain ⟨⟨k, t, s⟩, hp, hT⟩ := h
  cases hT
  have e : readT S n 0 (sizeN S n : Nat) = T := by
    unfold readT sizeN
    rw [hp]
    dsimp only
    rw [if_neg (by decide), if_neg (by omega)]
    simp
  unfold standsP
  rw [e]
theorem read_run0 {S : St} {z : Int} (h : readC S z 0 0 = 0) : ∃ (n : Nat) (T : List UInt8), z = (n : Int) ∧ (n, (⟨T, true⟩ : RunD)) ∈ S.runs := by
  unfold readC at h
  cases hf : S.find z with
  | none => rw [hf] at h; exact absurd h (by decide)
  | some p =>
    rw [hf] at h
    dsimp only at h
    obtain ⟨k, t, s⟩ := p
    have h1 := find_key hf
    have h2 := (find_mem hf).1
    cases s with
    | false => exact absurd h (by simp)
    | true => exact ⟨k, t, by dsimp only at h1; omega, h2⟩
theorem look_lokN {S : St} : ∀ (l seen : List Int), lookP S seen l = 0 → l.Nodup ∧ (∀ z ∈ l, z ∉ seen) ∧ ∀ z ∈ l, ∃ (n : Nat) (T : List UInt8), z = (n : Int) ∧ (n, (⟨T, true⟩ : RunD)) ∈ S.runs
  | [], _, _ => ⟨List.nodup_nil, by simp, by simp⟩
  | z :: l, seen, h => by
    unfold lookP at h
    by_cases h1 : readC S z 0 0 = 0
    · rw [if_neg (by simpa using h1)] at h
      by_cases h2 : z ∈ seen
      · rw [if_pos h2] at h; exact absurd h (by decide)
      · rw [if_neg h2] at h
        obtain ⟨k1, k2, k3⟩ := look_lokN l (seen ++ [z]) h
        refine ⟨List.nodup_cons.2 ⟨fun hz => k2 z hz (by simp), k1⟩, fun y hy => ?_, fun y hy => ?_⟩
        · rcases List.mem_cons.1 hy with rfl | hy
          · exact h2
          · exact fun hs => k2 y hy (by simp [hs])
        · rcases List.mem_cons.1 hy with rfl | hy
          · exact read_run0 h1
          · exact k3 y hy
    · rw [if_pos (by simpa using h1)] at h
      exact absurd h h1
theorem look_lok {S : St} {l : List Int} (h : lookP S [] l = 0) : LokP S l := ⟨(look_lokN l [] h).1, (look_lokN l [] h).2.2⟩
theorem LokP.take {S : St} {l : List Int} (h : LokP S l) (k : Nat) : LokP S (l.take k) := ⟨h.1.sublist (List.take_sublist _ _), fun z hz => h.2 z (List.mem_of_mem_take hz)⟩
theorem LokP.runs {S S' : St} {l : List Int} (h : LokP S l) (hs : S'.runs = S.runs) : LokP S' l := ⟨h.1, fun z hz => by rw [hs]; exact h.2 z hz⟩
theorem LokP.create {S : St} (hG : GoodS S) {l : List Int} (h : LokP S l) (hc : (createP S).2.2 = 0) : LokP (createP S).1 l := by
  obtain ⟨htop, _⟩ := create_top hG hc
  exact ⟨h.1, fun z hz => by
    obtain ⟨n, T, h1, h2⟩ := h.2 z hz
    exact ⟨n, T, h1, by rw [htop.runs]; exact List.mem_append_left _ h2⟩⟩
theorem stands_create {S : St} (hG : GoodS S) {l : List Int} (h : LokP S l) (hc : (createP S).2.2 = 0) {z : Int} (hz : z ∈ l) : standsP (createP S).1 z = standsP S z := by
  obtain ⟨n, T, rfl, h2⟩ := h.2 z hz
  obtain ⟨htop, _⟩ := create_top hG hc
  rw [stands_has (hasT_of hG h2), stands_has (hasT_of htop.good (by rw [htop.runs]; exact List.mem_append_left _ h2))]
theorem all_create {S : St} (hG : GoodS S) {l : List Int} (h : LokP S l) (hc : (createP S).2.2 = 0) : allP (createP S).1 l = allP S l := by
  unfold allP
  rw [List.map_congr_left fun z hz => stands_create hG h hc hz]
theorem LokP.z64 {S : St} (hG : GoodS S) {l : List Int} (h : LokP S l) : ∀ z ∈ l, inI64 z := fun z hz => by
  obtain ⟨n, T, rfl, h2⟩ := h.2 z hz
  have := (hG.inside _ h2).2
  have := hG.sizes.2.2.2.1
  unfold inI64; dsimp only at *; omega
theorem LokP.round {S : St} (hG : GoodS S) {l : List Int} (h : LokP S l) (k : Nat) (h0 : (writtenP S (allP S (l.take k))).2.2 = 0) :
    GoodS (goneZ (writtenP S (allP S (l.take k))).1 (l.take k)) ∧ LokP (goneZ (writtenP S (allP S (l.take k))).1 (l.take k)) (l.drop k ++ [((writtenP S (allP S (l.take k))).2.1 : Int)]) ∧ (writtenP S (allP S (l.take k))).2.1 ≤ 16777216 ∧ GoodS (writtenP S (allP S (l.take k))).1 := by
  obtain ⟨g1, g2, g3⟩ := written_top hG (allP_fits S (l.take k))
  obtain ⟨k1, k2, k3, _⟩ := goneZ_good (l.take k) g1
  rcases g3 with ⟨w1, w2, w3, w4⟩ | ⟨w1, _⟩
  · have hsz := g1.sizes.2.2.2.1
    have hnd : (l.take k ++ l.drop k).Nodup := by rw [List.take_append_drop]; exact h.1
    have hdj := (List.nodup_append.1 hnd)
    have hold : ∀ z ∈ l, z ≠ ((S.made + 1 : Nat) : Int) := fun z hz e => by
      obtain ⟨n, T, rfl, h2⟩ := h.2 z hz
      have := (hG.inside _ h2).2
      dsimp only at this
      omega
    refine ⟨k1, ⟨?_, ?_⟩, by omega, g1⟩
    · rw [w2]
      refine List.nodup_append.2 ⟨hdj.2.1, by simp, fun a ha b hb => ?_⟩
      rw [List.mem_singleton.1 hb]
      exact hold a (List.mem_of_mem_drop ha)
    · intro z hz
      rw [k3, w4]
      rcases List.mem_append.1 hz with hz | hz
      · obtain ⟨n, T, rfl, h2⟩ := h.2 z (List.mem_of_mem_drop hz)
        refine ⟨n, T, rfl, List.mem_filter.2 ⟨List.mem_append_left _ h2, decide_eq_true fun hm => ?_⟩⟩
        exact hdj.2.2 _ hm _ hz rfl
      · rw [List.mem_singleton.1 hz, w2]
        refine ⟨S.made + 1, _, rfl, List.mem_filter.2 ⟨List.mem_append_right _ List.mem_cons_self, decide_eq_true fun hm => ?_⟩⟩
        exact hold _ (List.mem_of_mem_take hm) rfl
  · exact absurd h0 w1
theorem LokP.bad {S : St} (hG : GoodS S) (l m : List Int) : GoodS (writtenP S (allP S l)).1 ∧ GoodS (goneZ (writtenP S (allP S l)).1 m) :=
  ⟨(written_top hG (allP_fits S l)).1, (goneZ_good m (written_top hG (allP_fits S l)).1).1⟩
theorem LokP.few {S : St} (hG : GoodS S) {l : List Int} (h : LokP S l) : l.length ≤ 16777216 := by
  have h1 : ∀ z ∈ l, ∃ p ∈ S.runs, (p.1 : Int) = z := fun z hz => by
    obtain ⟨n, T, rfl, h2⟩ := h.2 z hz
    exact ⟨_, h2, rfl⟩
  have h2 : l ⊆ (List.range' 1 S.made).map (fun (n : Nat) => (n : Int)) := fun z hz => by
    obtain ⟨p, hp, rfl⟩ := h1 z hz
    have := hG.inside _ hp
    exact List.mem_map.2 ⟨p.1, by rw [List.mem_range'_1]; omega, rfl⟩
  have h3 := nodup_le _ _ h.1 (fun x hx => h2 hx)
  simp only [List.length_map, List.length_range'] at h3
  have := hG.sizes.2.2.2.1
  omega
theorem stands_sum {S : St} (hG : GoodS S) : ∀ (l : List Int), LokP S l → (l.map (standsP S)).flatten.length ≤ l.length * 67108864
  | [], _ => by simp
  | z :: l, h => by
    have ih := stands_sum hG l ⟨(List.nodup_cons.1 h.1).2, fun y hy => h.2 y (List.mem_cons_of_mem _ hy)⟩
    obtain ⟨n, T, rfl, h2⟩ := h.2 z List.mem_cons_self
    have h3 := hasT_of hG h2
    have h4 := stands_has h3
    have h5 := hasT_len hG h3
    have h6 : (risB none (headsL T).1).length ≤ (headsL T).1.length := risB_len _ _
    have h7 := headsL_len T
    rw [List.map_cons, List.flatten_cons, List.length_append, List.length_cons, h4]
    omega
theorem goneZ_snoc : ∀ (l : List Int) (S : St) (z : Int), goneZ S (l ++ [z]) = (removeP (goneZ S l) z).1
  | [], _, _ => rfl
  | y :: l, S, z => goneZ_snoc l _ z
theorem take_snoc {α : Type} {l : List α} {k : Nat} {x : α} (h : l[k]? = some x) : l.take (k + 1) = l.take k ++ [x] := by rw [List.take_add_one, h]; rfl
theorem mfit_calls (n : Int) (w : World) :
    Calls Tryz.prog 32 #[.int .i64 n, .int .i64 2, .int .i64 64] w fun e w' => e = .returned (.bool (decide (2 ≤ n ∧ n ≤ 64))) ∧ w = w' := by
  by_cases h1 : (2 : Int) ≤ n
  · by_cases h2 : n ≤ 64
    · have hd : decide (2 ≤ n ∧ n ≤ 64) = true := decide_eq_true ⟨h1, h2⟩
      rw [hd]
      clear hd
      go_enter Tryz.func32, Tryz.ntmps32
      (repeat' (first | go_values | go_skip | go_guarded | go_step | go_upon | go_back | dsimp only))
      go_ret
      exact ⟨rfl, rfl⟩
    · have hd : decide (2 ≤ n ∧ n ≤ 64) = false := decide_eq_false fun h => h2 h.2
      rw [hd]
      clear hd
      go_enter Tryz.func32, Tryz.ntmps32
      (repeat' (first | go_values | go_skip | go_guarded | go_step | go_upon | go_back | dsimp only))
      go_ret
      exact ⟨rfl, rfl⟩
  · have hd : decide (2 ≤ n ∧ n ≤ 64) = false := decide_eq_false fun h => h1 h.1
    rw [hd]
    clear hd
    go_enter Tryz.func32, Tryz.ntmps32
    (repeat' (first | go_values | go_skip | go_guarded | go_step | go_upon | go_back | dsimp only))
    go_ret
    exact ⟨rfl, rfl⟩
set_option maxHeartbeats 800000 in
theorem Index_ints (L : List Int) (x : Int) (v : Value) (w : World) (hv : RdRow w v L.length 1 (intsV L)) :
    Calls Tryz.prog 95 #[v, .int .i64 x] w fun e w' => (∃ i : Int, e = .returned (.int .i64 i) ∧ (0 ≤ i ↔ x ∈ L)) ∧ w = w' := by
  obtain ⟨a, cap, rfl, hc1, hc2⟩ := hv.shape
  unfold maxLen at hc2
  have HV := Lib.hid hv
  clear hv
  go_enter Tryz.func95, Tryz.ntmps95
  (repeat' (first | go_values | go_skip | go_guarded | go_step | go_upon | go_back | dsimp only))
  go_loopw [8] (fun vi wr => ∃ k : Nat, vi = .int .i64 k ∧ k ≤ L.length ∧ x ∉ L.take k ∧ wr = w) (fun i _ => L.length - (intOf i).toNat)
  case atStart => exact ⟨0, rfl, Nat.zero_le _, by simp, rfl⟩
  case round =>
    obtain ⟨k, rfl, hk, hno, rfl⟩ := hrel
    have HNO := Lib.hid hno
    by_cases hlt : k < L.length
    · obtain ⟨y, hy⟩ : ∃ y, L[k]? = some y := ⟨_, List.getElem?_eq_getElem hlt⟩
      obtain ⟨gb, off, cp, hsl, hcell⟩ := HV.out.intA hy
      simp only [Value.slice.injEq] at hsl
      obtain ⟨hao, _, hcv⟩ := hsl
      subst hao
      subst hcv
      have hi0 : (0 : Int) ≤ k := by omega
      have hi1 : (k : Int) < L.length := by omega
      have hwr : IntKind.i64.wrap ((k : Int) + 1) = ((k + 1 : Nat) : Int) := by rw [IntKind.wrap_i64] <;> omega
      by_cases hyx : x = y
      · subst hyx
        have hq : (x == x) = true := by simp
        have HM := Lib.hid (List.mem_of_getElem? hy)
        clear hno hy
        (repeat' (first | go_values | go_skip | go_guarded | go_step | go_upon | go_back | dsimp only))
        go_ret
        exact ⟨⟨_, rfl, fun _ => HM.out, fun _ => by omega⟩, rfl⟩
      · have hq : (x == y) = false := by simp [hyx]
        have hno2 : x ∉ L.take (k + 1) := by
          rw [take_snoc hy]
          simp only [List.mem_append, List.mem_singleton, not_or]
          exact ⟨hno, hyx⟩
        have HNO2 := Lib.hid hno2
        clear hno hy hno2 hyx
        (repeat' (first | go_values | go_skip | go_guarded | go_step | go_upon | go_back | dsimp only))
        go_roundw
        case rel => exact ⟨k + 1, rfl, hlt, HNO2.out, trivial⟩
        case measure => simp [intOf]; omega
    · have hi1 : ¬ (k : Int) < L.length := by omega
      rw [List.take_of_length_le (by omega)] at hno
      have HM := Lib.hid hno
      clear hno
      (repeat' (first | go_values | go_skip | go_guarded | go_step | go_upon | go_back | dsimp only))
      go_ret
      exact ⟨⟨-1, rfl, fun h => absurd h (by decide), fun h => absurd h HM.out⟩, rfl⟩
theorem Contains_ints (L : List Int) (x : Int) (v : Value) (w : World) (hv : RdRow w v L.length 1 (intsV L)) :
    Calls Tryz.prog 60 #[v, .int .i64 x] w fun e w' => e = .returned (.bool (decide (x ∈ L))) ∧ w = w' := by
  have HI := Lib.hid (Index_ints L x v w hv)
  clear hv
  go_enter Tryz.func60, Tryz.ntmps60
  (repeat' (first | go_values | go_skip | go_guarded | go_step | go_upon | go_back | dsimp only))
  refine HI.out.mono ?_
  rintro e w' ⟨⟨i, rfl, hi⟩, rfl⟩
  have hd : decide (x ∈ L) = decide (0 ≤ i) := decide_eq_decide.2 hi.symm
  have HD := Lib.hid hd
  clear hd hi HI
  (repeat' (first | go_values | go_skip | go_guarded | go_step | go_upon | go_back | dsimp only))
  go_ret
  rw [HD.out]
  exact ⟨rfl, rfl⟩
section
variable {W w : World} {R : Thing} {b : Nat} {ef : Nat → Nat × Nat} {S : St} {l : List Int} {v : Value}
theorem RdRow.takeI {w : World} {ao : Option Addr} {n cp : Nat} {l : List Int} (h : RdRow w (.slice ao n cp) l.length 1 (intsV l)) {k : Nat} (hk : k ≤ l.length) : RdRow w (.slice ao k cp) (l.take k).length 1 (intsV (l.take k)) := by
  obtain ⟨h1, a, cap, h2, h3, h4, h5⟩ := h
  simp only [Value.slice.injEq] at h2
  obtain ⟨rfl, rfl, rfl⟩ := h2
  refine ⟨by simp [intsV], ao, cp, by rw [List.length_take, Nat.min_eq_left hk], by rw [List.length_take]; omega, h4, fun j u hj => ?_⟩
  have h6 : (intsV l)[j]? = some u := by
    simp only [intsV, List.getElem?_map, List.getElem?_take] at hj ⊢
    split at hj
    · exact hj
    · simp at hj
  exact h5 j u h6
set_option maxRecDepth 100000 in
set_option maxHeartbeats 1600000 in
theorem remove_at (h : At W w (Both (StoreT b S) R)) (hR : Stable R) (hF : Fails W ef fails13) (hG : GoodS S) (hz : ∀ z ∈ l, inI64 z) (hlen : l.length ≤ 1099511627776) (hv : ∃ ao cp, v = .slice ao l.length cp) (hrd : ∀ w', At W w' R → RdRow w' v l.length 1 (intsV l)) :
    Calls Tryz.prog 62 #[.pointer (some ⟨b, 0, none⟩), v] w fun e w' => e = .returned (.tuple #[]) ∧ At W w' (Both (StoreT b (goneZ S l)) R) := by
  obtain ⟨av, cv, rfl⟩ := hv
  have HF := Lib.hid (hF.less (fl' := fails11) (by decide))
  have HR := Lib.hid hR
  have HG := Lib.hid hG
  have HZ := Lib.hid hz
  have HRD := Lib.hid hrd
  have H := Lib.hid h
  clear h hR hF hG hz hrd
  go_enter Tryz.func62, Tryz.ntmps62
  (repeat' (first | go_values | go_skip | go_guarded | go_step | go_upon | go_back | dsimp only))
  go_loopw [8] (fun vi wr => ∃ k : Nat, vi = .int .i64 k ∧ k ≤ l.length ∧ At W wr (Both (StoreT b (goneZ S (l.take k))) R)) (fun i _ => l.length - (intOf i).toNat)
  case atStart => exact ⟨0, rfl, Nat.zero_le _, H.out⟩
  case round =>
    obtain ⟨k, rfl, hk, h1⟩ := hrel
    by_cases hlt : k < l.length
    · obtain ⟨y, hy⟩ : ∃ y, l[k]? = some y := ⟨_, List.getElem?_eq_getElem hlt⟩
      obtain ⟨gb, off, cp, hsl, hcell⟩ := (HRD.out _ h1.drop).intA hy
      simp only [Value.slice.injEq] at hsl
      obtain ⟨hao, _, hcv⟩ := hsl
      subst hao
      subst hcv
      have hi0 : (0 : Int) ≤ k := by omega
      have hi1 : (k : Int) < l.length := by omega
      have hwr : IntKind.i64.wrap ((k : Int) + 1) = ((k + 1 : Nat) : Int) := by rw [IntKind.wrap_i64] <;> omega
      have hrm := Remove_7 h1 HR.out (fails11_7 HF.out) (HZ.out y (List.mem_of_getElem? hy)) (goneZ_good (l.take k) HG.out).1.le
      have hs := goneZ_snoc (l.take k) S y
      rw [← take_snoc hy] at hs
      rw [← hs] at hrm
      have HRM := Lib.hid hrm
      generalize errV ef (removeP (goneZ S (l.take k)) y).2 = ev at *
      clear hrm hs h1 hy
      (repeat' (first | go_values | go_skip | go_guarded | go_step | go_upon | go_back | dsimp only))
      refine HRM.out.mono ?_
      rintro e w1 ⟨rfl, h2⟩
      have H2 := Lib.hid h2
      clear h2 HRM
      (repeat' (first | go_values | go_skip | go_guarded | go_step | go_upon | go_back | dsimp only))
      go_roundw
      case rel => exact ⟨k + 1, rfl, hlt, H2.out⟩
      case measure => simp [intOf]; omega
    · have hi1 : ¬ (k : Int) < l.length := by omega
      rw [List.take_of_length_le (by omega)] at h1
      have H1 := Lib.hid h1
      clear h1
      (repeat' (first | go_values | go_skip | go_guarded | go_step | go_upon | go_back | dsimp only))
      go_end0
      exact ⟨rfl, H1.out⟩
set_option maxRecDepth 100000 in
set_option maxHeartbeats 3200000 in
theorem look_at (h : At W w (Both (StoreT b S) R)) (hR : Stable R) (hF : Fails W ef fails13) (hz : ∀ z ∈ l, inI64 z) (hlen : l.length ≤ 1099511627776) (hv : ∃ ao cp, v = .slice ao l.length cp) (hrd : ∀ w', At W w' R → RdRow w' v l.length 1 (intsV l)) :
    Calls Tryz.prog 38 #[.pointer (some ⟨b, 0, none⟩), v] w fun e w' => e = .returned (errV ef (lookP S [] l)) ∧ At W w' (Both (StoreT b S) R) := by
  obtain ⟨av, cv, rfl⟩ := hv
  have HF := Lib.hid hF
  have HR := Lib.hid hR
  have HZ := Lib.hid hz
  have HRD := Lib.hid hrd
  have H := Lib.hid h
  have neqn : ∀ wz : World, (binOp .neq tErr .nilIface .nilIface).run Tryz.prog wz = .ok (.bool false) wz := fun wz => neq_nil wz
  obtain ⟨res, hres⟩ : ∃ res, res = lookP S [] l := ⟨_, rfl⟩
  rw [← hres]
  have HRES := Lib.hid hres
  clear h hR hF hz hrd hres
  go_enter Tryz.func38, Tryz.ntmps38
  (repeat' (first | go_values | go_skip | go_guarded | go_step | go_upon | go_back | dsimp only))
  go_loopw [11] (fun vi wr => ∃ k : Nat, vi = .int .i64 k ∧ k ≤ l.length ∧ res = lookP S (l.take k) (l.drop k) ∧ At W wr (Both (StoreT b S) R)) (fun i _ => l.length - (intOf i).toNat)
  case atStart => exact ⟨0, rfl, Nat.zero_le _, by rw [HRES.out]; rfl, H.out⟩
  case round =>
    obtain ⟨k, rfl, hk, hlk, h1⟩ := hrel
    clear HRES H
    by_cases hlt : k < l.length
    · obtain ⟨y, hy⟩ : ∃ y, l[k]? = some y := ⟨_, List.getElem?_eq_getElem hlt⟩
      have hdr : l.drop k = y :: l.drop (k + 1) := by
        obtain ⟨h1, h2⟩ := List.getElem?_eq_some_iff.1 hy
        rw [List.drop_eq_getElem_cons h1, h2]
      rw [hdr, lookP] at hlk
      obtain ⟨gb, off, cp, hsl, hcell⟩ := (HRD.out _ h1.drop).intA hy
      simp only [Value.slice.injEq] at hsl
      obtain ⟨hao, _, hcv⟩ := hsl
      subst hao
      subst hcv
      have hi0 : (0 : Int) ≤ k := by omega
      have hi1 : (k : Int) < l.length := by omega
      have hwr : IntKind.i64.wrap ((k : Int) + 1) = ((k + 1 : Nat) : Int) := by rw [IntKind.wrap_i64] <;> omega
      have hrm := Read_at h1 HR.out (HF.out.less (by decide)) (HZ.out y (List.mem_of_getElem? hy)) (a := 0) (n := 0) (by unfold inI64; omega) (by unfold inI64; omega)
      have hcp := (HRD.out _ h1.drop).shape
      obtain ⟨_, _, hcs, hcp1, hcp2⟩ := hcp
      simp only [Value.slice.injEq] at hcs
      obtain ⟨rfl, _, rfl⟩ := hcs
      unfold maxLen at hcp2
      generalize readT S y 0 0 = T at *
      by_cases hc : readC S y 0 0 = 0
      · rw [if_neg (by simpa using hc)] at hlk
        rw [hc, errV_zero] at hrm
        have HRM := Lib.hid hrm
        have HLK := Lib.hid hlk
        have hct := fun (w' : World) (h' : At W w' R) => Contains_ints (l.take k) y _ w' ((HRD.out w' h').takeI hk)
        have HTK := Lib.hid (take_snoc hy)
        clear hrm h1 hy hdr hlk hc
        by_cases hm : y ∈ l.take k
        · rw [decide_eq_true hm] at hct
          have HCT := Lib.hid hct
          have HM := Lib.hid hm
          clear hct hm
          (repeat' (first | go_values | go_skip | go_guarded | go_step | go_upon | go_back | dsimp only))
          refine HRM.out.mono ?_
          rintro e w1 ⟨rfl, h2⟩
          have H2 := Lib.hid h2
          have cg := (HF.out.below h2.below).cell (12, 2) (by decide)
          clear h2 HRM
          (repeat' (first | go_values | go_skip | go_guarded | go_step | go_upon | go_back | dsimp only))
          refine (HCT.out w1 H2.out.drop).mono ?_
          rintro e w2 ⟨rfl, rfl⟩
          (repeat' (first | go_values | go_skip | go_guarded | go_step | go_upon | go_back | dsimp only))
          go_ret
          have hl := HLK.out
          rw [if_pos HM.out] at hl
          rw [hl, errV_pos ef (by decide)]
          exact ⟨rfl, H2.out⟩
        · rw [decide_eq_false hm] at hct
          have HCT := Lib.hid hct
          have HM := Lib.hid hm
          clear hct hm
          (repeat' (first | go_values | go_skip | go_guarded | go_step | go_upon | go_back | dsimp only))
          refine HRM.out.mono ?_
          rintro e w1 ⟨rfl, h2⟩
          have H2 := Lib.hid h2
          clear h2 HRM
          (repeat' (first | go_values | go_skip | go_guarded | go_step | go_upon | go_back | dsimp only))
          refine (HCT.out w1 H2.out.drop).mono ?_
          rintro e w2 ⟨rfl, rfl⟩
          (repeat' (first | go_values | go_skip | go_guarded | go_step | go_upon | go_back | dsimp only))
          go_roundw
          case rel => exact ⟨k + 1, rfl, hlt, by have hl := HLK.out; rw [if_neg HM.out] at hl; rw [HTK.out]; exact hl, H2.out⟩
          case measure => simp [intOf]; omega
      · rw [if_pos (by simpa using hc)] at hlk
        rw [errV_pos ef hc] at hrm
        have HRM := Lib.hid hrm
        have HLK := Lib.hid hlk
        have HC := Lib.hid hc
        have neqi := run_neq_iface_nil2 ⟨(ef (readC S y 0 0)).1, (ef (readC S y 0 0)).2, none⟩
        clear hrm h1 hy hdr hlk hc
        (repeat' (first | go_values | go_skip | go_guarded | go_step | go_upon | go_back | dsimp only))
        refine HRM.out.mono ?_
        rintro e w1 ⟨rfl, h2⟩
        have H2 := Lib.hid h2
        clear h2 HRM
        (repeat' (first | go_values | go_skip | go_guarded | go_step | go_upon | go_back | dsimp only))
        go_ret
        rw [HLK.out, errV_pos ef HC.out]
        exact ⟨rfl, H2.out⟩
    · have hi1 : ¬ (k : Int) < l.length := by omega
      rw [List.drop_eq_nil_of_le (by omega)] at hlk
      have HLK := Lib.hid hlk
      have H1 := Lib.hid h1
      clear h1 hlk
      (repeat' (first | go_values | go_skip | go_guarded | go_step | go_upon | go_back | dsimp only))
      go_ret
      rw [HLK.out]
      exact ⟨(congrArg Ending.returned (errV_zero ef).symm), H1.out⟩
end
def okM (c : Nat) : Prop := okB c ∨ c = 1 ∨ c = 2 ∨ c = 3 ∨ c = 5 ∨ c = 12
theorem readC_okM (S : St) (z : Int) : okM (readC S z 0 0) := by
  unfold readC
  cases S.find z with
  | none => exact .inr (.inr (.inr (.inl rfl)))
  | some p =>
    dsimp only
    split
    · exact .inr (.inr (.inr (.inr (.inl rfl))))
    · rw [if_neg (by omega)]; exact .inl okB_zero
theorem look_okM (S : St) : ∀ (l seen : List Int), okM (lookP S seen l)
  | [], _ => .inl okB_zero
  | z :: l, seen => by
    unfold lookP
    split
    · exact readC_okM S z
    · split
      · exact .inr (.inr (.inr (.inr (.inr rfl))))
      · exact look_okM S l _
theorem loop_okB (fan : Nat) : ∀ (n : Nat) {S : St} {l : List Int}, GoodS S → LokP S l → okB (loopM fan n S l).2.2
  | 0, S, l, _, _ => okB_zero
  | n + 1, S, l, hG, hl => by
    unfold loopM
    split
    · exact okB_zero
    · split
      · exact written_codeB hG (allP_fits S _)
      · rename_i h1 h2
        obtain ⟨g1, g2, _⟩ := hl.round hG fan (by simpa using h2)
        exact loop_okB fan n g1 g2
theorem merge_okM {S : St} (hG : GoodS S) (fan : Int) (l : List Int) : okM (mergeP S fan l).2.2 := by
  unfold mergeP
  split
  · exact .inr (.inr (.inl rfl))
  · split
    · exact look_okM S l []
    · rename_i h1 h2
      split
      · exact .inl (written_codeB hG rfl)
      · exact .inl (loop_okB _ _ hG (look_lok (by simpa using h2)))
theorem new_fok {S : St} {b : Int} (hb : 1 ≤ b ∧ b ≤ 65536) : FOk S ⟨[], b.toNat, [], 0⟩ := ⟨by dsimp only; omega, fun _ => by show 0 < b.toNat; omega, rfl, okC_zero, (fun n hn => by cases hn), Nat.zero_le _⟩
theorem sort_okM {S : St} (hG : GoodS S) (b fan : Int) (ws : List (List UInt8)) : okM (sortP S b fan ws).2.2 := by
  unfold sortP
  split
  · exact .inr (.inr (.inl rfl))
  · rename_i h1
    have hO : FOk S ⟨[], b.toNat, [], 0⟩ := new_fok (by omega)
    obtain ⟨c1, c2⟩ := addP_codeB hG trivial hO okB_zero ws
    split
    · exact .inl c1
    · obtain ⟨k1, _⟩ := addP_keep hG trivial hO ws
      obtain ⟨c3, _⟩ := finishP_codeB k1.good k1.ok c2
      dsimp only
      split
      · exact .inl c3
      · exact merge_okM (finishP_keep k1.good trivial k1.ok).1.good fan _
set_option maxRecDepth 100000 in
set_option maxHeartbeats 3200000 in
theorem code10_calls {w : World} {ef : Nat → Nat × Nat} (hF : Fails w ef fails13) {c : Nat} (hc : okM c) :
    Calls Tryz.prog 25 #[errV ef c] w fun e w' => e = .returned (.int .i64 c) ∧ w = w' := by
  have heq := eql_nil
  by_cases h0 : c = 0
  · subst h0
    clear hF
    rw [errV_zero]
    go_enter Tryz.func25, Tryz.ntmps25
    (repeat' (first | go_values | go_skip | go_guarded | go_step | go_upon | go_back | dsimp only))
    go_ret
    exact ⟨rfl, rfl⟩
  · obtain ⟨g, hg, hcs⟩ : ∃ g, (c, g) ∈ fails13 ∧ (c = 1 ∨ c = 2 ∨ c = 3 ∨ c = 5 ∨ c = 12 ∨ c = 7 ∨ c = 8 ∨ c = 9 ∨ c = 10 ∨ c = 13) := by
      rcases hc with (rfl | rfl | rfl | rfl | rfl | rfl) | rfl | rfl | rfl | rfl | rfl
      · exact absurd rfl h0
      · exact ⟨6, by decide, by omega⟩
      · exact ⟨5, by decide, by omega⟩
      · exact ⟨7, by decide, by omega⟩
      · exact ⟨8, by decide, by omega⟩
      · exact ⟨9, by decide, by omega⟩
      · exact ⟨0, by decide, by omega⟩
      · exact ⟨1, by decide, by omega⟩
      · exact ⟨4, by decide, by omega⟩
      · exact ⟨3, by decide, by omega⟩
      · exact ⟨2, by decide, by omega⟩
    have hne : ∀ wz : World, (binOp .eql tErr (.iface tES (.pointer (some ⟨(ef c).1, (ef c).2, none⟩))) .nilIface).run Tryz.prog wz = .ok (.bool false) wz := fun wz => by
      have := eql_errV ef h0 wz
      rwa [errV_pos ef h0] at this
    rw [errV_pos ef h0]
    have q1 := eql_errs hF hg (y := (1, 0)) (by decide)
    have q2 := eql_errs hF hg (y := (2, 1)) (by decide)
    have q3 := eql_errs hF hg (y := (3, 4)) (by decide)
    have q5 := eql_errs hF hg (y := (5, 3)) (by decide)
    have q7 := eql_errs hF hg (y := (7, 6)) (by decide)
    have q8 := eql_errs hF hg (y := (8, 5)) (by decide)
    have q9 := eql_errs hF hg (y := (9, 7)) (by decide)
    have q10 := eql_errs hF hg (y := (10, 8)) (by decide)
    have q12 := eql_errs hF hg (y := (12, 2)) (by decide)
    have q13 := eql_errs hF hg (y := (13, 9)) (by decide)
    have c1 := hF.cell (1, 0) (by decide)
    have c2 := hF.cell (2, 1) (by decide)
    have c3 := hF.cell (3, 4) (by decide)
    have c5 := hF.cell (5, 3) (by decide)
    have c7 := hF.cell (7, 6) (by decide)
    have c8 := hF.cell (8, 5) (by decide)
    have c9 := hF.cell (9, 7) (by decide)
    have c10 := hF.cell (10, 8) (by decide)
    have c12 := hF.cell (12, 2) (by decide)
    have c13 := hF.cell (13, 9) (by decide)
    clear hF hg hc
    generalize (ef c) = ec at *
    rcases hcs with rfl | rfl | rfl | rfl | rfl | rfl | rfl | rfl | rfl | rfl
    all_goals
      clear h0
      simp only [Nat.reduceEqDiff, decide_true, decide_false] at q1 q2 q3 q5 q7 q8 q9 q10 q12 q13
      go_enter Tryz.func25, Tryz.ntmps25
      (repeat' (first | go_values | go_skip | go_guarded | go_step | go_upon | go_back | dsimp only))
      go_ret
      exact ⟨rfl, rfl⟩
theorem own_less {w : World} {B B' : Nat} {e : TypeId} {size : Nat} {v : Value} {n : Nat} {xs : List Value} (h : w.ownsRow B e size v n xs) (hb : B' ≤ B) : w.ownsRow B' e size v n xs := by
  refine ⟨h.1, ?_⟩
  rcases h.2 with hn | ⟨g, cap, cur, rfl, hg, rest⟩
  · exact .inl hn
  · exact .inr ⟨g, cap, cur, rfl, Nat.le_trans hb hg, rest⟩
section
variable {W w : World} {R : Thing} {rb : Nat} {S : St} {l : List Int} {v : Value}
theorem readT_few {S : St} (hG : GoodS S) (z a n : Int) : (readT S z a n).length ≤ 67108864 := by
  unfold readT
  cases hf : S.find z with
  | none => simp
  | some p =>
    dsimp only
    have h1 := hG.le _ hf
    have h2 := hG.sizes
    split
    · simp
    · split
      · simp
      · simp only [List.length_take, List.length_drop]; omega
theorem sizeN_64 {S : St} (hG : GoodS S) (z : Int) : inI64 ((sizeN S z : Nat) : Int) := by
  unfold sizeN inI64
  cases hf : S.find z with
  | none => simp
  | some p =>
    have h1 := hG.le p hf
    have h2 := hG.sizes.2.1
    have h3 := hG.sizes.1
    dsimp only
    omega
set_option maxRecDepth 100000 in
set_option maxHeartbeats 1600000 in
theorem rStands_at (h : At W w (Both (RefT rb S) R)) (hG : GoodS S) {z : Int} (hz : inI64 z) :
    Calls Tryz.prog 71 #[.pointer (some ⟨rb, 0, none⟩), .int .i64 z] w fun e w' => ∃ v', e = .returned v' ∧ w'.ownsRow w.heap.size tSx 1 v' (standsP S z).length (strs (standsP S z)) ∧ Below w.heap.size w w' := by
  have HS := Lib.hid (rSize_at h hG hz)
  have HRD := Lib.hid (rRead_at h hG hz (a := 0) (n := sizeN S z) (by unfold inI64; omega) (sizeN_64 hG z))
  have hrl := readT_few hG z 0 (sizeN S z)
  unfold standsP
  generalize sizeC S z = u1 at *
  generalize readC S z 0 (sizeN S z) = u2 at *
  generalize readT S z 0 (sizeN S z) = T at *
  generalize sizeN S z = n at *
  have hhd := Heads_calls ⟨T.toArray⟩ w (by show T.toArray.size ≤ _; simp; omega)
  rw [show (⟨T.toArray⟩ : ByteArray).data.toList = T by simp] at hhd
  have hle := headsL_len T
  generalize (headsL T) = Q at *
  have HH := Lib.hid hhd
  have HRI := Lib.hid (fun (v : Value) (w : World) (hv : RdRow w v Q.1.length 1 (strs Q.1)) => Rising_calls Q.1 v w hv (by omega))
  clear h hG hz hhd hrl hle
  go_enter Tryz.func71, Tryz.ntmps71
  (repeat' (first | go_values | go_skip | go_guarded | go_step | go_upon | go_back | dsimp only))
  refine HS.out.mono ?_
  rintro e w1 ⟨rfl, rfl⟩
  (repeat' (first | go_values | go_skip | go_guarded | go_step | go_upon | go_back | dsimp only))
  refine HRD.out.mono ?_
  rintro e w1 ⟨rfl, rfl⟩
  (repeat' (first | go_values | go_skip | go_guarded | go_step | go_upon | go_back | dsimp only))
  refine HH.out.mono ?_
  rintro e w1 ⟨v1, rfl, ho, hb⟩
  have HR2 := Lib.hid (HRI.out v1 w1 (RdRow.of_own ho))
  have HB := Lib.hid hb
  clear ho hb HH HRI
  (repeat' (first | go_values | go_skip | go_guarded | go_step | go_upon | go_back | dsimp only))
  refine HR2.out.mono ?_
  rintro e w2 ⟨v2, rfl, ho2, hb2⟩
  have HO := Lib.hid (And.intro (own_less ho2 HB.out.size) (HB.out.trans (hb2.mono HB.out.size)))
  clear ho2 hb2 HR2
  (repeat' (first | go_values | go_skip | go_guarded | go_step | go_upon | go_back | dsimp only))
  go_ret
  exact ⟨_, rfl, HO.out.1, HO.out.2⟩
set_option maxRecDepth 100000 in
set_option maxHeartbeats 1600000 in
theorem rremove_at (h : At W w (Both (RefT rb S) R)) (hR : Stable R) (hG : GoodS S) (hz : ∀ z ∈ l, inI64 z) (hlen : l.length ≤ 1099511627776) (hv : ∃ ao cp, v = .slice ao l.length cp) (hrd : ∀ w', At W w' R → RdRow w' v l.length 1 (intsV l)) :
    Calls Tryz.prog 73 #[.pointer (some ⟨rb, 0, none⟩), v] w fun e w' => e = .returned (.tuple #[]) ∧ At W w' (Both (RefT rb (goneZ S l)) R) := by
  obtain ⟨av, cv, rfl⟩ := hv
  have HR := Lib.hid hR
  have HG := Lib.hid hG
  have HZ := Lib.hid hz
  have HRD := Lib.hid hrd
  have H := Lib.hid h
  clear h hR hG hz hrd
  go_enter Tryz.func73, Tryz.ntmps73
  (repeat' (first | go_values | go_skip | go_guarded | go_step | go_upon | go_back | dsimp only))
  go_loopw [4] (fun vi wr => ∃ k : Nat, vi = .int .i64 k ∧ k ≤ l.length ∧ At W wr (Both (RefT rb (goneZ S (l.take k))) R)) (fun i _ => l.length - (intOf i).toNat)
  case atStart => exact ⟨0, rfl, Nat.zero_le _, H.out⟩
  case round =>
    obtain ⟨k, rfl, hk, h1⟩ := hrel
    by_cases hlt : k < l.length
    · obtain ⟨y, hy⟩ : ∃ y, l[k]? = some y := ⟨_, List.getElem?_eq_getElem hlt⟩
      obtain ⟨gb, off, cp, hsl, hcell⟩ := (HRD.out _ h1.drop).intA hy
      simp only [Value.slice.injEq] at hsl
      obtain ⟨hao, _, hcv⟩ := hsl
      subst hao
      subst hcv
      have hi0 : (0 : Int) ≤ k := by omega
      have hi1 : (k : Int) < l.length := by omega
      have hwr : IntKind.i64.wrap ((k : Int) + 1) = ((k + 1 : Nat) : Int) := by rw [IntKind.wrap_i64] <;> omega
      have hrm := rRemove_at h1 HR.out (goneZ_good (l.take k) HG.out).1 (HZ.out y (List.mem_of_getElem? hy))
      have hs := goneZ_snoc (l.take k) S y
      rw [← take_snoc hy] at hs
      rw [← hs] at hrm
      have HRM := Lib.hid hrm
      generalize (removeP (goneZ S (l.take k)) y).2 = ev at *
      clear hrm hs h1 hy
      (repeat' (first | go_values | go_skip | go_guarded | go_step | go_upon | go_back | dsimp only))
      refine HRM.out.mono ?_
      rintro e w1 ⟨rfl, h2⟩
      have H2 := Lib.hid h2
      clear h2 HRM
      (repeat' (first | go_values | go_skip | go_guarded | go_step | go_upon | go_back | dsimp only))
      go_roundw
      case rel => exact ⟨k + 1, rfl, hlt, H2.out⟩
      case measure => simp [intOf]; omega
    · have hi1 : ¬ (k : Int) < l.length := by omega
      rw [List.take_of_length_le (by omega)] at h1
      have H1 := Lib.hid h1
      clear h1
      (repeat' (first | go_values | go_skip | go_guarded | go_step | go_upon | go_back | dsimp only))
      go_end0
      exact ⟨rfl, H1.out⟩
set_option maxRecDepth 100000 in
set_option maxHeartbeats 3200000 in
theorem rLook_at (h : At W w (Both (RefT rb S) R)) (hR : Stable R) (hG : GoodS S) (hz : ∀ z ∈ l, inI64 z) (hlen : l.length ≤ 1099511627776) (hrd : RdRow w v l.length 1 (intsV l)) :
    Calls Tryz.prog 69 #[.pointer (some ⟨rb, 0, none⟩), v] w fun e w' => e = .returned (.int .i64 (lookP S [] l)) ∧ Below w.heap.size w w' := by
  obtain ⟨av, cv, rfl, hc1, hc2⟩ := hrd.shape
  unfold maxLen at hc2
  have HG := Lib.hid hG
  have HZ := Lib.hid hz
  have HRD := Lib.hid hrd
  have H := Lib.hid h
  have HST := Lib.hid ((RefT.stable rb S).both hR)
  obtain ⟨res, hres⟩ : ∃ res, res = lookP S [] l := ⟨_, rfl⟩
  rw [← hres]
  have HRES := Lib.hid hres
  clear h hR hG hz hrd hres
  go_enter Tryz.func69, Tryz.ntmps69
  (repeat' (first | go_values | go_skip | go_guarded | go_step | go_upon | go_back | dsimp only))
  go_loopw [5] (fun vi wr => ∃ k : Nat, vi = .int .i64 k ∧ k ≤ l.length ∧ res = lookP S (l.take k) (l.drop k) ∧ Below w.heap.size w wr) (fun i _ => l.length - (intOf i).toNat)
  case atStart => exact ⟨0, rfl, Nat.zero_le _, by rw [HRES.out]; rfl, Below.refl _ _⟩
  case round =>
    obtain ⟨k, rfl, hk, hlk, hb⟩ := hrel
    clear HRES
    have HB := Lib.hid hb
    by_cases hlt : k < l.length
    · obtain ⟨y, hy⟩ : ∃ y, l[k]? = some y := ⟨_, List.getElem?_eq_getElem hlt⟩
      have hdr : l.drop k = y :: l.drop (k + 1) := by
        obtain ⟨h1, h2⟩ := List.getElem?_eq_some_iff.1 hy
        rw [List.drop_eq_getElem_cons h1, h2]
      rw [hdr, lookP] at hlk
      obtain ⟨gb, off, cp, hsl, hcell⟩ := (HRD.out.below hb).intA hy
      simp only [Value.slice.injEq] at hsl
      obtain ⟨hao, _, hcv⟩ := hsl
      subst hao
      subst hcv
      have hi0 : (0 : Int) ≤ k := by omega
      have hi1 : (k : Int) < l.length := by omega
      have hwr : IntKind.i64.wrap ((k : Int) + 1) = ((k + 1 : Nat) : Int) := by rw [IntKind.wrap_i64] <;> omega
      have hrm := rRead_at (H.out.mono HST.out hb) HG.out (HZ.out y (List.mem_of_getElem? hy)) (a := 0) (n := 0) (by unfold inI64; omega) (by unfold inI64; omega)
      generalize readT S y 0 0 = T at *
      have HRM := Lib.hid hrm
      have HTK := Lib.hid (take_snoc hy)
      have HY := Lib.hid hy
      by_cases hc : readC S y 0 0 = 0
      · rw [if_neg (by simpa using hc)] at hlk
        rw [hc] at HRM
        have HLK := Lib.hid hlk
        clear hrm hb hy hdr hlk hc
        (repeat' (first | go_values | go_skip | go_guarded | go_step | go_upon | go_back | dsimp only))
        refine HRM.out.mono ?_
        rintro e w1 ⟨rfl, rfl⟩
        clear HRM
        (repeat' (first | go_values | go_skip | go_guarded | go_step | go_upon | go_back | dsimp only))
        go_loopw [8] (fun vi wr2 => ∃ j : Nat, vi = .int .i64 j ∧ j ≤ k ∧ y ∉ l.take j ∧ Below w.heap.size w wr2) (fun i _ => k - (intOf i).toNat)
        case atStart => exact ⟨0, rfl, Nat.zero_le _, by simp, HB.out⟩
        case round =>
          obtain ⟨j, rfl, hj, hno, hb⟩ := hrel
          have HB2 := Lib.hid hb
          clear HB
          by_cases hjk : j < k
          · obtain ⟨x, hx⟩ : ∃ x, l[j]? = some x := ⟨_, List.getElem?_eq_getElem (by omega)⟩
            obtain ⟨gb2, off2, cp2, hsl, hcell2⟩ := (HRD.out.below hb).intA hx
            simp only [Value.slice.injEq, Option.some.injEq, Addr.mk.injEq] at hsl
            obtain ⟨⟨h1, h2, _⟩, _, _⟩ := hsl
            subst h1 h2
            obtain ⟨gb3, off3, cp3, hsl, hcellk⟩ := (HRD.out.below hb).intA HY.out
            simp only [Value.slice.injEq, Option.some.injEq, Addr.mk.injEq] at hsl
            obtain ⟨⟨h1, h2, _⟩, _, _⟩ := hsl
            subst h1 h2
            have hj0 : (0 : Int) ≤ j := by omega
            have hj1 : (j : Int) < l.length := by omega
            have hj2 : (j : Int) < k := by omega
            have hwj : IntKind.i64.wrap ((j : Int) + 1) = ((j + 1 : Nat) : Int) := by rw [IntKind.wrap_i64] <;> omega
            have HX := Lib.hid (take_snoc hx)
            have HXM := Lib.hid (show x ∈ l.take k from List.mem_of_getElem? (i := j) (by rw [List.getElem?_take_of_lt hjk]; exact hx))
            by_cases hxy : x = y
            · subst hxy
              have hq : (x == x) = true := by simp
              clear hb hno hx hcell
              (repeat' (first | go_values | go_skip | go_guarded | go_step | go_upon | go_back | dsimp only))
              go_quiet (fail)
              (repeat' (first | go_values | go_skip | go_guarded | go_step | go_upon | go_back | dsimp only))
              go_ret
              have hl := HLK.out
              rw [if_pos HXM.out] at hl
              rw [hl]
              exact ⟨rfl, HB2.out.trans ((below_dW _ _).mono HB2.out.size)⟩
            · have hq : (x == y) = false := by simp [hxy]
              have HNO := Lib.hid (show y ∉ l.take (j + 1) by
                rw [HX.out]
                simp only [List.mem_append, List.mem_singleton, not_or]
                exact ⟨hno, fun e => hxy e.symm⟩)
              clear hb hno hx hxy hcell
              (repeat' (first | go_values | go_skip | go_guarded | go_step | go_upon | go_back | dsimp only))
              go_quiet (fail)
              (repeat' (first | go_values | go_skip | go_guarded | go_step | go_upon | go_back | dsimp only))
              go_roundw
              case rel => exact ⟨j + 1, rfl, hjk, HNO.out, HB2.out.trans ((below_dW _ _).mono HB2.out.size)⟩
              case measure => simp [intOf]; omega
          · have hj2 : ¬ (j : Int) < k := by omega
            have hjk2 : j = k := by omega
            subst hjk2
            have HNO := Lib.hid hno
            clear hb hno hcell
            (repeat' (first | go_values | go_skip | go_guarded | go_step | go_upon | go_back | dsimp only))
            go_roundw
            case rel => exact ⟨j + 1, rfl, hlt, by have hl := HLK.out; rw [if_neg HNO.out] at hl; rw [HTK.out]; exact hl, HB2.out⟩
            case measure => simp [intOf]; omega
      · rw [if_pos (by simpa using hc)] at hlk
        have HLK := Lib.hid hlk
        have hq : ((readC S y 0 0 : Int) != 0) = true := by simp; omega
        clear hrm hb hy hdr hlk hc
        (repeat' (first | go_values | go_skip | go_guarded | go_step | go_upon | go_back | dsimp only))
        refine HRM.out.mono ?_
        rintro e w1 ⟨rfl, rfl⟩
        (repeat' (first | go_values | go_skip | go_guarded | go_step | go_upon | go_back | dsimp only))
        go_ret
        rw [HLK.out]
        exact ⟨rfl, HB.out⟩
    · have hi1 : ¬ (k : Int) < l.length := by omega
      rw [List.drop_eq_nil_of_le (by omega)] at hlk
      have HLK := Lib.hid hlk
      clear hb hlk
      (repeat' (first | go_values | go_skip | go_guarded | go_step | go_upon | go_back | dsimp only))
      go_ret
      rw [HLK.out]
      exact ⟨rfl, HB.out⟩
end
end Go.Proofs.YtadokkffmekndaaGreatDoor
