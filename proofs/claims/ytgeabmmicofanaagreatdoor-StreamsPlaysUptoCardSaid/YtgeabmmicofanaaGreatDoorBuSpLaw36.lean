/- streams.Union: what the heap of cursors gives, told of lists. -/
import Derived.Test.YtgeabmmicofanaaGreatDoorBuSpLaw35
import Derived.Test.YtgeabmmicofanaaGreatDoorBuSpLaw26
set_option linter.unusedSimpArgs false
set_option linter.unusedVariables false
namespace Go.Proofs.YtgeabmmicofanaaGreatDoor.cu
open Go.RowKit

def flatC (L : List Cur) : List (List UInt8) := L.flatMap Cur.left
theorem mem_flatC {L : List Cur} {x : List UInt8} : x ∈ flatC L ↔ ∃ c ∈ L, x ∈ c.left := List.mem_flatMap
/-- How far the union U is: pre is given, last is the last one, L is left. -/
structure UInv (U pre : List (List UInt8)) (any : Bool) (last : List UInt8) (L : List Cur) : Prop where
  rises : RisesL U
  pfx : pre <+: U
  lst : (any = false ∧ pre = []) ∨ (any = true ∧ ∃ p, pre = p ++ [last])
  ok : ∀ c ∈ L, c.left ≠ [] ∧ RisesL c.left
  all : ∀ x ∈ U, x ∈ pre ∨ x ∈ flatC L
  inU : ∀ x ∈ flatC L, x ∈ U
  above : ∀ x ∈ flatC L, any = true → Op.bytesLess x last = false
theorem key_head {c : Cur} (h : c.left ≠ []) : c.left = c.key :: c.left.tail := by
  obtain ⟨t, l, e⟩ := List.exists_cons_of_ne_nil h
  simp [Cur.key, e]
theorem UInv.least {U pre : List (List UInt8)} {any : Bool} {last : List UInt8} {L : List Cur} (h : UInv U pre any last L) (hL : L ≠ []) : ∀ x ∈ flatC L, Op.bytesLess x (firstR ltB L).key = false := by
  intro x hx
  obtain ⟨c, hc, hxc⟩ := mem_flatC.1 hx
  obtain ⟨j, hj, rfl⟩ := List.mem_iff_getElem.1 hc
  have h1 := (leastAt_is ordB hL).2.1 j hj
  rw [List.getD_eq_getElem?_getD, List.getElem?_eq_getElem hj] at h1
  obtain ⟨hne, hr⟩ := h.ok _ hc
  have hk := key_head hne
  have h2 : Op.bytesLess (L[j]).key (firstR ltB L).key = false := h1
  rw [hk] at hxc hr
  rcases List.mem_cons.1 hxc with rfl | hxc
  · exact h2
  · cases hb : Op.bytesLess x (firstR ltB L).key with
    | false => rfl
    | true =>
      have := bl_trans ((List.pairwise_cons.1 hr).1 x hxc) hb
      rw [h2] at this; cases this
theorem UInv.key_mem {U pre : List (List UInt8)} {any : Bool} {last : List UInt8} {L : List Cur} (h : UInv U pre any last L) (hL : L ≠ []) : (firstR ltB L).key ∈ flatC L := by
  have hc := firstR_mem hL
  refine mem_flatC.2 ⟨_, hc, ?_⟩
  rw [key_head (h.ok _ hc).1]
  simp
theorem last_max {p : List (List UInt8)} {last x : List UInt8} (hr : RisesL (p ++ [last])) (hx : x ∈ p ++ [last]) : Op.bytesLess last x = false := by
  rcases List.mem_append.1 hx with h | h
  · exact LtW.not ((List.pairwise_append.1 hr).2.2 x h last (by simp))
  · simp at h; subst h; exact bl_irrefl _
/-- One text more. -/
theorem UInv.emit {U pre : List (List UInt8)} {any : Bool} {last : List UInt8} {L : List Cur} (h : UInv U pre any last L) (hL : L ≠ []) (hn : any = true → (firstR ltB L).key ≠ last) :
    pre ++ [(firstR ltB L).key] <+: U ∧ UInv U (pre ++ [(firstR ltB L).key]) true (firstR ltB L).key L := by
  have hk := h.key_mem hL
  have hmin := h.least hL
  generalize (firstR ltB L).key = w at *
  have hwU := h.inU w hk
  have hnp : w ∉ pre := fun hm => by
    rcases h.lst with ⟨_, rfl⟩ | ⟨ha, p, rfl⟩
    · simp at hm
    · have h1 := last_max (List.Pairwise.sublist h.pfx.sublist h.rises) hm
      have h2 := h.above w hk ha
      have h3 := bl_total h2 (hn ha)
      rw [h1] at h3; cases h3
  obtain ⟨t, ht⟩ := id h.pfx
  have hwt : w ∈ t := by
    rw [← ht] at hwU
    exact (List.mem_append.1 hwU).resolve_left hnp
  obtain ⟨y, t2, rfl⟩ := List.exists_cons_of_ne_nil (List.ne_nil_of_mem hwt)
  have hrt : RisesL (y :: t2) := List.Pairwise.sublist (List.sublist_append_right pre _) (ht ▸ h.rises)
  have hyp : y ∉ pre := fun hm => by
    have hd : (pre ++ y :: t2).Nodup := by rw [ht]; exact h.rises.nodup
    exact (List.nodup_append.1 hd).2.2 y hm y (by simp) rfl
  have hyU : y ∈ U := by rw [← ht]; simp
  have hyF := (h.all y hyU).resolve_left hyp
  have hyw : y = w := by
    rcases List.mem_cons.1 hwt with e | hw2
    · exact e.symm
    · have h1 := (List.pairwise_cons.1 hrt).1 w hw2
      have h2 := hmin y hyF
      rw [LtW, h2] at h1; cases h1
  subst hyw
  have hp : pre ++ [y] <+: U := ⟨t2, by rw [← ht]; simp⟩
  refine ⟨hp, ⟨h.rises, hp, .inr ⟨rfl, pre, rfl⟩, h.ok, fun x hx => ?_, h.inU, fun x hx _ => hmin x hx⟩⟩
  rcases h.all x hx with h1 | h1
  · exact .inl (List.mem_append.2 (.inl h1))
  · exact .inr h1
theorem mem_left_or {L : List Cur} {c : Cur} (hL : L ≠ []) (hc : c ∈ L) : c ∈ leftR ltB L ∨ c = firstR ltB L := by
  have hk := leastAt_lt ltB L L.length (by simpa using hL)
  have e : firstR ltB L = L[leastAt ltB L L.length] := by unfold firstR; rw [List.getD_eq_getElem?_getD, List.getElem?_eq_getElem hk]; rfl
  obtain ⟨j, hj, rfl⟩ := List.mem_iff_getElem.1 hc
  by_cases h : j = leastAt ltB L L.length
  · right; rw [e]; simp only [h]
  · left
    unfold leftR
    rw [List.mem_eraseIdx_iff_getElem]
    exact ⟨j, hj, h, rfl⟩
/-- The least cursor goes on, or is gone. -/
theorem UInv.next {U pre : List (List UInt8)} {L : List Cur} (h : UInv U pre true (firstR ltB L).key L) (hL : L ≠ []) :
    (1 < (firstR ltB L).left.length → UInv U pre true (firstR ltB L).key (leftR ltB L ++ [tailC (firstR ltB L)])) ∧ ((firstR ltB L).left.length ≤ 1 → UInv U pre true (firstR ltB L).key (leftR ltB L)) := by
  have hc := firstR_mem hL
  have hin : (firstR ltB L).key ∈ pre := by
    rcases h.lst with ⟨h1, _⟩ | ⟨_, p, hp⟩
    · cases h1
    · rw [hp]; simp
  obtain ⟨hne, hr⟩ := h.ok _ hc
  have hk := key_head hne
  have hsub : ∀ c ∈ leftR ltB L, c ∈ L := fun c hc => List.mem_of_mem_eraseIdx hc
  have hfl : ∀ x ∈ flatC (leftR ltB L), x ∈ flatC L := fun x hx => by
    obtain ⟨c, hc, hx⟩ := mem_flatC.1 hx
    exact mem_flatC.2 ⟨c, hsub c hc, hx⟩
  have hall : ∀ x ∈ flatC L, x ∈ pre ∨ x ∈ flatC (leftR ltB L) ∨ x ∈ (firstR ltB L).left.tail := fun x hx => by
    obtain ⟨c, hc, hx⟩ := mem_flatC.1 hx
    rcases mem_left_or hL hc with h1 | rfl
    · exact .inr (.inl (mem_flatC.2 ⟨c, h1, hx⟩))
    · rw [hk] at hx
      rcases List.mem_cons.1 hx with rfl | hx
      · exact .inl hin
      · exact .inr (.inr hx)
  constructor
  · intro h1
    have htl : (tailC (firstR ltB L)).left = (firstR ltB L).left.tail := rfl
    have hfl2 : ∀ x ∈ flatC (leftR ltB L ++ [tailC (firstR ltB L)]), x ∈ flatC L := fun x hx => by
      obtain ⟨c, hc2, hx⟩ := mem_flatC.1 hx
      rcases List.mem_append.1 hc2 with h2 | h2
      · exact hfl x (mem_flatC.2 ⟨c, h2, hx⟩)
      · simp at h2; subst h2
        exact mem_flatC.2 ⟨_, hc, List.mem_of_mem_tail hx⟩
    refine ⟨h.rises, h.pfx, h.lst, fun c hc2 => ?_, fun x hx => ?_, fun x hx => h.inU x (hfl2 x hx), fun x hx _ => h.above x (hfl2 x hx) rfl⟩
    · rcases List.mem_append.1 hc2 with h2 | h2
      · exact h.ok c (hsub c h2)
      · simp at h2; subst h2
        rw [htl]
        refine ⟨fun e => ?_, List.Pairwise.sublist (List.tail_sublist _) hr⟩
        have := congrArg List.length e
        simp at this; omega
    · rcases h.all x hx with h2 | h2
      · exact .inl h2
      · rcases hall x h2 with h3 | h3 | h3
        · exact .inl h3
        · obtain ⟨c, hc2, hx2⟩ := mem_flatC.1 h3
          exact .inr (mem_flatC.2 ⟨c, List.mem_append.2 (.inl hc2), hx2⟩)
        · exact .inr (mem_flatC.2 ⟨tailC (firstR ltB L), by simp, h3⟩)
  · intro h1
    refine ⟨h.rises, h.pfx, h.lst, fun c hc2 => h.ok c (hsub c hc2), fun x hx => ?_, fun x hx => h.inU x (hfl x hx), fun x hx _ => h.above x (hfl x hx) rfl⟩
    rcases h.all x hx with h2 | h2
    · exact .inl h2
    · rcases hall x h2 with h3 | h3 | h3
      · exact .inl h3
      · exact .inr h3
      · have : (firstR ltB L).left.tail = [] := List.eq_nil_of_length_eq_zero (by simp; omega)
        rw [this] at h3; simp at h3
theorem UInv.done {U pre : List (List UInt8)} {any : Bool} {last : List UInt8} (h : UInv U pre any last []) : pre = U := by
  obtain ⟨t, ht⟩ := id h.pfx
  cases t with
  | nil => simpa using ht
  | cons y t =>
    have hyU : y ∈ U := by rw [← ht]; simp
    rcases h.all y hyU with h1 | h1
    · have hd : (pre ++ y :: t).Nodup := by rw [ht]; exact h.rises.nodup
      exact absurd rfl ((List.nodup_append.1 hd).2.2 y h1 y (by simp))
    · simp [flatC] at h1
/-- The cursors that the lists give. -/
structure LoadC (Ls : List (List (List UInt8))) (k : Nat) (L : List Cur) (n : Nat) : Prop where
  flat : flatC L = (Ls.take k).flatten
  ok : ∀ c ∈ L, c.left ≠ [] ∧ RisesL c.left
  len : L.length ≤ k
  num : n = L.length
theorem LoadC.start {Ls : List (List (List UInt8))} : LoadC Ls 0 [] 0 := ⟨by simp [flatC], by simp, by simp, rfl⟩
theorem take_flat {Ls : List (List (List UInt8))} {k : Nat} (hk : k < Ls.length) : (Ls.take (k + 1)).flatten = (Ls.take k).flatten ++ Ls[k] := by
  rw [List.take_add_one, List.getElem?_eq_getElem hk, List.flatten_append, Option.toList_some, List.flatten_cons, List.flatten_nil, List.append_nil]
theorem LoadC.skip {Ls : List (List (List UInt8))} {k : Nat} {L : List Cur} {n : Nat} (h : LoadC Ls k L n) (hk : k < Ls.length) (he : Ls[k] = []) : LoadC Ls (k + 1) L n :=
  ⟨by rw [take_flat hk, he, List.append_nil]; exact h.flat, h.ok, by have := h.len; omega, h.num⟩
theorem LoadC.push {Ls : List (List (List UInt8))} {k : Nat} {L : List Cur} {n : Nat} {c : Cur} (h : LoadC Ls k L n) (hk : k < Ls.length) (he : c.left = Ls[k]) (hne : Ls[k] ≠ []) (hr : RisesL Ls[k]) : LoadC Ls (k + 1) (L ++ [c]) (n + 1) := by
  refine ⟨by rw [take_flat hk, ← h.flat]; simp [flatC, he], fun x hx => ?_, by have := h.len; simp; omega, by rw [h.num]; simp⟩
  rcases List.mem_append.1 hx with h1 | h1
  · exact h.ok x h1
  · simp at h1; subst h1; rw [he]; exact ⟨hne, hr⟩
def unionL (Ls : List (List (List UInt8))) : List (List UInt8) := ofL Ls.flatten
theorem LoadC.inv {Ls : List (List (List UInt8))} {L : List Cur} {n : Nat} (h : LoadC Ls Ls.length L n) : UInv (unionL Ls) [] false [] L := by
  have hf : flatC L = Ls.flatten := by rw [h.flat, List.take_of_length_le (Nat.le_refl _)]
  refine ⟨ofL_rises _, List.nil_prefix, .inl ⟨rfl, rfl⟩, h.ok, fun x hx => .inr ?_, fun x hx => ?_, fun x hx h => by cases h⟩
  · rw [hf]; exact (ofL_mem _ _).1 hx
  · rw [hf] at hx; exact (ofL_mem _ _).2 hx
/-- How many texts the heap's cursors have left, read from memory. -/
def heapSum (w : World) (b : Nat) : Nat :=
  match w.cell? ⟨b, 1, none⟩ with
  | some (.slice (some g) n _) => ((List.range n).map fun i => match w.cell? ⟨g.block, i * 2, none⟩ with | some (.slice _ m _) => m | _ => 0).sum
  | _ => 0
theorem range_getD (l : List (Cur × Nat)) : (List.range l.length).map (fun i => (l.getD i default).1.n) = l.map fun e => e.1.n := by
  apply List.ext_getElem?
  intro i
  simp only [List.getElem?_map]
  by_cases hi : i < l.length
  · rw [List.getElem?_range hi, List.getElem?_eq_getElem hi]
    simp [List.getD_eq_getElem?_getD, List.getElem?_eq_getElem hi]
  · rw [List.getElem?_eq_none (by simpa using hi), List.getElem?_eq_none (by omega)]; rfl
theorem heapSum_of {w : World} {fp : List Nat} {b : Nat} {L : List Cur} {n : Nat} (h : HeapT b L n w fp) : heapSum w b = (L.map Cur.n).sum := by
  obtain ⟨v, ⟨l, h1, h2⟩, _⟩ := h
  have hp : (l.map fun e => e.1.n).sum = (L.map Cur.n).sum := by
    obtain ⟨_, ts, ht, _, _, hpm⟩ := h2
    have h3 := (hpm.map fun e => e.1.n).sum_nat
    rw [h3]
    have h4 : (L.zip ts).map (fun e => e.1.n) = L.map Cur.n := by
      have : (L.zip ts).map Prod.fst = L := List.map_fst_zip (by omega)
      conv => rhs; rw [← this]
      rw [List.map_map]; rfl
    rw [h4]
  have hc := h1.facts.c1
  unfold heapSum
  by_cases hl : l = []
  · subst hl
    rw [← hp]
    rcases h1.2.1.2 with ⟨rfl, _⟩ | ⟨g, cap, cur, rfl, _⟩
    · rw [hc]; rfl
    · rw [hc]; rfl
  · obtain ⟨g, cap, cur, rfl, hg, _, _, _, ht⟩ := h1.row hl
    rw [hc, ← hp, ← range_getD]
    simp only
    congr 1
    apply List.map_congr_left
    intro i hi
    rw [(row_cells hg ht (List.mem_range.1 hi)).1]
theorem sum_left {L : List Cur} (hL : L ≠ []) : ((leftR ltB L).map Cur.n).sum + (firstR ltB L).n = (L.map Cur.n).sum := by
  have hk := leastAt_lt ltB L L.length (by simpa using hL)
  unfold leftR firstR
  generalize leastAt ltB L L.length = k at *
  rw [List.getD_eq_getElem?_getD, List.getElem?_eq_getElem hk]
  clear hL
  induction L generalizing k with
  | nil => simp at hk
  | cons c L ih =>
    cases k with
    | zero => simp; omega
    | succ k =>
      have := ih k (by simpa using hk)
      simp at this ⊢
      omega
end Go.Proofs.YtgeabmmicofanaaGreatDoor.cu
