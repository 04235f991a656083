/- hornbookref09: the document's former walked: Written, gone, write. · hornbookref09: Written walked. · hornbookref09: New, write, Finish, Drop walked. · hornbookref09: Add walked. · batch: the failures that a former's calls answer, in plain Lean; hornbooklaw09.code walked. · merge: what stands in runs; what the rounds leave; no program in sight. · merge: the rounds over runs that were written of rising texts; no program in sight. · batch: what is left where a step was refused; no program in sight. · merge: all rounds; no program in sight. · merge: a former over a store that holds runs already (after XBatP's Formed). · merge: Sort: one run of these words, or nothing of its own is left; no program in sight. · merge: with room for twice the frames Sort is never refused; no program in sight. · batch.Former: the nil former; limits. -/
import Derived.Test.YtadokkffmekndaaGreatDoorBuMgAgLaw43
import Derived.Test.YtadokkffmekndaaGreatDoorBuMgAgLaw45
import Derived.Test.YtadokkffmekndaaGreatDoorBuMgAgLaw46
import Derived.Test.YtadokkffmekndaaGreatDoorBuMgAgLaw42
import Derived.Test.YtadokkffmekndaaGreatDoorBuMgAgLaw27
import Derived.Test.YtadokkffmekndaaGreatDoorBuMgAgLaw39
import Derived.Test.YtadokkffmekndaaGreatDoorBuMgAgLaw40
import Derived.Deep.QuietTactic
import Derived.BigQuiet
set_option linter.unusedSimpArgs false
set_option linter.unusedVariables false
namespace Go.Proofs.YtadokkffmekndaaGreatDoor
open Go.RowKit

abbrev tRf : TypeId := 126
abbrev rfCells (f : FmD) (hv mv : Value) : Array Value := #[hv, .int .i64 f.most, mv, .int .i64 f.dead]
abbrev RfI (k : Nat) (f : FmD) (hv mv : Value) : Thing := Both (CellT k (rfCells f hv mv) tRf) (Both (RowG tSx 1 hv f.held.length (strs f.held)) (RowT mv (mz f.made)))
theorem RfI.stable (k : Nat) (f : FmD) (hv mv : Value) : Stable (RfI k f hv mv) := (CellT.stable _ _ _).both ((RowG.stable _ _ _ _ _).both (RowT.stable _ _))
/-- The document's former. -/
def RfT (k : Nat) (f : FmD) : Thing := fun w fp => ∃ q : Value × Value, RfI k f q.1 q.2 w fp
theorem RfT.stable (k : Nat) (f : FmD) : Stable (RfT k f) := Stable.ex fun _ => RfI.stable _ _ _ _
section
variable {W w : World} {R : Thing} {k rb : Nat} {S : St} {f : FmD}
theorem At.rf (h : At W w (Both (RfT k f) R)) : ∃ hv mv, At W w (Both (RfI k f hv mv) R) := by
  obtain ⟨q, h⟩ := At.ex h
  exact ⟨_, _, h⟩
structure RfFacts (w : World) (k : Nat) (f : FmD) (hv mv : Value) : Prop where
  c0 : w.cell? ⟨k, 0, none⟩ = some hv
  c1 : w.cell? ⟨k, 1, none⟩ = some (.int .i64 f.most)
  c2 : w.cell? ⟨k, 2, none⟩ = some mv
  c3 : w.cell? ⟨k, 3, none⟩ = some (.int .i64 f.dead)
  fz : ∀ j, w.frozen? ⟨k, j, none⟩ = false
  lt : k < w.heap.size
end
end Go.Proofs.YtadokkffmekndaaGreatDoor
namespace Go.Proofs.YtadokkffmekndaaGreatDoor
open Go.RowKit

theorem putL_short : ∀ (n : Nat) (S : St) (x : WrD), 1 ≤ x.block → x.buf.length < n → (putL n S x).2.2 = 0 → (putL n S x).2.1.buf.length < x.block := by
  intro n
  induction n with
  | zero => intro S x _ h; exact absurd h (Nat.not_lt_zero _)
  | succ n ih =>
    intro S x hb hl
    unfold putL
    by_cases hge : x.block ≤ x.buf.length
    · rw [if_pos hge]
      by_cases hz : (flushP S x x.block).2.2 = 0
      · rw [if_pos hz]
        intro h
        have hok := flushP_ok hz
        have hbk : (flushP S x x.block).2.1.block = x.block := by rw [hok]
        have := ih (flushP S x x.block).1 (flushP S x x.block).2.1 (by rw [hbk]; exact hb) (by rw [hok]; simp only [List.length_drop]; omega) h
        rw [hbk] at this
        exact this
      · rw [if_neg hz]
        intro h
        exact absurd h hz
    · rw [if_neg hge]
      intro _
      show x.buf.length < _
      omega
theorem putP_short {S : St} {x : WrD} {L : List (List UInt8)} (hd : x.dead = 0) (hL : fits L = true) (hb : 1 ≤ x.block) (hz : (putP S x L).2.2 = 0) : (putP S x L).2.1.buf.length < x.block := by
  unfold putP at hz ⊢
  rw [if_neg (by simpa using hd), if_neg (by simp [hL])] at hz ⊢
  exact putL_short _ _ { x with buf := x.buf ++ frameL L } hb (Nat.lt_succ_self _) hz
section
variable {W w : World} {R : Thing} {rb : Nat} {S : St} {L : List (List UInt8)} {v : Value}
end
end Go.Proofs.YtadokkffmekndaaGreatDoor
namespace Go.Proofs.YtadokkffmekndaaGreatDoor
open Go.RowKit

section
variable {W w : World} {R : Thing} {k rb : Nat} {S : St} {f : FmD}
end
end Go.Proofs.YtadokkffmekndaaGreatDoor
namespace Go.Proofs.YtadokkffmekndaaGreatDoor
open Go.RowKit

section
variable {W w : World} {R : Thing} {k rb : Nat} {S : St} {f : FmD} {ws : List (List UInt8)} {v : Value}
end
end Go.Proofs.YtadokkffmekndaaGreatDoor
namespace Go.Proofs.YtadokkffmekndaaGreatDoor
open Go.RowKit

def okB (c : Nat) : Prop := c = 0 ∨ c = 7 ∨ c = 8 ∨ c = 9 ∨ c = 10 ∨ c = 13
section
variable {S0 S : St} {r : Nat} {t : List UInt8}
end
section
variable {S : St} {f : FmD}
end
end Go.Proofs.YtadokkffmekndaaGreatDoor
namespace Go.Proofs.YtadokkffmekndaaGreatDoor
open Go.RowKit

theorem risB_sub : ∀ (l : List (List UInt8)) (o : Option (List UInt8)), ∀ r ∈ risB o l, r ∈ l
  | [], _, r, h => by simp [risB] at h
  | x :: l, o, r, h => by
    rw [risB] at h
    split at h
    · rcases List.mem_cons.1 h with rfl | h
      · exact List.mem_cons_self
      · exact List.mem_cons_of_mem _ (risB_sub l _ r h)
    · cases h
theorem headsL_fitsN : ∀ (n : Nat) (T : List UInt8), T.length ≤ n → fits (headsL T).1 = true
  | 0, T, h => by
    have : T = [] := List.eq_nil_of_length_eq_zero (by omega)
    subst this
    rw [headsL_nil]; rfl
  | n + 1, T, h => by
    by_cases h0 : T = []
    · subst h0; rw [headsL_nil]; rfl
    · by_cases h1 : (nextAt T 0).2.2 = 0
      · rw [headsL_ok h0 h1]
        have h2 := nextAt_ok h1
        have hl : 0 < T.length := List.length_pos_iff.2 h0
        exact fits_cons.2 ⟨by omega, headsL_fitsN n _ (by rw [List.length_drop]; omega)⟩
      · rw [headsL_err h0 h1]; rfl
theorem standsP_fits (S : St) (z : Int) : fits (standsP S z) = true := fits_mem.2 fun r hr => fits_mem.1 (headsL_fitsN _ _ (Nat.le_refl _)) r (risB_sub _ _ r hr)
theorem allP_fits (S : St) (l : List Int) : fits (allP S l) = true := fits_ofL (fits_mem.2 fun r hr => by
  obtain ⟨L, hL, hr⟩ := List.mem_flatten.1 hr
  obtain ⟨z, _, rfl⟩ := List.mem_map.1 hL
  exact fits_mem.1 (standsP_fits S z) r hr)
theorem risB_all : ∀ (L : List (List UInt8)) (o : Option (List UInt8)), (∀ y, o = some y → ∀ z ∈ L, LtW y z) → RisesL L → risB o L = L
  | [], _, _, _ => rfl
  | x :: L, o, ho, h => by
    have hx : upQ o x = true := by
      cases o with
      | none => rfl
      | some y => exact ho y rfl x List.mem_cons_self
    rw [risB_yes hx, risB_all L (some x) (fun y hy z hz => by cases hy; exact (List.pairwise_cons.1 h).1 z hz) (List.pairwise_cons.1 h).2]
/-- A run that was written of rising texts: these stand in it. -/
theorem standsP_of {S : St} (hG : GoodS S) {n : Nat} {L : List (List UInt8)} (hm : (n, (⟨frameL L, true⟩ : RunD)) ∈ S.runs) (hf : fits L = true) (hr : RisesL L) : standsP S n = L := by
  have h1 : readT S n 0 (sizeN S n : Nat) = frameL L := by
    have hfd := find_of_mem hG hm
    unfold readT sizeN
    rw [hfd]
    dsimp only
    rw [if_neg (by decide), if_neg (by omega)]
    simp
  unfold standsP
  rw [h1, headsL_frame hf]
  exact risB_all L none (fun y h => by cases h) hr
theorem goneZ_good : ∀ (l : List Int) {S : St}, GoodS S → GoodS (goneZ S l) ∧ (goneZ S l).made = S.made ∧ (goneZ S l).runs = S.runs.filter (fun q => decide ((q.1 : Int) ∉ l)) ∧ (goneZ S l).cap = S.cap ∧ (goneZ S l).peak = S.peak ∧ (goneZ S l).left = S.left
  | [], S, h => ⟨h, rfl, (List.filter_eq_self.2 (by simp)).symm, rfl, rfl, rfl⟩
  | z :: l, S, h => by
    obtain ⟨h1, h2, h3, h4, h5, h6⟩ := goneZ_good l (h.remove z)
    have hr : (removeP S z).1.runs = S.runs.filter (fun q => (q.1 : Int) != z) ∧ (removeP S z).1.cap = S.cap ∧ (removeP S z).1.peak = S.peak ∧ (removeP S z).1.left = S.left := by
      unfold removeP
      cases hf : S.find z with
      | none =>
        dsimp only
        refine ⟨(List.filter_eq_self.2 fun q hq => ?_).symm, rfl, rfl, rfl⟩
        have := List.find?_eq_none.1 hf q hq
        simpa using this
      | some p =>
        have hp := find_mem hf
        refine ⟨?_, rfl, rfl, rfl⟩
        show S.runs.filter (fun q => q.1 != p.1) = _
        congr 1
        funext q
        have := hp.2
        by_cases e : q.1 = p.1
        · have e2 : (q.1 : Int) = z := by omega
          rw [e2, e]
          simp
        · have e2 : ¬ (q.1 : Int) = z := by omega
          rw [bne_iff_ne.2 e, bne_iff_ne.2 e2]
    refine ⟨h1, h2.trans (made_remove S z), ?_, h4.trans hr.2.1, h5.trans hr.2.2.1, h6.trans hr.2.2.2⟩
    show (goneZ (removeP S z).1 l).runs = _
    rw [h3, hr.1, List.filter_filter]
    congr 1
    funext q
    by_cases e : (q.1 : Int) = z <;> simp [e]
end Go.Proofs.YtadokkffmekndaaGreatDoor
namespace Go.Proofs.YtadokkffmekndaaGreatDoor
open Go.RowKit

abbrev runM (q : Nat × List (List UInt8)) : Nat × RunD := (q.1, ⟨frameL q.2, true⟩)
abbrev numZ (M : List (Nat × List (List UInt8))) : List Int := M.map fun q => (q.1 : Int)
/-- Behind the runs B lie the runs of these texts, in the order of their numbers. -/
structure MgI (B : List (Nat × RunD)) (S : St) (M : List (Nat × List (List UInt8))) : Prop where
  good : GoodS S
  runs : S.runs = B ++ M.map runM
  fit : ∀ q ∈ M, fits q.2 = true ∧ RisesL q.2
section
variable {B : List (Nat × RunD)} {S : St} {M : List (Nat × List (List UInt8))}
theorem MgI.stands (h : MgI B S M) {q : Nat × List (List UInt8)} (hq : q ∈ M) : standsP S q.1 = q.2 :=
  standsP_of h.good (by rw [h.runs]; exact List.mem_append_right _ (List.mem_map_of_mem (f := runM) hq)) (h.fit q hq).1 (h.fit q hq).2
theorem MgI.all (h : MgI B S M) {T : List (Nat × List (List UInt8))} (hT : ∀ q ∈ T, q ∈ M) : allP S (numZ T) = ofL (T.map (·.2)).flatten := by
  unfold allP numZ
  rw [List.map_map]
  congr 2
  exact List.map_congr_left fun q hq => h.stands (hT q hq)
theorem ofL_join (a b : List (List (List UInt8))) : ofL (b ++ [ofL a.flatten]).flatten = ofL (a ++ b).flatten :=
  RisesL.ext (ofL_rises _) (ofL_rises _) fun x => by
    rw [ofL_mem, ofL_mem]
    simp only [List.flatten_append, List.mem_append, List.flatten_cons, List.flatten_nil, List.append_nil, ofL_mem]
    exact or_comm
theorem filter_off {l : List (Nat × RunD)} {zs : List Int} (h : ∀ q ∈ l, (q.1 : Int) ∉ zs) : l.filter (fun q => decide ((q.1 : Int) ∉ zs)) = l := List.filter_eq_self.2 fun q hq => decide_eq_true (h q hq)
theorem filter_in {l : List (Nat × RunD)} {zs : List Int} (h : ∀ q ∈ l, (q.1 : Int) ∈ zs) : l.filter (fun q => decide ((q.1 : Int) ∉ zs)) = [] := List.filter_eq_nil_iff.2 fun q hq => by simp [h q hq]
theorem MgI.rise (h : MgI B S M) : (B ++ M.map runM).Pairwise fun p q => p.1 < q.1 := by rw [← h.runs]; exact h.good.rising
theorem MgI.top (h : MgI B S M) : ∀ q ∈ B ++ M.map runM, q.1 ≤ S.made := fun q hq => (h.good.inside q (by rw [h.runs]; exact hq)).2
/-- One round goes through. -/
theorem MgI.yes (h : MgI B S M) (k : Nat) (h0 : (writtenP S (allP S (numZ (M.take k)))).2.2 = 0) :
    (writtenP S (allP S (numZ (M.take k)))).2.1 = S.made + 1 ∧ MgI B (goneZ (writtenP S (allP S (numZ (M.take k)))).1 (numZ (M.take k))) (M.drop k ++ [(S.made + 1, ofL ((M.take k).map (·.2)).flatten)]) ∧ (goneZ (writtenP S (allP S (numZ (M.take k)))).1 (numZ (M.take k))).made = S.made + 1 := by
  obtain ⟨g1, _, ⟨_, g2, g3, g4⟩ | ⟨g2, _⟩⟩ := written_top (L := allP S (numZ (M.take k))) h.good (allP_fits _ _)
  · obtain ⟨k1, k2, k3, _⟩ := goneZ_good (numZ (M.take k)) g1
    have hr := h.rise
    rw [List.pairwise_append] at hr
    refine ⟨g2, ⟨k1, ?_, fun q hq => ?_⟩, k2.trans g3⟩
    · rw [k3, g4, h.runs, h.all (fun q hq => List.mem_of_mem_take hq)]
      have hM : M.map runM = (M.take k).map runM ++ (M.drop k).map runM := by rw [← List.map_append, List.take_append_drop]
      have hd := hr.2.1
      rw [hM, List.pairwise_append] at hd
      have e1 : B.filter (fun q => decide ((q.1 : Int) ∉ numZ (M.take k))) = B := filter_off fun q hq hm => by
        obtain ⟨p, hp, he⟩ := List.mem_map.1 hm
        have := hr.2.2 q hq (runM p) (List.mem_map_of_mem (List.mem_of_mem_take hp))
        simp at this
        omega
      have e2 : ((M.take k).map runM).filter (fun q => decide ((q.1 : Int) ∉ numZ (M.take k))) = [] := filter_in fun q hq => by
        obtain ⟨p, hp, rfl⟩ := List.mem_map.1 hq
        exact List.mem_map_of_mem (f := fun q : Nat × List (List UInt8) => (q.1 : Int)) hp
      have e3 : ((M.drop k).map runM).filter (fun q => decide ((q.1 : Int) ∉ numZ (M.take k))) = (M.drop k).map runM := filter_off fun q hq hm => by
        obtain ⟨p, hp, he⟩ := List.mem_map.1 hm
        have := hd.2.2 (runM p) (List.mem_map_of_mem hp) q hq
        simp at this
        omega
      have e4 : [((S.made + 1, ⟨frameL (ofL ((M.take k).map (·.2)).flatten), true⟩) : Nat × RunD)].filter (fun q => decide ((q.1 : Int) ∉ numZ (M.take k))) = [(S.made + 1, ⟨frameL (ofL ((M.take k).map (·.2)).flatten), true⟩)] := filter_off fun q hq hm => by
        obtain ⟨p, hp, he⟩ := List.mem_map.1 hm
        have := h.top (runM p) (List.mem_append_right _ (List.mem_map_of_mem (List.mem_of_mem_take hp)))
        simp at hq
        subst hq
        simp at this he
        omega
      rw [hM, List.filter_append, List.filter_append, List.filter_append, e1, e2, e3, e4]
      simp
    · rcases List.mem_append.1 hq with hq | hq
      · exact h.fit q (List.mem_of_mem_drop hq)
      · obtain rfl := List.mem_singleton.1 hq
        have := allP_fits S (numZ (M.take k))
        rw [h.all (fun q hq => List.mem_of_mem_take hq)] at this
        exact ⟨this, ofL_rises _⟩
  · exact absurd h0 g2
/-- One round is refused: nothing is left of the list. -/
theorem MgI.no (h : MgI B S M) (k : Nat) (h0 : (writtenP S (allP S (numZ (M.take k)))).2.2 ≠ 0) :
    (goneZ (writtenP S (allP S (numZ (M.take k)))).1 (numZ M)).runs = B ∧ GoodS (goneZ (writtenP S (allP S (numZ (M.take k)))).1 (numZ M)) := by
  obtain ⟨g1, _, ⟨g2, _⟩ | ⟨_, _, g4, _⟩⟩ := written_top (L := allP S (numZ (M.take k))) h.good (allP_fits _ _)
  · exact absurd g2 h0
  · obtain ⟨k1, k2, k3, _⟩ := goneZ_good (numZ M) g1
    have hr := h.rise
    rw [List.pairwise_append] at hr
    refine ⟨?_, k1⟩
    rw [k3, g4, h.runs, List.filter_append, filter_off (l := B) fun q hq hm => by
        obtain ⟨p, hp, he⟩ := List.mem_map.1 hm
        have := hr.2.2 q hq (runM p) (List.mem_map_of_mem hp)
        simp at this
        omega,
      filter_in (l := M.map runM) fun q hq => by
        obtain ⟨p, hp, rfl⟩ := List.mem_map.1 hq
        exact List.mem_map_of_mem (f := fun q : Nat × List (List UInt8) => (q.1 : Int)) hp, List.append_nil]
end
end Go.Proofs.YtadokkffmekndaaGreatDoor
namespace Go.Proofs.YtadokkffmekndaaGreatDoor
open Go.RowKit

theorem withRun_cap {S : St} {z : Int} {f : Nat × RunD → St × Nat} (hf : ∀ p, (f p).1.cap = S.cap) : (withRun S z f).1.cap = S.cap := by
  unfold withRun
  split
  · rfl
  · split
    · rfl
    · split
      · rfl
      · exact hf _
theorem cap_append (S : St) (z : Int) (t : List UInt8) : (appendP S z t).1.cap = S.cap := withRun_cap fun p => by split <;> rfl
theorem cap_seal (S : St) (z : Int) : (sealP S z).1.cap = S.cap := withRun_cap fun _ => rfl
theorem cap_remove (S : St) (z : Int) : (removeP S z).1.cap = S.cap := by
  unfold removeP
  split <;> rfl
theorem cap_create (S : St) : (createP S).1.cap = S.cap := by
  unfold createP
  split
  · rfl
  · split <;> rfl
theorem cap_flush (S : St) (x : WrD) (n : Nat) : (flushP S x n).1.cap = S.cap := by
  unfold flushP
  split <;> exact cap_append _ _ _
theorem cap_putL : ∀ (n : Nat) (S : St) (x : WrD), (putL n S x).1.cap = S.cap
  | 0, _, _ => rfl
  | n + 1, S, x => by
    unfold putL
    split
    · split
      · rw [cap_putL n]; exact cap_flush _ _ _
      · exact cap_flush _ _ _
    · rfl
theorem cap_put (S : St) (x : WrD) (ss : List (List UInt8)) : (putP S x ss).1.cap = S.cap := by
  unfold putP
  split
  · rfl
  · split
    · rfl
    · exact cap_putL _ _ _
theorem cap_rest (S : St) (x : WrD) : (restP S x).1.cap = S.cap := by
  unfold restP
  split
  · rfl
  · exact cap_flush _ _ _
theorem cap_close (S : St) (x : WrD) : (closeP S x).1.cap = S.cap := by
  unfold closeP
  split
  · rfl
  · split
    · exact cap_rest _ _
    · split <;> rw [cap_seal] <;> exact cap_rest _ _
theorem cap_drop (S : St) (x : WrD) : (dropP S x).1.cap = S.cap := by
  unfold dropP
  split
  · rfl
  · exact cap_remove _ _
theorem cap_written (S : St) (L : List (List UInt8)) : (writtenP S L).1.cap = S.cap := by
  unfold writtenP
  split
  · exact cap_create _
  · dsimp only
    split
    · rw [cap_drop, cap_put, cap_create]
    · split
      · rw [cap_drop, cap_close, cap_put, cap_create]
      · show (closeP _ _).1.cap = _
        rw [cap_close, cap_put, cap_create]
theorem cap_gone : ∀ (l : List Nat) (S : St), (goneP S l).cap = S.cap
  | [], _ => rfl
  | n :: l, S => by
    show (goneP (removeP S n).1 l).cap = _
    rw [cap_gone l, cap_remove]
theorem cap_fwrite (S : St) (f : FmD) : (fwriteP S f).1.cap = S.cap := by
  unfold fwriteP
  split
  · exact cap_written _ _
  · show (goneP _ _).cap = _
    rw [cap_gone, cap_written]
theorem cap_addL : ∀ (ws : List (List UInt8)) (S : St) (f : FmD), (addL S f ws).1.cap = S.cap
  | [], _, _ => by rw [addL_nil]
  | x :: ws, S, f => by
    rw [addL_cons]
    split
    · split
      · rw [cap_addL ws, cap_fwrite]
      · exact cap_fwrite _ _
    · exact cap_addL ws _ _
theorem cap_addP (S : St) (f : FmD) (ws : List (List UInt8)) : (addP S f ws).1.cap = S.cap := by
  unfold addP
  split
  · rfl
  · split
    · rfl
    · exact cap_addL _ _ _
theorem cap_finish (S : St) (f : FmD) : (finishP S f).1.cap = S.cap := by
  unfold finishP
  split
  · rfl
  · split
    · rfl
    · split <;> exact cap_fwrite _ _
/-- What the law asks behind Add and Finish of a former in a store of its own. -/
structure LostOf (S : St) (b : Nat) (ws : List (List UInt8)) : Prop where
  good : GoodS (addP S (newF b) ws).1
  seal_ : Sealed (addP S (newF b) ws).1
  fok : FOk (addP S (newF b) ws).1 (addP S (newF b) ws).2.1
  cA : okB (addP S (newF b) ws).2.2
  fin : FKeep (addP S (newF b) ws).1 (finishP (addP S (newF b) ws).1 (addP S (newF b) ws).2.1).1 (addP S (newF b) ws).2.1 (finishP (addP S (newF b) ws).1 (addP S (newF b) ws).2.1).2.1
  cF : okB (finishP (addP S (newF b) ws).1 (addP S (newF b) ws).2.1).2.2.2
  yes : (finishP (addP S (newF b) ws).1 (addP S (newF b) ws).2.1).2.2.2 = 0 → (finishP (addP S (newF b) ws).1 (addP S (newF b) ws).2.1).2.1.dead = 13 ∧ (finishP (addP S (newF b) ws).1 (addP S (newF b) ws).2.1).1.runs.length = (finishP (addP S (newF b) ws).1 (addP S (newF b) ws).2.1).2.2.1.length
  no : (finishP (addP S (newF b) ws).1 (addP S (newF b) ws).2.1).2.2.2 ≠ 0 → (finishP (addP S (newF b) ws).1 (addP S (newF b) ws).2.1).2.1.dead = (finishP (addP S (newF b) ws).1 (addP S (newF b) ws).2.1).2.2.2 ∧
    (finishP (addP S (newF b) ws).1 (addP S (newF b) ws).2.1).1.runs = [] ∧ (finishP (addP S (newF b) ws).1 (addP S (newF b) ws).2.1).2.2.1 = [] ∧ (finishP (addP S (newF b) ws).1 (addP S (newF b) ws).2.1).1.made ≤ ws.length + 1
end Go.Proofs.YtadokkffmekndaaGreatDoor
namespace Go.Proofs.YtadokkffmekndaaGreatDoor
open Go.RowKit

theorem ofL_same {L : List (List UInt8)} (h : RisesL L) : ofL L = L := RisesL.ext (ofL_rises L) h fun x => ofL_mem L x
section
variable {B : List (Nat × RunD)}
theorem numZ_take (M : List (Nat × List (List UInt8))) (k : Nat) : (numZ M).take k = numZ (M.take k) := by unfold numZ; rw [List.map_take]
theorem numZ_drop (M : List (Nat × List (List UInt8))) (k : Nat) : (numZ M).drop k = numZ (M.drop k) := by unfold numZ; rw [List.map_drop]
/-- What the rounds leave: one run of all, or, refused, nothing of the list. -/
def MgEnd (B : List (Nat × RunD)) (U : List (List UInt8)) (r : St × Int × Nat) : Prop :=
  (r.2.2 = 0 ∧ ∃ m : Nat, r.2.1 = (m : Int) ∧ MgI B r.1 [(m, U)]) ∨ (r.2.2 ≠ 0 ∧ r.2.1 = 0 ∧ r.1.runs = B ∧ GoodS r.1)
theorem loop_end (fan : Nat) (hf : 2 ≤ fan) : ∀ (n : Nat) {S : St} {M : List (Nat × List (List UInt8))}, MgI B S M → 1 ≤ M.length → M.length ≤ n → MgEnd B (ofL (M.map (·.2)).flatten) (loopM fan n S (numZ M))
  | 0, S, M, _, h1, h2 => absurd h1 (by omega)
  | n + 1, S, M, h, h1, h2 => by
    unfold loopM
    by_cases hl : (numZ M).length ≤ 1
    · rw [if_pos hl]
      have hl2 : M.length = 1 := by
        have : (numZ M).length = M.length := by simp [numZ]
        omega
      obtain ⟨q, rfl⟩ := List.length_eq_one_iff.1 hl2
      refine .inl ⟨rfl, q.1, rfl, ?_⟩
      have : ofL ([q].map (·.2)).flatten = q.2 := by
        simp only [List.map_cons, List.map_nil, List.flatten_cons, List.flatten_nil, List.append_nil]
        exact ofL_same (h.fit q (List.mem_singleton_self _)).2
      rw [this]
      exact h
    · rw [if_neg hl, numZ_take, numZ_drop]
      have hl2 : 1 < M.length := by
        have : (numZ M).length = M.length := by simp [numZ]
        omega
      by_cases hz : (writtenP S (allP S (numZ (M.take fan)))).2.2 ≠ 0
      · rw [if_pos hz]
        obtain ⟨g1, g2⟩ := h.no fan hz
        exact .inr ⟨hz, rfl, g1, g2⟩
      · rw [if_neg hz]
        obtain ⟨g1, g2, _⟩ := h.yes fan (by simpa using hz)
        rw [g1]
        have hd : (M.drop fan ++ [(S.made + 1, ofL ((M.take fan).map (·.2)).flatten)]).length = M.length - fan + 1 := by simp
        have ih := loop_end fan hf n g2 (by omega) (by omega)
        have e : ofL ((M.drop fan ++ [(S.made + 1, ofL ((M.take fan).map (·.2)).flatten)]).map (·.2)).flatten = ofL (M.map (·.2)).flatten := by
          have e1 := ofL_join ((M.take fan).map (·.2)) ((M.drop fan).map (·.2))
          rw [← List.map_append, List.take_append_drop] at e1
          rw [← e1, List.map_append]
          rfl
        rw [e] at ih
        have e2 : numZ (M.drop fan) ++ [((S.made + 1 : Nat) : Int)] = numZ (M.drop fan ++ [(S.made + 1, ofL ((M.take fan).map (·.2)).flatten)]) := by simp [numZ]
        rw [e2]
        exact ih
/-- With room none of the rounds is refused. -/
theorem loop_free (fan : Nat) (hf : 2 ≤ fan) (Wt : Nat) : ∀ (n : Nat) {S : St} {M : List (Nat × List (List UInt8))}, MgI B S M → 1 ≤ M.length → M.length ≤ n → S.left = 0 → usedOf B + (M.map fun q => wsum q.2).sum ≤ usedOf B + Wt → usedOf B + 2 * Wt ≤ S.cap → S.made + n ≤ 16777216 → (loopM fan n S (numZ M)).2.2 = 0
  | 0, S, M, _, h1, h2, _, _, _, _ => absurd h1 (by omega)
  | n + 1, S, M, h, h1, h2, h3, h4, h5, h6 => by
    unfold loopM
    by_cases hl : (numZ M).length ≤ 1
    · rw [if_pos hl]
    · rw [if_neg hl, numZ_take, numZ_drop]
      have hl2 : 1 < M.length := by
        have : (numZ M).length = M.length := by simp [numZ]
        omega
      have hsum : ∀ (l : List (Nat × List (List UInt8))), wsum (l.map (·.2)).flatten = (l.map fun q => wsum q.2).sum := fun l => by
        induction l with
        | nil => rfl
        | cons a l ih => simp only [List.map_cons, List.flatten_cons, List.sum_cons, wsum_append, ih]
      have hused : ∀ (l : List (Nat × List (List UInt8))), (∀ q ∈ l, fits q.2 = true) → usedOf (l.map runM) ≤ (l.map fun q => wsum q.2).sum := fun l => by
        induction l with
        | nil => intro _; simp [usedOf]
        | cons a l ih =>
          intro ha
          rw [List.map_cons, usedOf_cons, List.map_cons, List.sum_cons]
          have := frame_wsum (ha a List.mem_cons_self)
          have := ih fun q hq => ha q (List.mem_cons_of_mem _ hq)
          show (frameL a.2).length + _ ≤ _
          omega
      have hall : allP S (numZ (M.take fan)) = ofL ((M.take fan).map (·.2)).flatten := h.all fun q hq => List.mem_of_mem_take hq
      have htd : (M.map fun q => wsum q.2).sum = ((M.take fan).map fun q => wsum q.2).sum + ((M.drop fan).map fun q => wsum q.2).sum := by rw [← List.sum_append, ← List.map_append, List.take_append_drop]
      have hof : wsum (ofL ((M.take fan).map (·.2)).flatten) ≤ ((M.take fan).map fun q => wsum q.2).sum := by rw [← hsum]; exact wsum_of _
      have hfr : (frameL (allP S (numZ (M.take fan)))).length ≤ ((M.take fan).map fun q => wsum q.2).sum := Nat.le_trans (frame_wsum (allP_fits _ _)) (by rw [hall]; exact hof)
      have hus : S.used ≤ usedOf B + (M.map fun q => wsum q.2).sum := by
        rw [h.good.used, h.runs, usedOf_append]
        have := hused M fun q hq => (h.fit q hq).1
        omega
      obtain ⟨w1, w2⟩ := written_free (L := allP S (numZ (M.take fan))) (n := 0) h.good (allP_fits _ _) ⟨h3, by omega⟩ (by omega)
      rw [if_neg (by simpa using w1)]
      obtain ⟨g1, g2, g3⟩ := h.yes fan w1
      rw [g1]
      have hgg := (written_top (L := allP S (numZ (M.take fan))) h.good (allP_fits _ _)).1
      obtain ⟨_, _, _, q4, _, q6⟩ := goneZ_good (numZ (M.take fan)) hgg
      have e2 : numZ (M.drop fan) ++ [((S.made + 1 : Nat) : Int)] = numZ (M.drop fan ++ [(S.made + 1, ofL ((M.take fan).map (·.2)).flatten)]) := by simp [numZ]
      rw [e2]
      refine loop_free fan hf Wt n g2 (by simp) (by simp; omega) (q6.trans w2.left) ?_ ?_ (by rw [g3]; omega)
      · rw [List.map_append, List.sum_append]
        simp only [List.map_cons, List.map_nil, List.sum_cons, List.sum_nil]
        omega
      · rw [q4]
        have : (writtenP S (allP S (numZ (M.take fan)))).1.cap = S.cap := cap_written _ _
        omega
end
end Go.Proofs.YtadokkffmekndaaGreatDoor
namespace Go.Proofs.YtadokkffmekndaaGreatDoor
open Go.RowKit

/-- A store with a former that made all that lies in it behind the runs B. -/
structure FormB (B : List (Nat × RunD)) (m0 : Nat) (S : St) (f : FmD) (Ls : List (List (List UInt8))) : Prop where
  good : GoodS S
  runs : S.runs = B ++ runsL (m0 + 1) Ls
  made : S.made = m0 + Ls.length
  list : f.made = List.range' (m0 + 1) Ls.length
  each : ∀ L ∈ Ls, L.length = f.most
section
variable {B : List (Nat × RunD)} {m0 : Nat}
section
variable {S : St} {f : FmD} {Ls : List (List (List UInt8))}
/-- Its batch is written, or nothing is left. -/
theorem FormB.write (h : FormB B m0 S f Ls) (hf : fits f.held = true) :
    ((fwriteP S f).2.2 = 0 ∧ (fwriteP S f).1.runs = B ++ runsL (m0 + 1) (Ls ++ [f.held]) ∧ (fwriteP S f).1.made = m0 + Ls.length + 1 ∧ GoodS (fwriteP S f).1 ∧ (fwriteP S f).2.1 = ⟨[], f.most, List.range' (m0 + 1) (Ls.length + 1), f.dead⟩) ∨
    ((fwriteP S f).2.2 ≠ 0 ∧ (fwriteP S f).1.runs = B ∧ GoodS (fwriteP S f).1 ∧ (fwriteP S f).1.made ≤ m0 + Ls.length + 1 ∧ (fwriteP S f).2.1 = ⟨f.held, f.most, [], (fwriteP S f).2.2⟩) := by
  obtain ⟨h1, h2, h3⟩ := written_top h.good (fits_ofL hf)
  have hmm : (writtenP S (ofL f.held)).1.made ≤ S.made + 1 := written_made S _
  have hmd := h.made
  unfold fwriteP
  rcases h3 with ⟨k1, k2, k3, k4⟩ | ⟨k1, k2, k3, k4, k5⟩
  · rw [if_pos k1]
    refine .inl ⟨rfl, ?_, by rw [← hmd]; exact k3, h1, ?_⟩
    · rw [runsL_append, ← List.append_assoc, ← h.runs, show m0 + 1 + Ls.length = S.made + 1 by omega]
      exact k4
    · rw [h.list, k2, hmd, List.range'_concat]
      simp [show m0 + Ls.length + 1 = m0 + 1 + Ls.length by omega]
  · rw [if_neg k1]
    obtain ⟨g1, g2, g3⟩ := gone_good f.made h1
    have hr := h.good.rising
    rw [h.runs, List.pairwise_append] at hr
    refine .inr ⟨k1, ?_, g1, by rw [g2, ← hmd]; exact hmm, rfl⟩
    rw [g3, k3, h.runs, List.filter_append, show B.filter (fun q => decide (q.1 ∉ f.made)) = B from List.filter_eq_self.2 ?_, List.filter_eq_nil_iff.2, List.append_nil]
    · intro q hq
      have : q.1 ∈ (runsL (m0 + 1) Ls).map (·.1) := List.mem_map_of_mem hq
      rw [runsL_num, ← h.list] at this
      simpa using this
    · intro q hq
      refine decide_eq_true fun hm => ?_
      rw [h.list, ← runsL_num] at hm
      obtain ⟨p, hp, he⟩ := List.mem_map.1 hm
      have := hr.2.2 q hq p hp
      omega
end
/-- Words one after another, in a store of the former's own. -/
theorem addL_formB : ∀ (ws : List (List UInt8)) {S : St} {f : FmD} {Ls : List (List (List UInt8))}, FormB B m0 S f Ls → 1 ≤ f.most → f.held.length < f.most → fits f.held = true → f.dead = 0 → fits ws = true →
    ((addL S f ws).2.2 = 0 ∧ ∃ Ms, FormB B m0 (addL S f ws).1 (addL S f ws).2.1 (Ls ++ Ms) ∧ (addL S f ws).2.1.dead = 0 ∧ (addL S f ws).2.1.most = f.most ∧ (addL S f ws).2.1.held.length < f.most ∧ Ms.flatten ++ (addL S f ws).2.1.held = f.held ++ ws ∧ fits (addL S f ws).2.1.held = true ∧ Ms.length ≤ ws.length) ∨
    ((addL S f ws).2.2 ≠ 0 ∧ (addL S f ws).1.runs = B ∧ GoodS (addL S f ws).1 ∧ (addL S f ws).1.made ≤ m0 + Ls.length + ws.length ∧ (addL S f ws).2.1.made = [] ∧ (addL S f ws).2.1.dead = (addL S f ws).2.2)
  | [], S, f, Ls, hF, hm, hl, hf, hd, hw => .inl ⟨rfl, [], by simpa [addL] using hF, hd, rfl, hl, by simp [addL], hf, Nat.le_refl _⟩
  | x :: ws, S, f, Ls, hF, hm, hl, hf, hd, hw => by
    obtain ⟨hw1, hw2⟩ := fits_cons.1 hw
    have hx : fits (f.held ++ [x]) = true := fits_append.2 ⟨hf, by simp [fits, hw1]⟩
    have hF1 : FormB B m0 S { f with held := f.held ++ [x] } Ls := ⟨hF.good, hF.runs, hF.made, hF.list, hF.each⟩
    unfold addL
    by_cases hmm : f.most ≤ f.held.length + 1
    · rw [if_pos hmm]
      rcases hF1.write hx with ⟨h1, h2, h3, h4, h5⟩ | ⟨h1, h2, h3, h4, h5⟩
      · rw [if_pos h1]
        have hF2 : FormB B m0 (fwriteP S { f with held := f.held ++ [x] }).1 (fwriteP S { f with held := f.held ++ [x] }).2.1 (Ls ++ [f.held ++ [x]]) := by
          refine ⟨h4, h2, by rw [h3]; simp; omega, by rw [h5]; simp, fun L hL => ?_⟩
          rw [h5]
          rcases List.mem_append.1 hL with h | h
          · exact hF.each L h
          · simp at h; subst h
            show (f.held ++ [x]).length = f.most
            simp; omega
        have hh : (fwriteP S { f with held := f.held ++ [x] }).2.1.held = [] := by rw [h5]
        have hmo : (fwriteP S { f with held := f.held ++ [x] }).2.1.most = f.most := by rw [h5]
        rcases addL_formB ws hF2 (by rw [hmo]; exact hm) (by rw [hh, hmo]; exact hm) (by rw [hh]; rfl) (by rw [h5]; exact hd) hw2 with ⟨g1, Ms, g2, g3, g4, g5, g6, g7, g8⟩ | ⟨g1, g2, g3, g4, g5, g6⟩
        · refine .inl ⟨g1, (f.held ++ [x]) :: Ms, by rw [List.append_assoc] at g2; exact g2, g3, g4.trans hmo, Nat.lt_of_lt_of_eq g5 hmo, ?_, g7, by simp; omega⟩
          rw [hh, List.nil_append] at g6
          rw [List.flatten_cons, List.append_assoc, g6]
          simp
        · exact .inr ⟨g1, g2, g3, by simp at g4 ⊢; omega, g5, g6⟩
      · rw [if_neg h1]
        exact .inr ⟨h1, h2, h3, by simp; omega, by rw [h5], by rw [h5]⟩
    · rw [if_neg hmm]
      have hF2 : FormB B m0 S { f with held := f.held ++ [x] } Ls := hF1
      rcases addL_formB ws hF2 hm (by show (f.held ++ [x]).length < f.most; simp; omega) hx hd hw2 with ⟨g1, Ms, g2, g3, g4, g5, g6, g7, g8⟩ | ⟨g1, g2, g3, g4, g5, g6⟩
      · exact .inl ⟨g1, Ms, g2, g3, g4, g5, by rw [g6]; simp, g7, by simp; omega⟩
      · exact .inr ⟨g1, g2, g3, by simp; omega, g5, g6⟩
theorem addL_freeB : ∀ (ws : List (List UInt8)) {S : St} {f : FmD} {Ls : List (List (List UInt8))} {n : Nat}, FormB B m0 S f Ls → 1 ≤ f.most → f.held.length < f.most → fits f.held = true → f.dead = 0 → fits ws = true → Free S (wsum f.held + wsum ws + n) → m0 + Ls.length + ws.length < 16777216 →
    (addL S f ws).2.2 = 0 ∧ Free (addL S f ws).1 (wsum (addL S f ws).2.1.held + n)
  | [], S, f, Ls, n, hF, hm, hl, hf, hd, hw, hr, hc => ⟨rfl, hr.less (by simp [addL, wsum])⟩
  | x :: ws, S, f, Ls, n, hF, hm, hl, hf, hd, hw, hr, hc => by
    obtain ⟨hw1, hw2⟩ := fits_cons.1 hw
    have hx : fits (f.held ++ [x]) = true := fits_append.2 ⟨hf, by simp [fits, hw1]⟩
    have hF1 : FormB B m0 S { f with held := f.held ++ [x] } Ls := ⟨hF.good, hF.runs, hF.made, hF.list, hF.each⟩
    have hsx : wsum (f.held ++ [x]) = wsum f.held + (x.length + 2) := by rw [wsum_append]; simp [wsum]
    simp only [List.length_cons] at hc
    unfold addL
    by_cases hmm : f.most ≤ f.held.length + 1
    · rw [if_pos hmm]
      obtain ⟨e1, e2⟩ := fwrite_free (f := { f with held := f.held ++ [x] }) (n := wsum ws + n) hF.good hx (hr.less (by show wsum (f.held ++ [x]) + _ ≤ _; rw [hsx]; simp only [wsum]; omega)) (by rw [hF.made]; omega)
      rw [if_pos e1]
      rcases hF1.write hx with ⟨h1, h2, h3, h4, h5⟩ | ⟨h1, _⟩
      · have hF2 : FormB B m0 (fwriteP S { f with held := f.held ++ [x] }).1 (fwriteP S { f with held := f.held ++ [x] }).2.1 (Ls ++ [f.held ++ [x]]) := by
          refine ⟨h4, h2, by rw [h3]; simp; omega, by rw [h5]; simp, fun L hL => ?_⟩
          rw [h5]
          rcases List.mem_append.1 hL with h | h
          · exact hF.each L h
          · simp at h; subst h
            show (f.held ++ [x]).length = f.most
            simp; omega
        have hh : (fwriteP S { f with held := f.held ++ [x] }).2.1.held = [] := by rw [h5]
        have hmo : (fwriteP S { f with held := f.held ++ [x] }).2.1.most = f.most := by rw [h5]
        exact addL_freeB ws hF2 (by rw [hmo]; exact hm) (by rw [hh, hmo]; exact hm) (by rw [hh]; rfl) (by rw [h5]; exact hd) hw2 (e2.less (by rw [hh]; simp [wsum])) (by simp; omega)
      · exact absurd e1 h1
    · rw [if_neg hmm]
      exact addL_freeB ws (f := { f with held := f.held ++ [x] }) hF1 hm (by show (f.held ++ [x]).length < f.most; simp; omega) hx hd hw2 (hr.less (by show wsum (f.held ++ [x]) + _ + _ ≤ _; rw [hsx]; simp only [wsum]; omega)) (by omega)
section
variable {S : St} {f : FmD} {Ls : List (List (List UInt8))}
/-- The end of a former in a store of its own. -/
theorem finish_formB (hF : FormB B m0 S f Ls) (hf : fits f.held = true) (hd : f.dead = 0) :
    ((finishP S f).2.2.2 = 0 ∧ (finishP S f).1.runs = B ++ runsL (m0 + 1) (Ls ++ if f.held = [] then [] else [f.held]) ∧ GoodS (finishP S f).1 ∧ (finishP S f).2.1.dead = 13 ∧ (finishP S f).2.2.1 = List.range' (m0 + 1) (Ls ++ if f.held = [] then [] else [f.held]).length ∧ (finishP S f).2.1.made = (finishP S f).2.2.1) ∨
    ((finishP S f).2.2.2 ≠ 0 ∧ (finishP S f).1.runs = B ∧ GoodS (finishP S f).1 ∧ (finishP S f).1.made ≤ m0 + Ls.length + 1 ∧ (finishP S f).2.2.1 = [] ∧ (finishP S f).2.1.dead = (finishP S f).2.2.2) := by
  unfold finishP
  rw [if_neg (by simpa using hd)]
  by_cases hh : f.held = []
  · rw [if_pos hh, if_pos hh, List.append_nil]
    exact .inl ⟨rfl, hF.runs, hF.good, rfl, hF.list, rfl⟩
  · rw [if_neg hh, if_neg hh]
    rcases hF.write hf with ⟨h1, h2, h3, h4, h5⟩ | ⟨h1, h2, h3, h4, h5⟩
    · rw [if_pos h1, h5]
      exact .inl ⟨rfl, h2, h4, rfl, by simp, rfl⟩
    · rw [if_neg h1, h5]
      exact .inr ⟨h1, h2, h3, h4, rfl, rfl⟩
theorem finish_freeB {n : Nat} (hF : FormB B m0 S f Ls) (hf : fits f.held = true) (hd : f.dead = 0) (hr : Free S (wsum f.held + n)) (hc : m0 + Ls.length < 16777216) : (finishP S f).2.2.2 = 0 ∧ Free (finishP S f).1 n := by
  unfold finishP
  rw [if_neg (by simpa using hd)]
  by_cases hh : f.held = []
  · rw [if_pos hh]
    exact ⟨rfl, hr.less (by omega)⟩
  · rw [if_neg hh]
    obtain ⟨h1, h2⟩ := fwrite_free (n := n) hF.good hf hr (by rw [hF.made]; exact hc)
    rw [if_pos h1]
    exact ⟨rfl, h2⟩
end
end
end Go.Proofs.YtadokkffmekndaaGreatDoor
namespace Go.Proofs.YtadokkffmekndaaGreatDoor
open Go.RowKit

def pairsL : Nat → List (List (List UInt8)) → List (Nat × List (List UInt8))
  | _, [] => []
  | k, L :: Ls => (k, ofL L) :: pairsL (k + 1) Ls
theorem pairs_runs : ∀ (Ls : List (List (List UInt8))) (k : Nat), runsL k Ls = (pairsL k Ls).map runM
  | [], _ => rfl
  | L :: Ls, k => by
    show _ :: runsL (k + 1) Ls = _ :: (pairsL (k + 1) Ls).map runM
    rw [pairs_runs Ls (k + 1)]
theorem pairs_num : ∀ (Ls : List (List (List UInt8))) (k : Nat), numZ (pairsL k Ls) = (List.range' k Ls.length).map fun (n : Nat) => (n : Int)
  | [], _ => rfl
  | L :: Ls, k => by
    show (k : Int) :: numZ (pairsL (k + 1) Ls) = _
    rw [pairs_num Ls (k + 1)]
    rfl
theorem pairs_len : ∀ (Ls : List (List (List UInt8))) (k : Nat), (pairsL k Ls).length = Ls.length
  | [], _ => rfl
  | L :: Ls, k => by
    show (pairsL (k + 1) Ls).length + 1 = _
    rw [pairs_len Ls (k + 1)]
    rfl
theorem pairs_snd : ∀ (Ls : List (List (List UInt8))) (k : Nat), (pairsL k Ls).map (·.2) = Ls.map ofL
  | [], _ => rfl
  | L :: Ls, k => by
    show ofL L :: (pairsL (k + 1) Ls).map (·.2) = _
    rw [pairs_snd Ls (k + 1)]
    rfl
theorem ofL_ofs (Ls : List (List (List UInt8))) : ofL (Ls.map ofL).flatten = ofL Ls.flatten :=
  RisesL.ext (ofL_rises _) (ofL_rises _) fun x => by
    rw [ofL_mem, ofL_mem, List.mem_flatten, List.mem_flatten]
    constructor
    · rintro ⟨L, hL, hx⟩
      obtain ⟨M, hM, rfl⟩ := List.mem_map.1 hL
      exact ⟨M, hM, (ofL_mem _ _).1 hx⟩
    · rintro ⟨L, hL, hx⟩
      exact ⟨ofL L, List.mem_map_of_mem hL, (ofL_mem _ _).2 hx⟩
theorem look_zero {S : St} : ∀ (l seen : List Int), (∀ z ∈ l, readC S z 0 0 = 0) → (seen ++ l).Nodup → lookP S seen l = 0
  | [], _, _, _ => rfl
  | z :: l, seen, h1, h2 => by
    unfold lookP
    rw [if_neg (by simpa using h1 z List.mem_cons_self)]
    have hn : z ∉ seen := fun hz => by
      have := List.nodup_append.1 h2
      exact this.2.2 z hz z List.mem_cons_self rfl
    rw [if_neg hn]
    exact look_zero l (seen ++ [z]) (fun y hy => h1 y (List.mem_cons_of_mem _ hy)) (by rw [List.append_assoc]; exact h2)
theorem MgI.look {B : List (Nat × RunD)} {S : St} {M : List (Nat × List (List UInt8))} (h : MgI B S M) : lookP S [] (numZ M) = 0 := by
  refine look_zero _ _ (fun z hz => ?_) ?_
  · obtain ⟨q, hq, rfl⟩ := List.mem_map.1 hz
    have hm : runM q ∈ S.runs := by rw [h.runs]; exact List.mem_append_right _ (List.mem_map_of_mem hq)
    have hf := find_of_mem h.good hm
    unfold readC
    rw [show ((q.1 : Nat) : Int) = ((runM q).1 : Int) from rfl, hf]
    dsimp only
    rw [if_neg (by decide), if_neg (by omega)]
  · have hr := h.rise
    rw [List.pairwise_append] at hr
    have h2 := hr.2.1
    rw [List.pairwise_map] at h2
    rw [List.nil_append]
    unfold numZ
    rw [List.Nodup, List.pairwise_map]
    exact h2.imp fun hab => by
      show _ ≠ _
      simp at hab
      omega
/-- Sort leaves one run more, of these words; or it is refused, and what was there is there. -/
theorem sort_end {S : St} (hG : GoodS S) {b fan : Int} (hb : 1 ≤ b ∧ b ≤ 65536) (hf : 2 ≤ fan ∧ fan ≤ 64) (ws : List (List UInt8)) : MgEnd S.runs (ofL ws) (sortP S b fan ws) := by
  unfold sortP
  rw [if_neg (by omega)]
  have hbn : 1 ≤ b.toNat := by omega
  by_cases hw : fits ws = true
  · have hF : FormB S.runs S.made S ⟨[], b.toNat, [], 0⟩ [] := ⟨hG, by simp [runsL], rfl, rfl, fun _ h => by cases h⟩
    have e : addP S ⟨[], b.toNat, [], 0⟩ ws = addL S ⟨[], b.toNat, [], 0⟩ ws := by
      unfold addP
      rw [if_neg (by simp), if_neg (by simp [hw])]
    rw [e]
    rcases addL_formB ws hF hbn hbn rfl rfl hw with ⟨g1, Ms, g2, g3, g4, g5, g6, g7, g8⟩ | ⟨g1, g2, g3, _⟩
    · rw [if_neg (by simpa using g1)]
      dsimp only
      rcases finish_formB g2 g7 g3 with ⟨q1, q2, q3, q4, q5, q6⟩ | ⟨q1, q2, q3, _⟩
      · rw [if_neg (by simpa using q1)]
        obtain ⟨Ls, hLs⟩ : ∃ Ls, Ls = [] ++ Ms ++ if (addL S ⟨[], b.toNat, [], 0⟩ ws).2.1.held = [] then [] else [(addL S ⟨[], b.toNat, [], 0⟩ ws).2.1.held] := ⟨_, rfl⟩
        rw [← hLs] at q2 q5
        have hfl : Ls.flatten = ws := by
          rw [hLs, List.nil_append, List.flatten_append]
          have g7 : Ms.flatten ++ (addL S ⟨[], b.toNat, [], 0⟩ ws).2.1.held = ws := g6
          refine Eq.trans ?_ g7
          congr 1
          split
          · rename_i h; rw [h]; rfl
          · simp
        generalize finishP (addL S ⟨[], b.toNat, [], 0⟩ ws).1 (addL S ⟨[], b.toNat, [], 0⟩ ws).2.1 = R at *
        have hfits : ∀ L ∈ Ls, fits L = true := fun L hL => fits_mem.2 fun r hr => fits_mem.1 hw r (by rw [← hfl]; exact List.mem_flatten.2 ⟨L, hL, hr⟩)
        have hI : MgI S.runs R.1 (pairsL (S.made + 1) Ls) := ⟨q3, by rw [q2, pairs_runs], fun q hq => by
          have : q.2 ∈ Ls.map ofL := by rw [← pairs_snd Ls (S.made + 1)]; exact List.mem_map_of_mem hq
          obtain ⟨L, hL, he⟩ := List.mem_map.1 this
          rw [← he]
          exact ⟨fits_ofL (hfits L hL), ofL_rises L⟩⟩
        unfold mergeP
        rw [if_neg (by omega), q5, ← pairs_num, if_neg (by rw [hI.look]; simp)]
        by_cases hn : Ls = []
        · subst hn
          have hws : ws = [] := by rw [← hfl]; rfl
          subst hws
          rw [if_pos (show numZ (pairsL (S.made + 1) []) = [] from rfl)]
          obtain ⟨w1, _, ⟨w2, w3, w4, w5⟩ | ⟨w2, w3, w4, _⟩⟩ := written_top (L := []) q3 rfl
          · refine .inl ⟨w2, R.1.made + 1, by dsimp only; rw [w3], w1, ?_, fun q hq => ?_⟩
            · dsimp only
              rw [w5, q2]
              simp [runsL, ofL]
            · obtain rfl := List.mem_singleton.1 hq
              exact ⟨fits_ofL rfl, ofL_rises _⟩
          · refine .inr ⟨w2, by dsimp only; rw [w3]; rfl, ?_, w1⟩
            dsimp only
            rw [w4, q2]
            simp [runsL]
        · have hlen : 0 < Ls.length := List.length_pos_iff.2 hn
          rw [if_neg (by
            intro h0
            have := congrArg List.length h0
            simp [numZ, pairs_len] at this
            exact hn this)]
          have h9 := loop_end fan.toNat (by omega) (numZ (pairsL (S.made + 1) Ls)).length hI (by rw [pairs_len]; exact hlen) (by simp [numZ])
          rw [pairs_snd, ofL_ofs, hfl] at h9
          exact h9
      · rw [if_pos q1]
        exact .inr ⟨q1, rfl, q2, q3⟩
    · rw [if_pos g1]
      exact .inr ⟨g1, rfl, g2, g3⟩
  · have e : addP S ⟨[], b.toNat, [], 0⟩ ws = (S, ⟨[], b.toNat, [], 0⟩, 10) := by
      unfold addP
      rw [if_neg (by simp), if_pos (by simpa using hw)]
    rw [e, if_pos (by simp)]
    exact .inr ⟨by simp, rfl, rfl, hG⟩
end Go.Proofs.YtadokkffmekndaaGreatDoor
namespace Go.Proofs.YtadokkffmekndaaGreatDoor
open Go.RowKit

theorem wsum_flat : ∀ (l : List (List (List UInt8))), wsum l.flatten = (l.map wsum).sum
  | [] => rfl
  | a :: l => by rw [List.flatten_cons, wsum_append, List.map_cons, List.sum_cons, wsum_flat l]
theorem pairs_wsum (Ls : List (List (List UInt8))) (k : Nat) : ((pairsL k Ls).map fun q => wsum q.2).sum ≤ wsum Ls.flatten := by
  have h : ∀ (l : List (List (List UInt8))) (k : Nat), ((pairsL k l).map fun q => wsum q.2).sum ≤ (l.map wsum).sum := fun l => by
    induction l with
    | nil => intro _; exact Nat.le_refl _
    | cons a l ih =>
      intro k
      show wsum (ofL a) + ((pairsL (k + 1) l).map fun q => wsum q.2).sum ≤ wsum a + (l.map wsum).sum
      have := wsum_of a
      have := ih (k + 1)
      omega
  rw [wsum_flat]
  exact h Ls k
theorem sort_free {S : St} (hG : GoodS S) {b fan : Int} (hb : 1 ≤ b ∧ b ≤ 65536) (hf : 2 ≤ fan ∧ fan ≤ 64) (ws : List (List UInt8)) (hw : fits ws = true) (hl : S.left = 0) (hc : S.used + 2 * wsum ws ≤ S.cap) (hm : S.made + 2 * ws.length + 2 ≤ 16777216) : (sortP S b fan ws).2.2 = 0 := by
  unfold sortP
  rw [if_neg (by omega)]
  have hbn : 1 ≤ b.toNat := by omega
  have hF : FormB S.runs S.made S ⟨[], b.toNat, [], 0⟩ [] := ⟨hG, by simp [runsL], rfl, rfl, fun _ h => by cases h⟩
  have e : addP S ⟨[], b.toNat, [], 0⟩ ws = addL S ⟨[], b.toNat, [], 0⟩ ws := by
    unfold addP
    rw [if_neg (by simp), if_neg (by simp [hw])]
  have hcap : (addL S ⟨[], b.toNat, [], 0⟩ ws).1.cap = S.cap := cap_addL _ _ _
  obtain ⟨f1, f2⟩ := addL_freeB (n := 0) ws hF hbn hbn rfl rfl hw ⟨hl, by simp only [wsum]; omega⟩ (by simp; omega)
  rw [e, if_neg (by simpa using f1)]
  dsimp only
  rcases addL_formB ws hF hbn hbn rfl rfl hw with ⟨g1, Ms, g2, g3, g4, g5, g6, g7, g8⟩ | ⟨g1, _⟩
  · have hcap2 : (finishP (addL S ⟨[], b.toNat, [], 0⟩ ws).1 (addL S ⟨[], b.toNat, [], 0⟩ ws).2.1).1.cap = S.cap := (cap_finish _ _).trans hcap
    obtain ⟨f3, f4⟩ := finish_freeB g2 g7 g3 f2 (by simp; omega)
    rcases finish_formB g2 g7 g3 with ⟨q1, q2, q3, q4, q5, q6⟩ | ⟨q1, _⟩
    · rw [if_neg (by simpa using f3)]
      obtain ⟨Ls, hLs⟩ : ∃ Ls, Ls = [] ++ Ms ++ if (addL S ⟨[], b.toNat, [], 0⟩ ws).2.1.held = [] then [] else [(addL S ⟨[], b.toNat, [], 0⟩ ws).2.1.held] := ⟨_, rfl⟩
      rw [← hLs] at q2 q5
      have hfl : Ls.flatten = ws := by
        rw [hLs, List.nil_append, List.flatten_append]
        have g7 : Ms.flatten ++ (addL S ⟨[], b.toNat, [], 0⟩ ws).2.1.held = ws := g6
        refine Eq.trans ?_ g7
        congr 1
        split
        · rename_i h; rw [h]; rfl
        · simp
      have hLl : Ls.length ≤ ws.length + 1 := by
        rw [hLs]
        simp only [List.nil_append, List.length_append]
        split <;> simp <;> omega
      have hmade : (finishP (addL S ⟨[], b.toNat, [], 0⟩ ws).1 (addL S ⟨[], b.toNat, [], 0⟩ ws).2.1).1.made = S.made + Ls.length := by
        have hmm := g2.made
        have hwr : (finishP (addL S ⟨[], b.toNat, [], 0⟩ ws).1 (addL S ⟨[], b.toNat, [], 0⟩ ws).2.1).1.made = if (addL S ⟨[], b.toNat, [], 0⟩ ws).2.1.held = [] then (addL S ⟨[], b.toNat, [], 0⟩ ws).1.made else (addL S ⟨[], b.toNat, [], 0⟩ ws).1.made + 1 := by
          unfold finishP at f3 ⊢
          rw [if_neg (by simpa using g3)] at f3 ⊢
          by_cases hh : (addL S ⟨[], b.toNat, [], 0⟩ ws).2.1.held = []
          · rw [if_pos hh, if_pos hh]
          · rw [if_neg hh] at f3 ⊢
            rw [if_neg hh]
            rcases g2.write g7 with ⟨h1, h2, h3, h4, h5⟩ | ⟨h1, _⟩
            · rw [if_pos h1, h3, hmm]
            · rw [if_neg h1] at f3
              exact absurd f3 h1
        rw [hwr, hLs]
        split
        · rw [hmm]; simp
        · rw [hmm]; simp; omega
      generalize finishP (addL S ⟨[], b.toNat, [], 0⟩ ws).1 (addL S ⟨[], b.toNat, [], 0⟩ ws).2.1 = R at *
      have hfits : ∀ L ∈ Ls, fits L = true := fun L hL => fits_mem.2 fun r hr => fits_mem.1 hw r (by rw [← hfl]; exact List.mem_flatten.2 ⟨L, hL, hr⟩)
      have hI : MgI S.runs R.1 (pairsL (S.made + 1) Ls) := ⟨q3, by rw [q2, pairs_runs], fun q hq => by
        have : q.2 ∈ Ls.map ofL := by rw [← pairs_snd Ls (S.made + 1)]; exact List.mem_map_of_mem hq
        obtain ⟨L, hL, he⟩ := List.mem_map.1 this
        rw [← he]
        exact ⟨fits_ofL (hfits L hL), ofL_rises L⟩⟩
      unfold mergeP
      rw [if_neg (by omega), q5, ← pairs_num, if_neg (by rw [hI.look]; simp)]
      by_cases hn : Ls = []
      · subst hn
        rw [if_pos (show numZ (pairsL (S.made + 1) []) = [] from rfl)]
        exact (written_free (L := []) (n := 0) q3 rfl ⟨f4.left, by have := f4.room; simpa [frameL] using this⟩ (by rw [hmade]; simp; omega)).1
      · have hlen : 0 < Ls.length := List.length_pos_iff.2 hn
        rw [if_neg (by
          intro h0
          have := congrArg List.length h0
          simp [numZ, pairs_len] at this
          exact hn this)]
        have hps := pairs_wsum Ls (S.made + 1)
        rw [hfl] at hps
        have hnl : (numZ (pairsL (S.made + 1) Ls)).length = Ls.length := by simp [numZ, pairs_len]
        exact loop_free fan.toNat (by omega) (wsum ws) _ hI (by rw [pairs_len]; exact hlen) (by rw [hnl, pairs_len]; exact Nat.le_refl _) f4.left (by omega) (by rw [hcap2, ← hG.used]; exact hc) (by rw [hmade, hnl]; omega)
    · exact absurd f3 q1
  · exact absurd f1 g1
end Go.Proofs.YtadokkffmekndaaGreatDoor
namespace Go.Proofs.YtadokkffmekndaaGreatDoor
open Go.RowKit

section
variable {w : World} {ef : Nat → Nat × Nat}
set_option maxRecDepth 100000 in
set_option maxHeartbeats 800000 in
theorem FNew_no (hF : Fails w ef fails13) {b : Nat} {z : Int} (hz : inI64 z) (hn : z < 1 ∨ 65536 < z) :
    Calls Tryz.prog 31 #[.pointer (some ⟨b, 0, none⟩), .int .i64 z] w fun e w' => e = .returned (.tuple #[.pointer none, errV ef 2]) ∧ Below w.heap.size w w' := by
  have c1 := hF.cell (2, 1) (by decide)
  rw [errV_pos ef (show (2 : Nat) ≠ 0 by decide)]
  clear hF
  by_cases h1 : z < 1
  · clear hn hz
    go_enter Tryz.func31, Tryz.ntmps31
    (repeat' (first | (go_big_may; fail) | go_values | go_skip | go_guarded | go_step | go_upon | go_back | dsimp only))
    go_quiet (fail)
    (repeat' (first | (go_big_may; fail) | go_values | go_skip | go_guarded | go_step | go_upon | go_back | dsimp only))
    go_ret2
    exact ⟨rfl, below_dW _ _⟩
  · have h2 : 65536 < z := by omega
    clear hn hz
    go_enter Tryz.func31, Tryz.ntmps31
    (repeat' (first | (go_big_may; fail) | go_values | go_skip | go_guarded | go_step | go_upon | go_back | dsimp only))
    go_quiet (fail)
    (repeat' (first | (go_big_may; fail) | go_values | go_skip | go_guarded | go_step | go_upon | go_back | dsimp only))
    go_ret2
    exact ⟨rfl, below_dW _ _⟩
end
end Go.Proofs.YtadokkffmekndaaGreatDoor
