/- streams: Of, From, Minus, Common walked as far as they make streams. · The laws of layer 8: twin, same, is, wakes walked. · streams: From walked: its iterator, and what it makes. -/
import Derived.Test.YtadokkffmekndaaGreatDoorBuMgPlLaw24
import Derived.Test.YtadokkffmekndaaGreatDoorBuMgPlLaw25
import Derived.Test.YtadokkffmekndaaGreatDoorBuMgPlLaw26
import Derived.Laws.EntriesVeiled
import Derived.Deep.QuietTactic
import Derived.BigQuiet
set_option linter.unusedSimpArgs false
set_option linter.unusedVariables false
namespace Go.Proofs.YtadokkffmekndaaGreatDoor
open Go.RowKit
theorem At.lits {W w : World} {Φ : Thing} (h : At W w Φ) (hs : Stable Φ) (e : TypeId) (n : Nat) (C : Array Value) (hC : C.size = n) (hn : n ≤ maxLen) : At W (w.alloc (.cells C e)) (Both (RowG e 1 (.slice (some ⟨w.heap.size, 0, none⟩) n n) n C.toList) Φ) :=
  h.newRowG hs ((Below.refl _ _).alloc (Nat.le_refl _) _) ⟨by simpa using hC, .inr ⟨w.heap.size, n, C, rfl, Nat.le_refl _, heap_alloc_new _ _, Nat.le_refl _, hn, by simpa using hC, by rw [List.take_of_length_le (by simp [hC])]⟩⟩
theorem IsStr.one {W : World} {Φ : Thing} {v : Value} {L : List (List UInt8)} (h : IsStr W Φ v L) : v.oneCell' = true := by
  rcases h with ⟨rfl, _⟩ | ⟨gf, lb, rfl, _⟩ <;> rfl
theorem store_one {P : Program} {w : World} {a : Addr} {v u : Value} (hv : v.oneCell' = true) (hc : w.cell? a = some u) (hf : w.frozen? a = false) : (store a v).run P w = .ok () (w.setCell a v) := by
  rw [run_store _ _ _ _ _ hv]; simp [hc, hf]
theorem At.keepStr {W w : World} {Φ R : Thing} {u : Value} (h : At W w (Both Φ R)) (hΦ : Stable Φ) (hR : Stable R) (hu : u.oneCell' = true) :
    (store ⟨w.heap.size, 0, none⟩ u).run Tryz.prog (w.alloc (.cells #[.nilFunc] tStr)) = .ok () ((w.alloc (.cells #[.nilFunc] tStr)).setCell ⟨w.heap.size, 0, none⟩ u) ∧
    At W (w.alloc (.cells #[u] tStr)) (Both Φ (Both (CellT w.heap.size #[u] tStr) R)) := by
  have h1 := h.newCell (hΦ.both hR) #[.nilFunc] tStr
  have c := h1.cellF (o := 0) (u := .nilFunc) rfl
  exact ⟨store_one hu c.1 c.2.1, (h.newCell (hΦ.both hR) #[u] tStr).swap⟩
attribute [local go_sem] Oper.semAt_some
abbrev tYd : TypeId := 190
def notBelow (z : List UInt8) (L : List (List UInt8)) : List (List UInt8) := L.filter fun x => !Op.bytesLess x z
abbrev FromT (bs bz : Nat) (v : Value) (z : List UInt8) (Φ : Thing) : Thing := Both (CellT bs #[v] tStr) (Both (CellT bz #[.string ⟨z.toArray⟩] tTx) Φ)
theorem FromT.stable (bs bz : Nat) (v : Value) (z : List UInt8) {Φ : Thing} (h : Stable Φ) : Stable (FromT bs bz v z Φ) := (CellT.stable _ _ _).both ((CellT.stable _ _ _).both h)
end Go.Proofs.YtadokkffmekndaaGreatDoor
