/- 'make([]T, n)' as a row of the call's own. -/
import Derived.Test.YthjkfiniafblbaaAppendAt
import Derived.OwnWalk
import Derived.Laws.OwnMore
namespace Go.Proofs.Ythjkfiniafblbaa
open Go.RowKit

theorem wpList_make_at {P : Program} {W w : World} {Φ : Thing} {ops : Array Oper} {rest : List Oper} {o : Oper} {a : Act} {Q : Exit → Act → World → Prop}
    (hg : o.guard = none) (l c : Operand) (t : TypeId) (hop : o.op = Op.makeSlice t l c) (e : TypeId) (h1 : P.underlying t = some (.slice e))
    {z : Value} {bytes : Nat} (hinfo : (P.info? e).map (fun i => (i.zero, i.size, i.bytes)) = some (some z, 1, bytes)) (hzc : z.cells = #[z])
    {kl kc : IntKind} {L C : Int} {n : Nat} (hl : a.eval l = .int kl L) (hc : a.eval c = .int kc C) (hL : L = (n : Int)) (hC : C = (n : Int)) (b2 : bytes * n ≤ 281474976710656) (b3 : n ≤ maxLen)
    (hat : At W w Φ) (hs : Stable Φ)
    (hK : ∀ w', At W w' (Both (RowG e 1 (.slice (some ⟨w.heap.size, 0, none⟩) n n) n (List.replicate n z)) Φ) → Below w.heap.size w w' → wpList P ops Q rest (a.put o.dst (.slice (some ⟨w.heap.size, 0, none⟩) n n)) w') :
    wpList P ops Q (o :: rest) a w := by
  obtain ⟨i0, hi, hz0, hz1, hz2⟩ := info_parts hinfo
  refine wpList_make_full w hg l c t hop w.heap.size e i0 z 1 h1 hi hz0 hz1 kl kc L C n hl hc hL hC (by rw [hz2]; exact b2) b3 (Nat.le_refl _) fun w' r1 r2 => ?_
  rw [hzc, Nat.mul_one, toList_madeCells_one] at r1
  have hb : Below w.heap.size w w' := (Below.refl _ _).grown r2 (Nat.le_refl _) fun k hk => by cases hk
  exact hK w' (hat.newRowG hs hb r1) hb
end Go.Proofs.Ythjkfiniafblbaa
