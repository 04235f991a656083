/- record.next, Unframe walked. · The document's answers of layer 6 walked: Uint, ReadUint, Heads, Unframe. -/
import Derived.Test.YthcicmbkkkhifaaGreatDoorBuBatPlLaw18
import Derived.Test.YthcicmbkkkhifaaGreatDoorBuBatPlLaw09
import Derived.Lib.Strings
set_option linter.unusedSimpArgs false
set_option linter.unusedVariables false
namespace Go.Proofs.YthcicmbkkkhifaaGreatDoor
open Go.RowKit

/-- What Unframe answers. -/
def unfL (l : List UInt8) : List (List UInt8) × Nat := if (headsL l).2 = 0 then headsL l else ([], (headsL l).2)

/-- A result of strings and an error. -/
def StrsErr (w : World) (l : List (List UInt8) × Nat) (e : Ending) (w' : World) : Prop :=
  ∃ v, e = .returned (.tuple #[v, .int .i64 l.2]) ∧ w'.ownsRow w.heap.size 9 1 v l.1.length (strs l.1) ∧ Below w.heap.size w w'

theorem StrsErr.mk {w w' : World} {l l' : List (List UInt8)} {er : Nat} {x : List (List UInt8) × Nat} {v : Value} (hx : x = (l, er)) (hl : l = l') (ho : w'.ownsRow w.heap.size 9 1 v l'.length (strs l')) (hb : Below w.heap.size w w') :
    StrsErr w x (.returned (.tuple #[v, .int .i64 er])) w' := by
  subst hx; subst hl; exact ⟨v, rfl, ho, hb⟩
end Go.Proofs.YthcicmbkkkhifaaGreatDoor
namespace Go.Proofs.YthcicmbkkkhifaaGreatDoor
open Go.RowKit

theorem ret_str {l l' : List UInt8} (h : l = l') : Ending.returned (.string ⟨l.toArray⟩) = Ending.returned (.string ⟨l'.toArray⟩) := by rw [h]

/-- 'string([]byte{b})': a block that was laid just ahead. -/
theorem wpList_string_new {P : Program} {w : World} {ops : Array Oper} {rest : List Oper} {o : Oper} {a : Act} {Q : Exit → Act → World → Prop} (hgd : o.guard = none)
    (src dst e : TypeId) (x : Operand) (ho : o.op = .convert src dst x) (hs : P.underlying src = some (.slice e)) (he : P.underlying e = some (.int .u8)) (hd : P.underlying dst = some .string)
    {u : Value} (b : UInt8) (hu : u = bv b) (hx : a.eval x = .slice (some ⟨w.heap.size, 0, none⟩) 1 1)
    (hK : wpList P ops Q rest (a.put o.dst (.string ⟨#[b]⟩)) (w.alloc (.cells #[u] e))) : wpList P ops Q (o :: rest) a (w.alloc (.cells #[u] e)) := by
  subst hu
  have hown : (w.alloc (.cells #[bv b] e)).ownsRow w.heap.size e 1 (.slice (some ⟨w.heap.size, 0, none⟩) 1 1) 1 (bvs [b]) :=
    ⟨rfl, .inr ⟨w.heap.size, 1, #[bv b], rfl, Nat.le_refl _, heap_alloc_new w _, Nat.le_refl _, by simp [maxLen], rfl, rfl⟩⟩
  exact wpList_string_own hgd src dst e x ho hs he hd _ 1 [b] hx hown hK

set_option maxHeartbeats 800000 in
set_option maxRecDepth 100000 in
theorem refUint_calls (n : Nat) (hn : n < 18446744073709551616) : ∀ w : World,
    Calls Tryz.prog 108 #[.int .u64 n] w fun e w' => e = .returned (.string ⟨(uintL n).toArray⟩) ∧ Below w.heap.size w w' := by
  induction n using Nat.strongRecOn with
  | ind n ih =>
    intro w
    by_cases hlt : n < 128
    · have hv : Value.int .u8 ((n : Int) % 128) = bv (UInt8.ofNat n) := by rw [← bv_lt n hlt]; congr 1; omega
      have HV := Lib.hid hv
      clear hv ih
      go_enter Tryz.func108, Tryz.ntmps108
      (repeat' (first | (go_big_may; (with_reducible (show wpList _ _ _ ({ dst := _, op := Op.convert 84 9 _, type := _, pos := _, after := _, guard := _ } :: _) _ _); go_must (refine wpList_string_new rfl 84 9 5 _ rfl Tryz.underlying84 Tryz.underlying5 Tryz.underlying9 (UInt8.ofNat n) (HV.out) rfl ?_))) | go_values | go_skip | go_guarded | go_step | go_upon | go_back | dsimp only))
      go_ret
      exact ⟨ret_str (uintL_lt hlt).symm, (Below.refl _ _).alloc (Nat.le_refl _) _⟩
    · have HI := Lib.hid (fun w => ih (n / 128) (by omega) (by omega) w)
      obtain ⟨c, hc⟩ : ∃ c, c = UInt8.ofNat (n % 128 + 128) := ⟨_, rfl⟩
      have hv : Value.int .u8 ((n : Int) % 128 + 128) = bv c := by
        have h2 : (UInt8.ofNat (n % 128 + 128)).toNat = n % 128 + 128 := by simp; omega
        rw [bv, hc, h2]; congr 1
      have HV := Lib.hid hv
      have HC := Lib.hid hc
      have hl := uintL_length10 (n := n / 128) (by omega)
      have hcat : ∀ wx : World, (Op.stringOp .add ⟨#[c]⟩ ⟨(uintL (n / 128)).toArray⟩).run Tryz.prog wx = .ok (.string ⟨(c :: uintL (n / 128)).toArray⟩) wx :=
        fun wx => run_string_add_lists wx [c] _ (by simp) (by omega)
      clear ih hv hc hl
      go_enter Tryz.func108, Tryz.ntmps108
      (repeat' (first | (go_big_may; first | (go_at_call 108; refine (HI.out _).mono ?_; rintro e w1 ⟨rfl, hb1⟩) | (with_reducible (show wpList _ _ _ ({ dst := _, op := Op.convert 84 9 _, type := _, pos := _, after := _, guard := _ } :: _) _ _); go_must (refine wpList_string_new rfl 84 9 5 _ rfl Tryz.underlying84 Tryz.underlying5 Tryz.underlying9 (c) (HV.out) rfl ?_))) | go_values | go_skip | go_guarded | go_step | go_upon | go_back | dsimp only))
      go_ret
      exact ⟨ret_str (by rw [uintL_ge hlt, HC.out]), hb1.alloc hb1.size _⟩

end Go.Proofs.YthcicmbkkkhifaaGreatDoor
