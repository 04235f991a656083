/- streams: the laws of sets, on lists that rise; no program. -/
import Derived.Test.YtbmfaffnbjmipaaStEnv
namespace Go.Proofs.Ytbmfaffnbjmipaa
section
variable {A B C : List (List UInt8)} (hA : RisesL A) (hB : RisesL B) (hC : RisesL C)
include hA
theorem alg1 : cu.unionL [minusL A B, commonW A B] = A :=
  RisesL.ext (unionL_rises _) hA fun x => by
    rw [mem_unionL]
    simp only [List.mem_cons, List.not_mem_nil, or_false, exists_eq_or_imp, exists_eq_left, mem_minusL, mem_commonW]
    by_cases h : x ∈ B <;> simp [h]
include hB in
theorem alg2 : (cu.unionL [A, B]).length + (commonW A B).length = A.length + B.length := by
  have h1 : (cu.unionL [A, B]).Perm (A ++ minusL B A) := by
    refine (List.perm_ext_iff_of_nodup (unionL_rises _).nodup ?_).2 fun x => ?_
    · refine List.nodup_append.2 ⟨hA.nodup, (minusL_rises hB A).nodup, fun x hx y hy e => ?_⟩
      subst e
      exact (mem_minusL.1 hy).2 hx
    · rw [mem_unionL, List.mem_append, mem_minusL]
      simp only [List.mem_cons, List.not_mem_nil, or_false, exists_eq_or_imp, exists_eq_left]
      by_cases h : x ∈ A <;> simp [h]
  have h2 : (commonW A B).Perm (commonW B A) := by
    refine (List.perm_ext_iff_of_nodup (commonW_rises hA B).nodup (commonW_rises hB A).nodup).2 fun x => ?_
    rw [mem_commonW, mem_commonW]; exact And.comm
  have h3 : (minusL B A).length + (commonW B A).length = B.length := by
    unfold minusL commonW
    clear h1 h2 hB
    induction B with
    | nil => rfl
    | cons x B ih =>
      by_cases h : x ∈ A
      · simp only [List.filter_cons, h, not_true_eq_false, decide_false, Bool.false_eq_true, if_false, decide_true, if_true, List.length_cons] at ih ⊢; omega
      · simp only [List.filter_cons, h, not_false_eq_true, decide_true, if_true, decide_false, Bool.false_eq_true, if_false, List.length_cons] at ih ⊢; omega
  rw [h1.length_eq, h2.length_eq, List.length_append]
  omega
theorem alg3 : minusL (minusL A B) C = minusL A (cu.unionL [B, C]) :=
  RisesL.ext (minusL_rises (minusL_rises hA B) C) (minusL_rises hA _) fun x => by
    simp only [mem_minusL, mem_unionL, List.mem_cons, List.not_mem_nil, or_false, exists_eq_or_imp, exists_eq_left, not_or, and_assoc]
theorem alg4 : commonW (minusL A B) (minusL A C) = minusL A (cu.unionL [B, C]) :=
  RisesL.ext (commonW_rises (minusL_rises hA B) _) (minusL_rises hA _) fun x => by
    simp only [mem_commonW, mem_minusL, mem_unionL, List.mem_cons, List.not_mem_nil, or_false, exists_eq_or_imp, exists_eq_left, not_or]
    constructor
    · rintro ⟨⟨h1, h2⟩, _, h3⟩; exact ⟨h1, h2, h3⟩
    · rintro ⟨h1, h2, h3⟩; exact ⟨⟨h1, h2⟩, h1, h3⟩
omit hA in
theorem alg5 : minusL A A = [] := by
  apply List.eq_nil_iff_forall_not_mem.2
  intro x hx
  exact (mem_minusL.1 hx).2 (mem_minusL.1 hx).1
theorem alg6 : cu.unionL [A, A, A] = A :=
  RisesL.ext (unionL_rises _) hA fun x => by
    rw [mem_unionL]
    simp
end
/-- All lists that the law makes. -/
structure AlgF (A B C Mi Cm U2 BC Lf MC : List (List UInt8)) : Prop where
  mi : minusL A B = Mi
  cm : commonW A B = Cm
  u2 : cu.unionL [A, B] = U2
  bc : cu.unionL [B, C] = BC
  lf : minusL A BC = Lf
  mc : minusL A C = MC
  p1 : cu.unionL [Mi, Cm] = A
  p2 : U2.length + Cm.length = A.length + B.length
  p3 : minusL Mi C = Lf
  p4 : commonW Mi MC = Lf
  p5 : minusL A A = []
  p6 : cu.unionL [A, A, A] = A
  rMi : RisesL Mi
  rCm : RisesL Cm
  rBC : RisesL BC
  rMC : RisesL MC
  lMi : Mi.length ≤ A.length
  lCm : Cm.length ≤ A.length
  lBC : BC.length ≤ B.length + C.length
  lLf : Lf.length ≤ A.length
  lMC : MC.length ≤ A.length
  lU2 : U2.length ≤ A.length + B.length
theorem algF {A B : List (List UInt8)} (hA : RisesL A) (hB : RisesL B) (C : List (List UInt8)) : ∃ Mi Cm U2 BC Lf MC, AlgF A B C Mi Cm U2 BC Lf MC :=
  ⟨_, _, _, _, _, _, ⟨rfl, rfl, rfl, rfl, rfl, rfl, alg1 hA, alg2 hA hB, alg3 hA, alg4 hA, alg5, alg6 hA, minusL_rises hA _, commonW_rises hA _, unionL_rises _, minusL_rises hA _,
    List.length_filter_le _ _, List.length_filter_le _ _, Nat.le_trans (unionL_len _) (by simp), List.length_filter_le _ _, List.length_filter_le _ _, Nat.le_trans (unionL_len _) (by simp)⟩⟩
end Go.Proofs.Ytbmfaffnbjmipaa
