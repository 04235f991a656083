/- Many things side by side, each with its number: one taken out, one put back. -/
import Derived.Test.YthjkfiniafblbaaCellT
namespace Go.Proofs.Ythjkfiniafblbaa
open Go.RowKit

/-- The things 0 to n-1, each on blocks of its own. -/
def AllT (f : Nat → Thing) : Nat → Thing
  | 0 => Nought
  | n + 1 => Both (f n) (AllT f n)
/-- Another thing in the place i. -/
def putT (f : Nat → Thing) (i : Nat) (Φ : Thing) : Nat → Thing := fun j => if j = i then Φ else f j
theorem putT_same {f : Nat → Thing} {i : Nat} {Φ : Thing} : putT f i Φ i = Φ := by simp [putT]
theorem putT_other {f : Nat → Thing} {i j : Nat} {Φ : Thing} (h : j ≠ i) : putT f i Φ j = f j := by simp [putT, h]
theorem AllT.stable {f : Nat → Thing} {n : Nat} (h : ∀ i, i < n → Stable (f i)) : Stable (AllT f n) := by
  induction n with
  | zero => exact Stable.nought
  | succ n ih => exact (h n (by omega)).both (ih fun i hi => h i (by omega))
theorem AllT.congr {f g : Nat → Thing} {n : Nat} (h : ∀ i, i < n → f i = g i) : AllT f n = AllT g n := by
  induction n with
  | zero => rfl
  | succ n ih => simp only [AllT]; rw [h n (by omega), ih fun i hi => h i (by omega)]
theorem Both.nought {Φ : Thing} {w : World} {fp : List Nat} (h : Φ w fp) : Both Nought Φ w fp := ⟨[], fp, rfl, h, by simp, by simp⟩
theorem AllT.take {f : Nat → Thing} {n i : Nat} (hi : i < n) {w : World} {fp : List Nat} (h : AllT f n w fp) : Both (f i) (AllT (putT f i Nought) n) w fp := by
  induction n generalizing w fp with
  | zero => omega
  | succ n ih =>
    simp only [AllT] at h ⊢
    by_cases he : i = n
    · subst he
      rw [putT_same, AllT.congr (g := f) fun j hj => putT_other (by omega)]
      exact Both.mono (fun _ _ h => Both.nought h) h
    · rw [putT_other (fun e => he e.symm)]
      exact (Both.mono (fun _ _ h => ih (by omega) h) h).assoc
theorem Both.ofNought {Φ : Thing} (hs : ∀ w f g, Φ w f → (∀ k, k ∈ g ↔ k ∈ f) → Φ w g) {w : World} {fp : List Nat} (h : Both Nought Φ w fp) : Φ w fp := by
  obtain ⟨f, g, rfl, h2, _, h4⟩ := h
  exact hs _ _ _ h2 fun k => by rw [h4]; simp
/-- A thing that does not see how its blocks are listed. -/
def Loose (Φ : Thing) : Prop := ∀ w f g, Φ w f → (∀ k, k ∈ g ↔ k ∈ f) → Φ w g
theorem Both.loose (A B : Thing) : Loose (Both A B) := fun w f g h hk => by
  obtain ⟨a, b, h1, h2, h3, h4⟩ := h
  exact ⟨a, b, h1, h2, h3, fun k => by rw [hk, h4]⟩
theorem Nought.loose : Loose Nought := fun w f g h hk => by
  cases h
  exact List.eq_nil_iff_forall_not_mem.2 fun k hm => by simpa using (hk k).1 hm
theorem AllT.loose (f : Nat → Thing) (n : Nat) : Loose (AllT f n) := by
  cases n with
  | zero => exact Nought.loose
  | succ n => exact Both.loose _ _
theorem AllT.give {f : Nat → Thing} {n i : Nat} (hi : i < n) {Φ : Thing} {w : World} {fp : List Nat} (h : Both Φ (AllT (putT f i Nought) n) w fp) : AllT (putT f i Φ) n w fp := by
  induction n generalizing w fp with
  | zero => omega
  | succ n ih =>
    simp only [AllT] at h ⊢
    by_cases he : i = n
    · subst he
      rw [putT_same] at h ⊢
      rw [AllT.congr (g := f) fun j hj => putT_other (by omega)] at h ⊢
      exact Both.mono (fun _ _ h => h.ofNought (AllT.loose _ _)) h
    · rw [putT_other (fun e => he e.symm)] at h ⊢
      exact Both.mono (fun _ _ h => ih (by omega) h) h.assoc
theorem AllT.push {f : Nat → Thing} {n : Nat} {Φ : Thing} {w : World} {fp : List Nat} (h : Both Φ (AllT f n) w fp) : AllT (putT f n Φ) (n + 1) w fp := by
  simp only [AllT]
  rw [putT_same, AllT.congr (g := f) fun j hj => putT_other (by omega)]
  exact h
section
variable {W w : World} {R : Thing} {f : Nat → Thing} {n i : Nat}
theorem At.takeT (h : At W w (Both (AllT f n) R)) (hi : i < n) : At W w (Both (f i) (Both (AllT (putT f i Nought) n) R)) :=
  (h.comm.impl fun _ q => (Both.mono (fun _ _ q => AllT.take hi q) q).assoc).impl fun _ q => Both.mono (fun _ _ q => q.comm) q
theorem At.giveT {Φ : Thing} (h : At W w (Both Φ (Both (AllT (putT f i Nought) n) R))) (hi : i < n) : At W w (Both (AllT (putT f i Φ) n) R) :=
  ((h.impl fun _ q => (Both.mono (fun _ _ q => q.comm) q).assoc).impl fun _ q => Both.mono (fun _ _ q => AllT.give hi q) q).comm
theorem At.pushT {Φ : Thing} (h : At W w (Both Φ (Both (AllT f n) R))) : At W w (Both (AllT (putT f n Φ) (n + 1)) R) :=
  ((h.impl fun _ q => (Both.mono (fun _ _ q => q.comm) q).assoc).impl fun _ q => Both.mono (fun _ _ q => AllT.push q) q).comm
theorem At.congrT {g : Nat → Thing} (h : At W w (Both (AllT f n) R)) (e : ∀ i, i < n → f i = g i) : At W w (Both (AllT g n) R) := by rw [← AllT.congr e]; exact h
end
end Go.Proofs.Ythjkfiniafblbaa
