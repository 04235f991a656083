/- What a writer puts into a store of its own and a reader tells: no program in sight. -/
import Derived.Test.YtkffeaeacfhobaaDoorRecNext
namespace Go.Proofs.YtkffeaeacfhobaaDoor

/-- A store with one run, open; sealed. -/
def oSt (cap : Nat) (t : List UInt8) : St := ⟨cap, t.length, t.length, 1, 0, [(1, ⟨t, false⟩)]⟩
def cSt (cap : Nat) (t : List UInt8) : St := ⟨cap, t.length, t.length, 1, 0, [(1, ⟨t, true⟩)]⟩
theorem create_new {n : Nat} (h : n ≤ 67108864) : createP (newSt n) = (oSt n [], 1, 0) := by
  unfold createP newSt createS stepS oSt
  have e : (max 0 (min (n : Int) 67108864)).toNat = n := by omega
  simp [e]
theorem append_oSt {cap : Nat} {t s : List UInt8} (h : t.length + s.length ≤ cap) : appendP (oSt cap t) 1 s = (oSt cap (t ++ s), 0) := by
  have h1 : ¬ cap - t.length < s.length := by omega
  have hmax : max t.length (t.length + s.length) = t.length + s.length := by omega
  simp [appendP, withRun, oSt, St.find, h1, grownS, stepS, St.setRun, hmax]
theorem seal_oSt {cap : Nat} {t : List UInt8} : sealP (oSt cap t) 1 = (cSt cap t, 0) := by
  simp [sealP, withRun, oSt, cSt, St.find, stepS, St.setRun]
theorem read_cSt {cap a m : Nat} {t : List UInt8} (h : a + m ≤ t.length) : readC (cSt cap t) 1 a m = 0 ∧ readT (cSt cap t) 1 a m = (t.drop a).take m := by
  have h1 : ¬ ((a : Int) < 0 ∨ (m : Int) < 0 ∨ (a : Int) > t.length ∨ (m : Int) > t.length - a) := by omega
  have hf : (cSt cap t).find 1 = some (1, ⟨t, true⟩) := rfl
  unfold readC readT
  rw [hf]
  dsimp only
  rw [if_neg (show ¬ (true = false) by decide), if_neg (show ¬ (true = false) by decide), if_neg h1, if_neg h1]
  exact ⟨rfl, rfl⟩
theorem size_cSt {cap : Nat} {t : List UInt8} : sizeC (cSt cap t) 1 = 0 ∧ sizeN (cSt cap t) 1 = t.length := by
  simp [sizeC, sizeN, cSt, St.find]

/-- One run, no longer than what is used. -/
def I1 (S : St) : Prop := ∃ t b, S.runs = [(1, ⟨t, b⟩)] ∧ t.length ≤ S.used
theorem inv_I1 : Inv I1 := by
  refine ⟨?_, ?_⟩
  · rintro S ⟨t, b, h1, h2⟩ z p hp
    unfold St.find at hp
    rw [h1] at hp
    have hm := List.mem_of_find?_eq_some hp
    simp at hm
    subst hm
    exact h2
  · rintro S z t' ⟨t, b, h1, h2⟩
    unfold appendP withRun
    split
    · exact ⟨t, b, h1, h2⟩
    · cases hf : S.find z with
      | none => exact ⟨t, b, h1, h2⟩
      | some p =>
        dsimp only
        split
        · exact ⟨t, b, h1, h2⟩
        · split
          · exact ⟨t, b, h1, h2⟩
          · unfold St.find at hf
            rw [h1] at hf
            have hm := List.mem_of_find?_eq_some hf
            simp at hm
            subst hm
            refine ⟨t ++ t', b, ?_, ?_⟩
            · simp [grownS, stepS, St.setRun, h1]
            · simp only [grownS, stepS, List.length_append]; omega
theorem I1_oSt (cap : Nat) (t : List UInt8) : I1 (oSt cap t) := ⟨t, false, rfl, Nat.le_refl _⟩

theorem flush_oSt {cap : Nat} {t : List UInt8} {x : WrD} {n : Nat} (hx : x.run = 1) (h : t.length + (x.buf.take n).length ≤ cap) : flushP (oSt cap t) x n = (oSt cap (t ++ x.buf.take n), { x with buf := x.buf.drop n }, 0) := by
  unfold flushP
  rw [hx, show ((1 : Nat) : Int) = 1 from rfl, append_oSt h]
  simp
theorem putL_oSt {cap block : Nat} (hb : 1 ≤ block) : ∀ (n : Nat) (t buf : List UInt8), t.length + buf.length ≤ cap → buf.length < n → ∃ a b, putL n (oSt cap t) ⟨1, block, buf, 0⟩ = (oSt cap (t ++ a), ⟨1, block, b, 0⟩, 0) ∧ a ++ b = buf := by
  intro n
  induction n with
  | zero => intro t buf _ h; omega
  | succ n ih =>
    intro t buf h hn
    unfold putL
    by_cases hc : block ≤ buf.length
    · have hf := flush_oSt (cap := cap) (t := t) (x := ⟨1, block, buf, 0⟩) (n := block) rfl (by simp; omega)
      dsimp only
      rw [if_pos hc, hf]
      dsimp only
      rw [if_pos rfl]
      obtain ⟨a, b, h1, h2⟩ := ih (t ++ buf.take block) (buf.drop block) (by simp; omega) (by simp; omega)
      refine ⟨buf.take block ++ a, b, ?_, ?_⟩
      · rw [h1, List.append_assoc]
      · rw [List.append_assoc, h2, List.take_append_drop]
    · dsimp only
      rw [if_neg hc]
      exact ⟨[], buf, by simp, rfl⟩
theorem put_oSt {cap block : Nat} (hb : 1 ≤ block) {t buf : List UInt8} {recs : List (List UInt8)} (hf : fits recs = true) (h : t.length + buf.length + (frameL recs).length ≤ cap) :
    ∃ a b, putP (oSt cap t) ⟨1, block, buf, 0⟩ recs = (oSt cap (t ++ a), ⟨1, block, b, 0⟩, 0) ∧ a ++ b = buf ++ frameL recs := by
  unfold putP
  dsimp only
  rw [if_neg (by simp), if_neg (by simp [hf])]
  exact putL_oSt hb _ _ _ (by rw [List.length_append]; omega) (by omega)
theorem close_oSt {cap block : Nat} {t buf : List UInt8} (h : t.length + buf.length ≤ cap) : closeP (oSt cap t) ⟨1, block, buf, 0⟩ = (cSt cap (t ++ buf), ⟨1, block, [], 13⟩, 1, 0) := by
  have hr : restP (oSt cap t) ⟨1, block, buf, 0⟩ = (oSt cap (t ++ buf), ⟨1, block, [], 0⟩, 0) := by
    unfold restP
    by_cases hb : buf = []
    · subst hb; simp
    · rw [if_neg hb, flush_oSt rfl (by simpa using h)]
      simp
  unfold closeP
  rw [hr]
  dsimp only
  rw [if_neg (by simp), if_neg (by simp), show ((1 : Nat) : Int) = 1 from rfl, seal_oSt]
  simp

/-- Less than a frame: more is needed. -/
theorem nextAt_short {p q r : List UInt8} (hr : r.length ≤ 255) (h : p ++ q = uintL r.length ++ r) (hq : q ≠ []) : nextAt p 0 = ([], 0, 60) := by
  have hql := List.length_pos_iff.2 hq
  have hlen := congrArg List.length h
  simp only [List.length_append] at hlen
  by_cases hp : p = []
  · subst hp; rfl
  have hpl := List.length_pos_iff.2 hp
  have c1 : ¬ ((0 : Int) < 0 ∨ (p.length : Int) ≤ 0) := by omega
  by_cases hlt : p.length < (uintL r.length).length
  · -- one byte of two
    have hn : ¬ r.length < 128 := fun hn => by rw [uintL_lt hn] at hlt; simp at hlt; exact hp hlt
    rw [uintL_ge hn, uintL_lt (show r.length / 128 < 128 by omega)] at h hlt
    simp at hlt
    obtain ⟨c, rfl⟩ : ∃ c, p = [c] := by
      match p, hpl, hlt with
      | [c], _, _ => exact ⟨c, rfl⟩
    simp only [List.cons_append, List.nil_append, List.cons.injEq] at h
    have hc : 128 ≤ c.toNat := by rw [h.1]; simp; omega
    have hr1 : rdAt [c] 0 = (0, 0, 60) := by
      unfold rdAt
      rw [if_neg c1]
      simp [rdU, lead, hc]
    unfold nextAt
    rw [hr1]
    rfl
  · obtain ⟨r', rfl⟩ : ∃ r', p = uintL r.length ++ r' := by
      have h1 := congrArg (List.take (uintL r.length).length) h
      rw [List.take_append_of_le_length (by omega), List.take_left] at h1
      exact ⟨p.drop (uintL r.length).length, by conv => lhs; rw [← List.take_append_drop (uintL r.length).length p, h1]⟩
    have hr1 : rdAt (uintL r.length ++ r') 0 = (r.length, (((uintL r.length).length : Nat) : Int), 0) := by
      unfold rdAt
      rw [if_neg c1]
      simp only [Int.toNat_zero, List.drop_zero]
      rw [rdU_uintL (by omega)]; simp
    simp only [List.length_append] at hlen
    have c2 : ¬ 255 < r.length := by omega
    have c3 : ((uintL r.length ++ r').length : Int) - ((uintL r.length).length : Nat) < (r.length : Nat) := by
      simp only [List.length_append]; omega
    unfold nextAt
    rw [hr1]
    dsimp only
    rw [if_neg (by simp), if_neg c2, if_pos c3]

/-- More of a sealed run. -/
theorem more_cSt {cap block pos : Nat} {T buf : List UInt8} (hb : 1 ≤ block) (hp : pos < T.length) :
    moreP (cSt cap T) ⟨1, block, pos, T.length, buf, 0⟩ = (⟨1, block, pos + min block (T.length - pos), T.length, buf ++ (T.drop pos).take (min block (T.length - pos)), 0⟩, true) := by
  have hr := read_cSt (cap := cap) (t := T) (a := pos) (m := min block (T.length - pos)) (by omega)
  have h1 : ¬ min block (T.length - pos) = 0 := by omega
  unfold moreP
  dsimp only
  rw [show ((1 : Nat) : Int) = 1 from rfl, hr.1, hr.2, if_neg (by simp [h1])]

theorem next_cSt {cap block : Nat} {T : List UInt8} (hb : 1 ≤ block) {r : List UInt8} {rs : List (List UInt8)} (hr : r.length ≤ 255) : ∀ (n pos : Nat) (buf : List UInt8), T.length - pos < n → pos ≤ T.length → buf.length ≤ pos → buf ++ T.drop pos = frameL (r :: rs) →
    ∃ pos' buf', nextL n (cSt cap T) ⟨1, block, pos, T.length, buf, 0⟩ = (⟨1, block, pos', T.length, buf', 0⟩, r, true, 0) ∧ buf' ++ T.drop pos' = frameL rs ∧ pos' ≤ T.length ∧ buf'.length ≤ pos' := by
  intro n
  induction n with
  | zero => intro pos buf h; omega
  | succ n ih =>
    intro pos buf hn hp hl h
    have hfr : frameL (r :: rs) = (uintL r.length ++ r) ++ frameL rs := rfl
    have hfl : 0 < (uintL r.length ++ r).length := by have := List.length_pos_iff.2 (uintL_ne r.length); simp only [List.length_append]; omega
    -- a buffer that holds something
    have key : ∀ (pos : Nat) (buf : List UInt8), T.length - pos < n + 1 → pos ≤ T.length → buf.length ≤ pos → buf ++ T.drop pos = frameL (r :: rs) →
        ∃ pos' buf', nextS (cSt cap T) ⟨1, block, pos, T.length, buf, 0⟩ (nextL n (cSt cap T)) = (⟨1, block, pos', T.length, buf', 0⟩, r, true, 0) ∧ buf' ++ T.drop pos' = frameL rs ∧ pos' ≤ T.length ∧ buf'.length ≤ pos' := by
      intro pos buf hn hp hl h
      by_cases hle : (uintL r.length ++ r).length ≤ buf.length
      · obtain ⟨s, rfl⟩ : ∃ s, buf = (uintL r.length ++ r) ++ s := by
          have h1 := congrArg (List.take (uintL r.length ++ r).length) h
          rw [hfr, List.take_append_of_le_length hle, List.take_left] at h1
          exact ⟨buf.drop (uintL r.length ++ r).length, by conv => lhs; rw [← List.take_append_drop (uintL r.length ++ r).length buf, h1]⟩
        rw [nextS_of (nextAt_frame hr), if_pos rfl]
        refine ⟨pos, s, ?_, ?_, hp, by simp only [List.length_append] at hl; omega⟩
        · rw [Int.toNat_natCast, ← List.length_append, List.drop_left]
        · rw [hfr, List.append_assoc] at h
          exact List.append_cancel_left h
      · have h1 := congrArg (List.take (uintL r.length ++ r).length) h
        rw [hfr, List.take_left, List.take_append, List.take_of_length_le (by omega)] at h1
        have hq : (T.drop pos).take ((uintL r.length ++ r).length - buf.length) ≠ [] := fun e => by
          rw [e, List.append_nil] at h1
          rw [h1] at hle
          omega
        have hlt : pos < T.length := by
          apply Classical.byContradiction
          intro hge
          rw [List.drop_eq_nil_of_le (by omega)] at hq
          simp at hq
        rw [nextS_of (nextAt_short hr h1 hq), if_neg (by decide), more_cSt hb hlt, if_neg (by simp)]
        exact ih _ _ (by omega) (by omega) (by simp only [List.length_append, List.length_take, List.length_drop]; omega) (by
          rw [List.append_assoc, Nat.add_comm, ← List.drop_drop, List.drop_drop, Nat.add_comm, ← List.drop_drop, List.take_append_drop]; exact h)
    unfold nextL
    dsimp only
    rw [if_neg (by simp)]
    by_cases hbf : buf = []
    · subst hbf
      have hlt : pos < T.length := by
        apply Classical.byContradiction
        intro hge
        rw [List.drop_eq_nil_of_le (by omega)] at h
        exact absurd h.symm (by simp [frameL, uintL_ne])
      rw [more_cSt hb hlt, if_neg (by simp), if_pos rfl]
      exact key _ _ (by omega) (by omega) (by simp only [List.length_append, List.length_take, List.length_drop, List.length_nil]; omega) (by
        rw [List.append_assoc, ← List.drop_drop, List.take_append_drop]; exact h)
    · rw [if_neg (fun h => hbf h.1), if_neg hbf]
      exact key _ _ hn hp hl h
theorem next_done {cap block pos n : Nat} {T buf : List UInt8} (hp : pos ≤ T.length) (h : buf ++ T.drop pos = []) :
    nextL (n + 1) (cSt cap T) ⟨1, block, pos, T.length, buf, 0⟩ = (⟨1, block, pos, T.length, [], 0⟩, [], false, 0) := by
  obtain ⟨rfl, h2⟩ := List.append_eq_nil_iff.1 h
  have h3 := List.drop_eq_nil_iff.1 h2
  have hm : moreP (cSt cap T) ⟨1, block, pos, T.length, [], 0⟩ = (⟨1, block, pos, T.length, [], 0⟩, false) := by
    unfold moreP
    dsimp only
    rw [if_pos (.inl (by omega))]
  unfold nextL
  dsimp only
  rw [if_neg (by simp), hm, if_pos ⟨rfl, rfl⟩]

/-- The records that fit. -/
def fitL : List (List UInt8) → Nat → List (List UInt8) × Nat
  | [], n => ([], n)
  | r :: rs, n => if r.length ≤ 255 ∧ n < 1048576 then (r :: (fitL rs (n + r.length + 2)).1, (fitL rs (n + r.length + 2)).2) else fitL rs n
theorem uintL_short {n : Nat} (h : n ≤ 255) : (uintL n).length ≤ 2 := uintL_length (k := 1) (by omega)
theorem fitL_facts : ∀ (rs : List (List UInt8)) (n : Nat), fits (fitL rs n).1 = true ∧ (frameL (fitL rs n).1).length + n ≤ (fitL rs n).2 ∧ (n ≤ 1048832 + 1 → (fitL rs n).2 ≤ 1048832 + 1) := by
  intro rs
  induction rs with
  | nil => intro n; simp [fitL, fits, frameL]
  | cons r rs ih =>
    intro n
    unfold fitL
    by_cases hc : r.length ≤ 255 ∧ n < 1048576
    · rw [if_pos hc]
      obtain ⟨h1, h2, h3⟩ := ih (n + r.length + 2)
      have h4 := uintL_short hc.1
      refine ⟨?_, ?_, ?_⟩
      · unfold fits at h1 ⊢
        simp only [List.all_cons, h1, Bool.and_true, decide_eq_true_eq]
        exact hc.1
      · simp only [frameL, List.length_append]
        omega
      · intro hn; exact h3 (by omega)
    · rw [if_neg hc]
      exact ih n
end Go.Proofs.YtkffeaeacfhobaaDoor
