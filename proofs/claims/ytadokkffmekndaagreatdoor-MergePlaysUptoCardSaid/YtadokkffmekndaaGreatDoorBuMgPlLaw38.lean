/- batch: what a former does to a store; no program in sight. · merge: records put one at a time are put as at once; no program in sight. · merge: what stands in a run; one round; the rounds; no program in sight. -/
import Derived.Test.YtadokkffmekndaaGreatDoorBuMgPlLaw36
import Derived.Test.YtadokkffmekndaaGreatDoorBuMgPlLaw19
import Derived.Test.YtadokkffmekndaaGreatDoorBuMgPlLaw01
set_option linter.unusedSimpArgs false
set_option linter.unusedVariables false
namespace Go.Proofs.YtadokkffmekndaaGreatDoor
open Go.RowKit
structure FmD where
  held : List (List UInt8)
  most : Nat
  made : List Nat
  dead : Nat
def writtenP (S : St) (L : List (List UInt8)) : St × Nat × Nat :=
  if (createP S).2.2 ≠ 0 then ((createP S).1, 0, (createP S).2.2) else
  let p := putP (createP S).1 ⟨(createP S).2.1, 512, [], 0⟩ L
  if p.2.2 ≠ 0 then ((dropP p.1 p.2.1).1, 0, p.2.2) else
  let q := closeP p.1 p.2.1
  if q.2.2.2 ≠ 0 then ((dropP q.1 q.2.1).1, 0, q.2.2.2) else (q.1, q.2.2.1, 0)
def goneP (S : St) : List Nat → St
  | [] => S
  | n :: l => goneP (removeP S n).1 l
def fwriteP (S : St) (f : FmD) : St × FmD × Nat :=
  if (writtenP S (ofL f.held)).2.2 = 0 then ((writtenP S (ofL f.held)).1, { f with made := f.made ++ [(writtenP S (ofL f.held)).2.1], held := [] }, 0)
  else (goneP (writtenP S (ofL f.held)).1 f.made, { f with made := [], dead := (writtenP S (ofL f.held)).2.2 }, (writtenP S (ofL f.held)).2.2)
def addL : St → FmD → List (List UInt8) → St × FmD × Nat
  | S, f, [] => (S, f, 0)
  | S, f, x :: l =>
    if f.most ≤ f.held.length + 1 then
      (if (fwriteP S { f with held := f.held ++ [x] }).2.2 = 0 then addL (fwriteP S { f with held := f.held ++ [x] }).1 (fwriteP S { f with held := f.held ++ [x] }).2.1 l
       else fwriteP S { f with held := f.held ++ [x] })
    else addL S { f with held := f.held ++ [x] } l
def addP (S : St) (f : FmD) (ws : List (List UInt8)) : St × FmD × Nat :=
  if f.dead ≠ 0 then (S, f, f.dead) else if fits ws = false then (S, f, 10) else addL S f ws
def finishP (S : St) (f : FmD) : St × FmD × List Nat × Nat :=
  if f.dead ≠ 0 then (S, f, [], f.dead) else
  if f.held = [] then (S, { f with dead := 13 }, f.made, 0) else
  if (fwriteP S f).2.2 = 0 then ((fwriteP S f).1, { (fwriteP S f).2.1 with dead := 13 }, (fwriteP S f).2.1.made, 0)
  else ((fwriteP S f).1, (fwriteP S f).2.1, [], (fwriteP S f).2.2)
def dropF (S : St) (f : FmD) : St × FmD := if f.dead = 13 then (S, f) else (goneP S f.made, { f with made := [], dead := 13 })
structure TopOpen (S0 S : St) (r : Nat) (t : List UInt8) : Prop where
  good : GoodS S
  runs : S.runs = S0.runs ++ [(r, ⟨t, false⟩)]
  num : r = S0.made + 1
  made : S.made = S0.made + 1
  cap : S.cap = S0.cap
section
variable {S0 S : St} {r : Nat} {t : List UInt8}
theorem TopOpen.find (h : TopOpen S0 S r t) : S.find r = some (r, ⟨t, false⟩) :=
  find_of_mem (p := (r, ⟨t, false⟩)) h.good (by rw [h.runs]; simp)
theorem TopOpen.old (h : TopOpen S0 S r t) : ∀ q ∈ S0.runs, q.1 ≠ r := fun q hq e => by
  have h1 := h.good.rising
  rw [h.runs, List.pairwise_append] at h1
  have := h1.2.2 q hq (r, ⟨t, false⟩) (by simp)
  simp at this
  omega
theorem TopOpen.set (h : TopOpen S0 S r t) (t' : List UInt8) (b : Bool) : (S.runs.map fun q => if q.1 = r then (r, (⟨t', b⟩ : RunD)) else q) = S0.runs ++ [(r, ⟨t', b⟩)] := by
  rw [h.runs, List.map_append, map_same h.old]
  simp
theorem create_top (hG : GoodS S) (h : (createP S).2.2 = 0) : TopOpen S (createP S).1 (createP S).2.1 [] ∧ (createP S).1.used = S.used := by
  refine ⟨⟨hG.create, ?_, ?_, ?_, ?_⟩, ?_⟩
  all_goals
    unfold createP at h ⊢
    split at h
    · cases h
    · rw [if_neg (by assumption)]
      split at h
      · cases h
      · first | (rw [if_neg (by assumption)]; done) | (rw [if_neg (by assumption)]; rfl)
theorem TopOpen.append (h : TopOpen S0 S r t) (s : List UInt8) :
    ((appendP S r s).2 = 0 ∧ TopOpen S0 (appendP S r s).1 r (t ++ s)) ∨ ((appendP S r s).2 ≠ 0 ∧ TopOpen S0 (appendP S r s).1 r t) := by
  have hg := h.good.append r s
  have hm : (appendP S r s).1.made = S0.made + 1 := by rw [made_append]; exact h.made
  have hx := h.set (t ++ s) false
  unfold appendP withRun at hg hm ⊢
  rw [h.find] at hg hm ⊢
  dsimp only at hg hm ⊢
  by_cases h1 : S.left = 1
  · rw [if_pos h1] at hg hm ⊢
    exact .inr ⟨(by intro e; cases e), hg, h.runs, h.num, hm, h.cap⟩
  · rw [if_neg h1] at hg hm ⊢
    rw [if_neg (by decide)] at hg hm ⊢
    by_cases h2 : S.cap - S.used < s.length
    · rw [if_pos h2] at hg hm ⊢
      exact .inr ⟨(by intro e; cases e), hg, h.runs, h.num, hm, h.cap⟩
    · rw [if_neg h2] at hg hm ⊢
      refine .inl ⟨rfl, hg, ?_, h.num, hm, h.cap⟩
      exact hx
theorem TopOpen.seal (h : TopOpen S0 S r t) :
    ((sealP S r).2 = 0 ∧ (sealP S r).1.runs = S0.runs ++ [(r, ⟨t, true⟩)]) ∨ ((sealP S r).2 ≠ 0 ∧ TopOpen S0 (sealP S r).1 r t) := by
  have hg := h.good.seal r
  have hm : (sealP S r).1.made = S0.made + 1 := by rw [made_seal]; exact h.made
  have hx := h.set t true
  unfold sealP withRun at hg hm ⊢
  rw [h.find] at hg hm ⊢
  dsimp only at hg hm ⊢
  by_cases h1 : S.left = 1
  · rw [if_pos h1] at hg hm ⊢
    exact .inr ⟨(by intro e; cases e), hg, h.runs, h.num, hm, h.cap⟩
  · rw [if_neg h1] at hg hm ⊢
    rw [if_neg (by decide)] at hg hm ⊢
    exact .inl ⟨rfl, hx⟩
theorem TopOpen.remove (h : TopOpen S0 S r t) : (removeP S r).1.runs = S0.runs := by
  unfold removeP
  rw [h.find]
  dsimp only
  unfold St.delRun
  dsimp only
  rw [h.runs, List.filter_append, filter_same h.old]
  simp
structure Free (S : St) (n : Nat) : Prop where
  left : S.left = 0
  room : S.used + n ≤ S.cap
theorem flushP_top {x : WrD} (h : TopOpen S0 S r t) (hx : x.run = r) (n : Nat) :
    ((flushP S x n).2.2 = 0 ∧ TopOpen S0 (flushP S x n).1 r (t ++ x.buf.take n) ∧ (flushP S x n).2.1 = { x with buf := x.buf.drop n }) ∨ ((flushP S x n).2.2 ≠ 0 ∧ TopOpen S0 (flushP S x n).1 r t ∧ (flushP S x n).2.1 = { x with dead := (flushP S x n).2.2 }) := by
  unfold flushP
  rw [hx]
  rcases h.append (x.buf.take n) with ⟨h1, h2⟩ | ⟨h1, h2⟩
  · rw [if_pos h1]
    exact .inl ⟨rfl, h2, rfl⟩
  · rw [if_neg h1]
    exact .inr ⟨h1, h2, rfl⟩
theorem putL_top : ∀ (n : Nat) {S : St} {t : List UInt8} {x : WrD}, TopOpen S0 S r t → x.run = r → x.dead = 0 →
    ∃ t', TopOpen S0 (putL n S x).1 r t' ∧ (putL n S x).2.1.run = r ∧ (putL n S x).2.1.block = x.block ∧ ((putL n S x).2.2 = 0 → (putL n S x).2.1.dead = 0 ∧ t' ++ (putL n S x).2.1.buf = t ++ x.buf) ∧ (putL n S x).2.1.dead = (putL n S x).2.2 ∧ okC (putL n S x).2.2 ∧ (putL n S x).2.2 ≠ 13
  | 0, S, t, x, h, hx, hd => ⟨t, h, hx, rfl, fun _ => ⟨hd, rfl⟩, hd, okC_zero, by show ¬ (0 : Nat) = 13; decide⟩
  | n + 1, S, t, x, h, hx, hd => by
    unfold putL
    by_cases hge : x.block ≤ x.buf.length
    · rw [if_pos hge]
      rcases flushP_top h hx x.block with ⟨h1, h2, h3⟩ | ⟨h1, h2, h3⟩
      · rw [if_pos h1]
        obtain ⟨t', g1, g2, g3, g4, g5, g6, g7⟩ := putL_top n h2 (x := (flushP S x x.block).2.1) (by rw [h3]; exact hx) (by rw [h3]; exact hd)
        refine ⟨t', g1, g2, g3.trans (by rw [h3]), fun e => ⟨(g4 e).1, ?_⟩, g5, g6, g7⟩
        rw [(g4 e).2, h3]
        show t ++ x.buf.take x.block ++ x.buf.drop x.block = _
        rw [List.append_assoc, List.take_append_drop]
      · rw [if_neg h1]
        exact ⟨t, h2, by rw [h3]; exact hx, by rw [h3], fun e => absurd e h1, by rw [h3], (flushP_keep S x x.block).2.2.2.2.1, (flushP_keep S x x.block).2.2.2.2.2.1⟩
    · rw [if_neg hge]
      exact ⟨t, h, hx, rfl, fun _ => ⟨hd, rfl⟩, hd, okC_zero, by show ¬ (0 : Nat) = 13; decide⟩
theorem putP_top {x : WrD} {L : List (List UInt8)} (h : TopOpen S0 S r t) (hx : x.run = r) (hd : x.dead = 0) (hL : fits L = true) :
    ∃ t', TopOpen S0 (putP S x L).1 r t' ∧ (putP S x L).2.1.run = r ∧ (putP S x L).2.1.block = x.block ∧ ((putP S x L).2.2 = 0 → (putP S x L).2.1.dead = 0 ∧ t' ++ (putP S x L).2.1.buf = t ++ (x.buf ++ frameL L)) ∧ (putP S x L).2.1.dead = (putP S x L).2.2 ∧ okC (putP S x L).2.2 ∧ (putP S x L).2.2 ≠ 13 := by
  unfold putP
  rw [if_neg (by simpa using hd), if_neg (by simp [hL])]
  exact putL_top _ h hx hd
theorem restP_top {x : WrD} (h : TopOpen S0 S r t) (hx : x.run = r) (_ : x.dead = 0) :
    ((restP S x).2.2 = 0 ∧ TopOpen S0 (restP S x).1 r (t ++ x.buf) ∧ (restP S x).2.1.run = r) ∨ ((restP S x).2.2 ≠ 0 ∧ TopOpen S0 (restP S x).1 r t ∧ (restP S x).2.1.run = r ∧ (restP S x).2.1.dead = (restP S x).2.2 ∧ okC (restP S x).2.2 ∧ (restP S x).2.2 ≠ 13) := by
  unfold restP
  by_cases hb : x.buf = []
  · rw [if_pos hb, hb, List.append_nil]
    exact .inl ⟨rfl, h, hx⟩
  · rw [if_neg hb]
    rcases flushP_top h hx x.buf.length with ⟨h1, h2, h3⟩ | ⟨h1, h2, h3⟩
    · rw [List.take_length] at h2
      exact .inl ⟨h1, h2, by rw [h3]; exact hx⟩
    · exact .inr ⟨h1, h2, by rw [h3]; exact hx, by rw [h3], (flushP_keep S x x.buf.length).2.2.2.2.1, (flushP_keep S x x.buf.length).2.2.2.2.2.1⟩
theorem closeP_top {x : WrD} (h : TopOpen S0 S r t) (hx : x.run = r) (hd : x.dead = 0) :
    ((closeP S x).2.2.2 = 0 ∧ (closeP S x).2.2.1 = r ∧ (closeP S x).1.runs = S0.runs ++ [(r, ⟨t ++ x.buf, true⟩)]) ∨
    ((closeP S x).2.2.2 ≠ 0 ∧ (∃ t', TopOpen S0 (closeP S x).1 r t') ∧ (closeP S x).2.1.run = r ∧ (closeP S x).2.1.dead = (closeP S x).2.2.2 ∧ okC (closeP S x).2.2.2 ∧ (closeP S x).2.2.2 ≠ 13) := by
  unfold closeP
  rw [if_neg (by simpa using hd)]
  rcases restP_top h hx hd with ⟨h1, h2, h3⟩ | ⟨h1, h2, h3, h4, h5, h6⟩
  · rw [if_neg (by simpa using h1), h3]
    rcases h2.seal with ⟨g1, g2⟩ | ⟨g1, g2⟩
    · rw [if_neg (by simpa using g1)]
      exact .inl ⟨rfl, rfl, g2⟩
    · rw [if_pos g1]
      exact .inr ⟨g1, ⟨_, g2⟩, h3, rfl, (seal_code _ _).1, (seal_code _ _).2⟩
  · rw [if_pos h1]
    exact .inr ⟨h1, ⟨_, h2⟩, h3, h4, h5, h6⟩
theorem dropP_top {x : WrD} (h : TopOpen S0 S r t) (hx : x.run = r) (hd : x.dead ≠ 13) : (dropP S x).1.runs = S0.runs ∧ GoodS (dropP S x).1 ∧ (dropP S x).1.made = S0.made + 1 := by
  unfold dropP
  rw [if_neg hd, hx]
  exact ⟨h.remove, h.good.remove _, by show (removeP S (r : Int)).1.made = _; rw [made_remove]; exact h.made⟩
theorem written_top (hG : GoodS S) {L : List (List UInt8)} (hL : fits L = true) : GoodS (writtenP S L).1 ∧ S.made ≤ (writtenP S L).1.made ∧
    (((writtenP S L).2.2 = 0 ∧ (writtenP S L).2.1 = S.made + 1 ∧ (writtenP S L).1.made = S.made + 1 ∧ (writtenP S L).1.runs = S.runs ++ [(S.made + 1, ⟨frameL L, true⟩)]) ∨
     ((writtenP S L).2.2 ≠ 0 ∧ (writtenP S L).2.1 = 0 ∧ (writtenP S L).1.runs = S.runs ∧ okC (writtenP S L).2.2 ∧ (writtenP S L).2.2 ≠ 13)) := by
  unfold writtenP
  by_cases hc : (createP S).2.2 = 0
  · rw [if_neg (by simpa using hc)]
    obtain ⟨h1, _⟩ := create_top hG hc
    have hn := h1.num
    obtain ⟨t', g1, g2, g3, g4, g5, g6, g7⟩ := putP_top (x := ⟨(createP S).2.1, 512, [], 0⟩) (L := L) h1 rfl rfl hL
    dsimp only
    by_cases hp : (putP (createP S).1 ⟨(createP S).2.1, 512, [], 0⟩ L).2.2 = 0
    · rw [if_neg (by simpa using hp)]
      obtain ⟨g8, g9⟩ := g4 hp
      have hcg := closeP_good g1.good (putP (createP S).1 ⟨(createP S).2.1, 512, [], 0⟩ L).2.1
      have hcm := made_close (putP (createP S).1 ⟨(createP S).2.1, 512, [], 0⟩ L).1 (putP (createP S).1 ⟨(createP S).2.1, 512, [], 0⟩ L).2.1
      rw [g1.made] at hcm
      rcases closeP_top g1 g2 g8 with ⟨k1, k2, k3⟩ | ⟨k1, ⟨t2, k2⟩, k3, k4, k5, k6⟩
      · rw [if_neg (by simpa using k1)]
        refine ⟨hcg, by dsimp only; omega, .inl ⟨rfl, by show (closeP _ _).2.2.1 = _; rw [k2, hn], hcm, ?_⟩⟩
        rw [k3, g9, hn]
        simp
      · rw [if_pos k1]
        obtain ⟨d1, d2, d3⟩ := dropP_top k2 k3 (by rw [k4]; exact k6)
        exact ⟨d2, by dsimp only; omega, .inr ⟨k1, rfl, d1, k5, k6⟩⟩
    · rw [if_pos hp]
      obtain ⟨d1, d2, d3⟩ := dropP_top g1 g2 (by rw [g5]; exact g7)
      exact ⟨d2, by dsimp only; omega, .inr ⟨hp, rfl, d1, g6, g7⟩⟩
  · rw [if_pos hc]
    have hm : S.made ≤ (createP S).1.made := by rcases made_create S with h | h <;> omega
    refine ⟨hG.create, hm, .inr ⟨hc, rfl, ?_, okC_made S, ?_⟩⟩
    all_goals
      unfold createP at hc ⊢
      split
      · first | rfl | (show ¬ (9 : Nat) = 13; decide)
      · rename_i h1
        rw [if_neg h1] at hc
        split
        · first | rfl | (show ¬ (8 : Nat) = 13; decide)
        · rename_i h2
          rw [if_neg h2] at hc
          exact absurd rfl hc
theorem made_create_le (S : St) : (createP S).1.made ≤ S.made + 1 := by rcases made_create S with h | h <;> omega
theorem written_made (S : St) (L : List (List UInt8)) : (writtenP S L).1.made ≤ S.made + 1 := by
  have h1 := made_create_le S
  unfold writtenP
  split
  · exact h1
  · dsimp only
    have h2 := made_put (createP S).1 ⟨(createP S).2.1, 512, [], 0⟩ L
    have hd : ∀ (T : St) (x : WrD), (dropP T x).1.made = T.made := fun T x => by
      unfold dropP
      split
      · rfl
      · exact made_remove _ _
    split
    · rw [hd]; omega
    · have h3 := made_close (putP (createP S).1 ⟨(createP S).2.1, 512, [], 0⟩ L).1 (putP (createP S).1 ⟨(createP S).2.1, 512, [], 0⟩ L).2.1
      split
      · rw [hd]; omega
      · dsimp only; omega
theorem remove_runs (n : Nat) : (removeP S n).1.runs = S.runs.filter fun q => q.1 != n := by
  unfold removeP
  cases hf : S.find n with
  | none =>
    refine (filter_same fun q hq e => ?_).symm
    have := List.find?_eq_none.1 hf q hq
    simp [e] at this
  | some p =>
    dsimp only
    have := (find_mem hf).2
    unfold St.delRun
    dsimp only
    rw [show p.1 = n by omega]
theorem gone_good : ∀ (l : List Nat) {S : St}, GoodS S → GoodS (goneP S l) ∧ (goneP S l).made = S.made ∧ (goneP S l).runs = S.runs.filter fun q => decide (q.1 ∉ l)
  | [], S, h => ⟨h, rfl, (List.filter_eq_self.2 (by simp)).symm⟩
  | n :: l, S, h => by
    obtain ⟨h1, h2, h3⟩ := gone_good l (h.remove (n : Int))
    refine ⟨h1, h2.trans (made_remove _ _), ?_⟩
    show (goneP (removeP S n).1 l).runs = _
    rw [h3, remove_runs, List.filter_filter]
    congr 1
    funext q
    by_cases e : q.1 = n <;> simp [e]
end
def Sealed (_ : St) : Prop := True
structure FOk (S : St) (f : FmD) : Prop where
  most : 1 ≤ f.most ∧ f.most ≤ 65536
  less : f.dead = 0 → f.held.length < f.most
  fit : fits f.held = true
  code : okC f.dead
  made : ∀ n ∈ f.made, n ≤ S.made
  few : f.made.length ≤ S.made
structure FKeep (S S' : St) (f f' : FmD) : Prop where
  good : GoodS S'
  seal_ : Sealed S'
  made : S.made ≤ S'.made
  ok : FOk S' f'
theorem FOk.step {S S' : St} {f : FmD} (h : FOk S f) (hm : S.made ≤ S'.made) : FOk S' f := ⟨h.most, h.less, h.fit, h.code, fun n hn => Nat.le_trans (h.made n hn) hm, Nat.le_trans h.few hm⟩
theorem fits_mem {L : List (List UInt8)} : fits L = true ↔ ∀ r ∈ L, r.length ≤ 255 := by simp [fits]
theorem fits_ofL {L : List (List UInt8)} (h : fits L = true) : fits (ofL L) = true := fits_mem.2 fun r hr => fits_mem.1 h r ((ofL_mem L r).1 hr)
theorem fits_append {a b : List (List UInt8)} : fits (a ++ b) = true ↔ fits a = true ∧ fits b = true := by simp [fits]
theorem fits_cons {a : List UInt8} {b : List (List UInt8)} : fits (a :: b) = true ↔ a.length ≤ 255 ∧ fits b = true := by simp [fits]
theorem Sealed.gone {S : St} (_ : GoodS S) (_ : Sealed S) (l : List Nat) : Sealed (goneP S l) := trivial
theorem written_sealed {S : St} (_ : GoodS S) (_ : Sealed S) {L : List (List UInt8)} (_ : fits L = true) : Sealed (writtenP S L).1 := trivial
theorem fwrite_keep {S : St} {f : FmD} (hG : GoodS S) (hs : Sealed S) (hm : 1 ≤ f.most ∧ f.most ≤ 65536) (hf : fits f.held = true) (hd : f.dead = 0) (hn : ∀ n ∈ f.made, n ≤ S.made) (hw : f.made.length ≤ S.made) :
    FKeep S (fwriteP S f).1 f (fwriteP S f).2.1 ∧ (fwriteP S f).2.1.dead = (fwriteP S f).2.2 ∧ okC (fwriteP S f).2.2 ∧ (fwriteP S f).2.2 ≠ 13 ∧ (fwriteP S f).2.1.most = f.most ∧ ((fwriteP S f).2.2 = 0 → (fwriteP S f).2.1.held = []) := by
  have hL := fits_ofL hf
  obtain ⟨h1, h2, h3⟩ := written_top hG hL
  have h4 := written_sealed hG hs hL
  unfold fwriteP
  rcases h3 with ⟨k1, k2, k3, k4⟩ | ⟨k1, k2, k3, k4, k5⟩
  · rw [if_pos k1]
    refine ⟨⟨h1, h4, h2, hm, fun _ => ?_, rfl, by rw [show ({ f with made := f.made ++ [(writtenP S (ofL f.held)).2.1], held := [] } : FmD).dead = f.dead from rfl, hd]; exact okC_zero, fun n hn' => ?_, by simp; omega⟩, hd, okC_zero, by show ¬ (0 : Nat) = 13; decide, rfl, fun _ => rfl⟩
    · show 0 < f.most; omega
    · rcases List.mem_append.1 hn' with h | h
      · exact Nat.le_trans (hn n h) h2
      · simp at h; dsimp only; omega
  · rw [if_neg k1]
    obtain ⟨g1, g2, g3⟩ := gone_good f.made h1
    refine ⟨⟨g1, Sealed.gone h1 h4 _, by dsimp only; omega, hm, fun e => absurd e k1, hf, k4, (fun n hn' => by cases hn'), Nat.zero_le _⟩, rfl, k4, k5, rfl, fun e => absurd e k1⟩
theorem addL_keep : ∀ (ws : List (List UInt8)) {S : St} {f : FmD}, GoodS S → Sealed S → FOk S f → f.dead = 0 → fits ws = true →
    FKeep S (addL S f ws).1 f (addL S f ws).2.1 ∧ (addL S f ws).2.1.dead = (addL S f ws).2.2 ∧ okC (addL S f ws).2.2 ∧ (addL S f ws).2.2 ≠ 13 ∧ (addL S f ws).2.1.most = f.most
  | [], S, f, hG, hs, hF, hd, _ => ⟨⟨hG, hs, Nat.le_refl _, hF⟩, hd, okC_zero, by show ¬ (0 : Nat) = 13; decide, rfl⟩
  | x :: ws, S, f, hG, hs, hF, hd, hw => by
    obtain ⟨hw1, hw2⟩ := fits_cons.1 hw
    have hx : fits (f.held ++ [x]) = true := fits_append.2 ⟨hF.fit, by simp [fits, hw1]⟩
    have hl := hF.less hd
    unfold addL
    by_cases hm : f.most ≤ f.held.length + 1
    · rw [if_pos hm]
      obtain ⟨h1, h2, h3, h4, h5, h6⟩ := fwrite_keep (f := { f with held := f.held ++ [x] }) hG hs hF.most hx hd hF.made hF.few
      by_cases hc : (fwriteP S { f with held := f.held ++ [x] }).2.2 = 0
      · rw [if_pos hc]
        obtain ⟨g1, g2, g3, g4, g5⟩ := addL_keep ws h1.good h1.seal_ h1.ok (h2.trans hc) hw2
        exact ⟨⟨g1.good, g1.seal_, Nat.le_trans h1.made g1.made, g1.ok⟩, g2, g3, g4, g5.trans h5⟩
      · rw [if_neg hc]
        exact ⟨⟨h1.good, h1.seal_, h1.made, h1.ok⟩, h2, h3, h4, h5⟩
    · rw [if_neg hm]
      obtain ⟨g1, g2, g3, g4, g5⟩ := addL_keep ws (f := { f with held := f.held ++ [x] }) hG hs ⟨hF.most, fun _ => by show (f.held ++ [x]).length < f.most; simp; omega, hx, hF.code, hF.made, hF.few⟩ hd hw2
      exact ⟨⟨g1.good, g1.seal_, g1.made, g1.ok⟩, g2, g3, g4, g5⟩
theorem addP_keep {S : St} {f : FmD} (hG : GoodS S) (hs : Sealed S) (hF : FOk S f) (ws : List (List UInt8)) :
    FKeep S (addP S f ws).1 f (addP S f ws).2.1 ∧ okC (addP S f ws).2.2 ∧ (addP S f ws).2.1.most = f.most := by
  unfold addP
  by_cases hd : f.dead = 0
  · rw [if_neg (by simpa using hd)]
    by_cases hw : fits ws = false
    · rw [if_pos hw]
      exact ⟨⟨hG, hs, Nat.le_refl _, hF⟩, okC_of (.inr (.inr (.inr (.inr (.inr (.inl rfl)))))), rfl⟩
    · rw [if_neg hw]
      obtain ⟨h1, h2, h3, h4, h5⟩ := addL_keep ws hG hs hF hd (by simpa using hw)
      exact ⟨h1, h3, h5⟩
  · rw [if_pos hd]
    exact ⟨⟨hG, hs, Nat.le_refl _, hF⟩, hF.code, rfl⟩
theorem finishP_keep {S : St} {f : FmD} (hG : GoodS S) (hs : Sealed S) (hF : FOk S f) :
    FKeep S (finishP S f).1 f (finishP S f).2.1 ∧ okC (finishP S f).2.2.2 ∧ (∀ n ∈ (finishP S f).2.2.1, n ≤ (finishP S f).1.made) := by
  have h13 : okC 13 := okC_of (.inr (.inr (.inr (.inr (.inr (.inr (.inl rfl)))))))
  unfold finishP
  by_cases hd : f.dead = 0
  · rw [if_neg (by simpa using hd)]
    by_cases hh : f.held = []
    · rw [if_pos hh]
      exact ⟨⟨hG, hs, Nat.le_refl _, hF.most, fun e => (by cases e), hF.fit, h13, hF.made, hF.few⟩, okC_zero, hF.made⟩
    · rw [if_neg hh]
      obtain ⟨h1, h2, h3, h4, h5, h6⟩ := fwrite_keep hG hs hF.most hF.fit hd hF.made hF.few
      by_cases hc : (fwriteP S f).2.2 = 0
      · rw [if_pos hc]
        exact ⟨⟨h1.good, h1.seal_, h1.made, h1.ok.most, fun e => (by cases e), h1.ok.fit, h13, h1.ok.made, h1.ok.few⟩, okC_zero, h1.ok.made⟩
      · rw [if_neg hc]
        exact ⟨h1, h3, fun n hn => by cases hn⟩
  · rw [if_pos hd]
    exact ⟨⟨hG, hs, Nat.le_refl _, hF⟩, hF.code, fun n hn => by cases hn⟩
def runsL : Nat → List (List (List UInt8)) → List (Nat × RunD)
  | _, [] => []
  | k, L :: Ls => (k, ⟨frameL (ofL L), true⟩) :: runsL (k + 1) Ls
theorem runsL_append : ∀ (a b : List (List (List UInt8))) (k : Nat), runsL k (a ++ b) = runsL k a ++ runsL (k + a.length) b
  | [], b, k => rfl
  | x :: a, b, k => by
    show _ :: runsL (k + 1) (a ++ b) = _ :: (runsL (k + 1) a ++ _)
    rw [runsL_append a b (k + 1), List.length_cons, show k + 1 + a.length = k + (a.length + 1) by omega]
theorem runsL_num : ∀ (a : List (List (List UInt8))) (k : Nat), (runsL k a).map (·.1) = List.range' k a.length
  | [], k => rfl
  | x :: a, k => by
    show k :: (runsL (k + 1) a).map (·.1) = _
    rw [runsL_num a (k + 1)]
    rfl
structure Formed (S : St) (f : FmD) (Ls : List (List (List UInt8))) : Prop where
  good : GoodS S
  runs : S.runs = runsL 1 Ls
  made : S.made = Ls.length
  list : f.made = List.range' 1 Ls.length
  each : ∀ L ∈ Ls, L.length = f.most
section
variable {S : St} {f : FmD} {Ls : List (List (List UInt8))}
theorem Formed.sealed (_ : Formed S f Ls) : Sealed S := trivial
theorem Formed.ok (h : Formed S f Ls) (hm : 1 ≤ f.most ∧ f.most ≤ 65536) (hl : f.held.length < f.most) (hf : fits f.held = true) (hd : okC f.dead) : FOk S f :=
  ⟨hm, fun _ => hl, hf, hd, fun n hn => by
    rw [h.list] at hn
    have := (List.mem_range'_1.1 hn).2
    rw [h.made]; omega, by rw [h.list, h.made]; simp⟩
theorem Formed.write (h : Formed S f Ls) (hf : fits f.held = true) :
    ((fwriteP S f).2.2 = 0 ∧ (fwriteP S f).1.runs = runsL 1 (Ls ++ [f.held]) ∧ (fwriteP S f).1.made = Ls.length + 1 ∧ GoodS (fwriteP S f).1 ∧ (fwriteP S f).2.1 = ⟨[], f.most, List.range' 1 (Ls.length + 1), f.dead⟩) ∨
    ((fwriteP S f).2.2 ≠ 0 ∧ (fwriteP S f).1.runs = [] ∧ GoodS (fwriteP S f).1 ∧ (fwriteP S f).1.made ≤ Ls.length + 1 ∧ (fwriteP S f).2.1 = ⟨f.held, f.most, [], (fwriteP S f).2.2⟩) := by
  obtain ⟨h1, h2, h3⟩ := written_top h.good (fits_ofL hf)
  have hmm : (writtenP S (ofL f.held)).1.made ≤ S.made + 1 := written_made S _
  unfold fwriteP
  rcases h3 with ⟨k1, k2, k3, k4⟩ | ⟨k1, k2, k3, k4, k5⟩
  · rw [if_pos k1]
    refine .inl ⟨rfl, ?_, by rw [← h.made]; exact k3, h1, ?_⟩
    · rw [runsL_append, ← h.runs, ← h.made, Nat.add_comm]
      exact k4
    · rw [h.list, k2, h.made, List.range'_concat]
      simp [Nat.add_comm]
  · rw [if_neg k1]
    obtain ⟨g1, g2, g3⟩ := gone_good f.made h1
    refine .inr ⟨k1, ?_, g1, by rw [g2, ← h.made]; exact hmm, rfl⟩
    rw [g3, k3, h.runs, List.filter_eq_nil_iff]
    intro q hq
    have : q.1 ∈ (runsL 1 Ls).map (·.1) := List.mem_map_of_mem hq
    rw [runsL_num, ← h.list] at this
    simpa using this
end
def wsum : List (List UInt8) → Nat
  | [] => 0
  | r :: l => r.length + 2 + wsum l
theorem frame_wsum : ∀ {L : List (List UInt8)}, fits L = true → (frameL L).length ≤ wsum L
  | [], _ => by simp [frameL]
  | r :: l, h => by
    obtain ⟨h1, h2⟩ := fits_cons.1 h
    have h3 := frame_wsum h2
    have h4 : (uintL r.length).length ≤ 2 := uintL_length (k := 1) (by omega)
    simp only [frameL, wsum, List.length_append]
    omega
theorem wsum_fit : ∀ {L : List (List UInt8)}, fits L = true → wsum L ≤ 257 * L.length
  | [], _ => by simp [wsum]
  | r :: l, h => by
    obtain ⟨h1, h2⟩ := fits_cons.1 h
    have h3 := wsum_fit h2
    simp only [wsum, List.length_cons]
    omega
theorem Free.less {S : St} {n m : Nat} (h : Free S n) (hm : m ≤ n) : Free S m := ⟨h.left, by have := h.room; omega⟩
section
variable {S : St} {f : FmD} {Ls : List (List (List UInt8))}
theorem addL_cons (S : St) (f : FmD) (x : List UInt8) (l : List (List UInt8)) : addL S f (x :: l) = (if f.most ≤ f.held.length + 1 then
      (if (fwriteP S { f with held := f.held ++ [x] }).2.2 = 0 then addL (fwriteP S { f with held := f.held ++ [x] }).1 (fwriteP S { f with held := f.held ++ [x] }).2.1 l
       else fwriteP S { f with held := f.held ++ [x] })
    else addL S { f with held := f.held ++ [x] } l) := by rw [addL]
end
theorem flush_drop {S : St} {x : WrD} (h : (flushP S x x.block).2.2 = 0) : (flushP S x x.block).2.1 = { x with buf := x.buf.drop x.block } := flushP_ok h
theorem putL_fuel : ∀ (n : Nat) (S : St) (x : WrD) (n' : Nat), 1 ≤ x.block → x.buf.length < n → x.buf.length < n' → putL n S x = putL n' S x
  | 0, S, x, n', _, h, _ => absurd h (Nat.not_lt_zero _)
  | n + 1, S, x, 0, _, _, h => absurd h (Nat.not_lt_zero _)
  | n + 1, S, x, n' + 1, hb, h1, h2 => by
    unfold putL
    by_cases hc : x.block ≤ x.buf.length
    · rw [if_pos hc, if_pos hc]
      by_cases hz : (flushP S x x.block).2.2 = 0
      · rw [if_pos hz, if_pos hz, flush_drop hz]
        exact putL_fuel n _ _ n' hb (by show (x.buf.drop x.block).length < n; rw [List.length_drop]; omega) (by show (x.buf.drop x.block).length < n'; rw [List.length_drop]; omega)
      · rw [if_neg hz, if_neg hz]
    · rw [if_neg hc, if_neg hc]
theorem flush_more (S : St) (x : WrD) (m : List UInt8) (h : x.block ≤ x.buf.length) : (flushP S { x with buf := x.buf ++ m } x.block).1 = (flushP S x x.block).1 ∧ (flushP S { x with buf := x.buf ++ m } x.block).2.2 = (flushP S x x.block).2.2 ∧
    (flushP S { x with buf := x.buf ++ m } x.block).2.1.run = (flushP S x x.block).2.1.run ∧ (flushP S { x with buf := x.buf ++ m } x.block).2.1.dead = (flushP S x x.block).2.1.dead := by
  have e : (x.buf ++ m).take x.block = x.buf.take x.block := List.take_append_of_le_length h
  unfold flushP
  dsimp only
  rw [e]
  split <;> exact ⟨rfl, rfl, rfl, rfl⟩
def SameP (a b : St × WrD × Nat) : Prop := a.1 = b.1 ∧ a.2.2 = b.2.2 ∧ a.2.1.run = b.2.1.run ∧ a.2.1.dead = b.2.1.dead ∧ (a.2.2 = 0 → a.2.1 = b.2.1)
theorem SameP.refl (a : St × WrD × Nat) : SameP a a := ⟨rfl, rfl, rfl, rfl, fun _ => rfl⟩
theorem SameP.trans {a b c : St × WrD × Nat} (h : SameP a b) (k : SameP b c) : SameP a c :=
  ⟨h.1.trans k.1, h.2.1.trans k.2.1, h.2.2.1.trans k.2.2.1, h.2.2.2.1.trans k.2.2.2.1, fun e => (h.2.2.2.2 e).trans (k.2.2.2.2 (h.2.1 ▸ e))⟩
theorem putL_more : ∀ (n : Nat) (S : St) (x : WrD) (m : List UInt8) (n' n'' : Nat), 1 ≤ x.block → x.buf.length < n → (x.buf ++ m).length < n' → (x.buf ++ m).length < n'' →
    ((putL n S x).2.2 = 0 → putL n' S { x with buf := x.buf ++ m } = putL n'' (putL n S x).1 { (putL n S x).2.1 with buf := (putL n S x).2.1.buf ++ m }) ∧
    ((putL n S x).2.2 ≠ 0 → (putL n' S { x with buf := x.buf ++ m }).1 = (putL n S x).1 ∧ (putL n' S { x with buf := x.buf ++ m }).2.2 = (putL n S x).2.2 ∧ (putL n' S { x with buf := x.buf ++ m }).2.1.run = (putL n S x).2.1.run ∧ (putL n' S { x with buf := x.buf ++ m }).2.1.dead = (putL n S x).2.1.dead)
  | 0, S, x, m, n', n'', _, h, _, _ => absurd h (Nat.not_lt_zero _)
  | n + 1, S, x, m, 0, n'', _, _, h, _ => absurd h (Nat.not_lt_zero _)
  | n + 1, S, x, m, n' + 1, n'', hb, h1, h2, h3 => by
    rw [List.length_append] at h2 h3
    by_cases hc : x.block ≤ x.buf.length
    · have hc2 : x.block ≤ (x.buf ++ m).length := by rw [List.length_append]; omega
      obtain ⟨f1, f2, f3, f4⟩ := flush_more S x m hc
      by_cases hz : (flushP S x x.block).2.2 = 0
      · have e1 : putL (n + 1) S x = putL n (flushP S x x.block).1 { x with buf := x.buf.drop x.block } := by
          rw [putL, if_pos hc, if_pos hz, flush_drop hz]
        have hz2 : (flushP S { x with buf := x.buf ++ m } ({ x with buf := x.buf ++ m } : WrD).block).2.2 = 0 := f2.trans hz
        have e2 : putL (n' + 1) S { x with buf := x.buf ++ m } = putL n' (flushP S x x.block).1 { ({ x with buf := x.buf.drop x.block } : WrD) with buf := ({ x with buf := x.buf.drop x.block } : WrD).buf ++ m } := by
          rw [putL, if_pos hc2, if_pos hz2, flush_drop hz2]
          show putL n' (flushP S { x with buf := x.buf ++ m } x.block).1 _ = _
          rw [f1]
          congr 2
          exact List.drop_append_of_le_length hc
        rw [e1, e2]
        have hd : (x.buf.drop x.block).length = x.buf.length - x.block := List.length_drop
        have ih := putL_more n (flushP S x x.block).1 { x with buf := x.buf.drop x.block } m n' n'' hb (by show (x.buf.drop x.block).length < n; omega) (by show (x.buf.drop x.block ++ m).length < n'; rw [List.length_append]; omega) (by show (x.buf.drop x.block ++ m).length < n''; rw [List.length_append]; omega)
        exact ih
      · have e1 : putL (n + 1) S x = flushP S x x.block := by rw [putL, if_pos hc, if_neg hz]
        have hz2 : ¬ (flushP S { x with buf := x.buf ++ m } ({ x with buf := x.buf ++ m } : WrD).block).2.2 = 0 := fun e => hz (f2.symm.trans e)
        have e2 : putL (n' + 1) S { x with buf := x.buf ++ m } = flushP S { x with buf := x.buf ++ m } x.block := by rw [putL, if_pos hc2, if_neg hz2]
        rw [e1, e2]
        exact ⟨fun e => absurd e hz, fun _ => ⟨f1, f2, f3, f4⟩⟩
    · have e1 : putL (n + 1) S x = (S, x, 0) := by rw [putL, if_neg hc]
      rw [e1]
      exact ⟨fun _ => putL_fuel _ _ _ _ hb (by show (x.buf ++ m).length < _; rw [List.length_append]; omega) (by show (x.buf ++ m).length < _; rw [List.length_append]; omega), fun e => absurd rfl e⟩
def putsP (S : St) (x : WrD) : List (List UInt8) → St × WrD × Nat
  | [] => (S, x, 0)
  | a :: l => if (putP S x [a]).2.2 = 0 then putsP (putP S x [a]).1 (putP S x [a]).2.1 l else putP S x [a]
theorem putL_stops : ∀ (n : Nat) (S : St) (x : WrD), 1 ≤ x.block → x.buf.length < n → (putL n S x).2.2 = 0 → (putL n S x).2.1.buf.length < x.block ∧ (putL n S x).2.1.block = x.block ∧ (putL n S x).2.1.dead = x.dead ∧ (putL n S x).2.1.buf.length ≤ x.buf.length
  | 0, S, x, _, h, _ => absurd h (Nat.not_lt_zero _)
  | n + 1, S, x, hb, h1, h2 => by
    rw [putL] at h2 ⊢
    by_cases hc : x.block ≤ x.buf.length
    · rw [if_pos hc] at h2 ⊢
      by_cases hz : (flushP S x x.block).2.2 = 0
      · rw [if_pos hz] at h2 ⊢
        rw [flush_drop hz] at h2 ⊢
        obtain ⟨q1, q2, q3, q4⟩ := putL_stops n (flushP S x x.block).1 { x with buf := x.buf.drop x.block } hb (by show (x.buf.drop x.block).length < n; rw [List.length_drop]; omega) h2
        refine ⟨q1, q2, q3, Nat.le_trans q4 ?_⟩
        show (x.buf.drop x.block).length ≤ x.buf.length
        rw [List.length_drop]
        omega
      · rw [if_neg hz] at h2
        exact absurd h2 hz
    · rw [if_neg hc]
      exact ⟨by show x.buf.length < x.block; omega, rfl, rfl, Nat.le_refl _⟩
theorem frameL_cons (a : List UInt8) (l : List (List UInt8)) : frameL (a :: l) = frameL [a] ++ frameL l := by simp [frameL]
theorem puts_eq : ∀ (l : List (List UInt8)) (S : St) (x : WrD), fits l = true → x.dead = 0 → 1 ≤ x.block → x.buf.length < x.block → SameP (putsP S x l) (putP S x l)
  | [], S, x, _, hd, hb, hl => by
    unfold putP
    rw [if_neg (by simp [hd]), if_neg (by decide)]
    show SameP (S, x, 0) (putL _ S { x with buf := x.buf ++ frameL [] })
    have e : frameL [] = [] := rfl
    rw [e, List.append_nil, putL, if_neg (by show ¬ x.block ≤ x.buf.length; omega)]
    exact SameP.refl _
  | a :: l, S, x, hf, hd, hb, hl => by
    obtain ⟨hf1, hf2⟩ := fits_cons.1 hf
    have hfa : fits [a] = true := fits_cons.2 ⟨hf1, rfl⟩
    have e1 : putP S x [a] = putL ((x.buf ++ frameL [a]).length + 1) S { x with buf := x.buf ++ frameL [a] } := by
      unfold putP
      rw [if_neg (by simp [hd]), if_neg (by rw [hfa]; decide)]
    have e2 : putP S x (a :: l) = putL ((x.buf ++ frameL (a :: l)).length + 1) S { x with buf := (x.buf ++ frameL [a]) ++ frameL l } := by
      unfold putP
      rw [if_neg (by simp [hd]), if_neg (by rw [hf]; decide), frameL_cons, List.append_assoc]
    have hlen : (x.buf ++ frameL (a :: l)).length = ((x.buf ++ frameL [a]) ++ frameL l).length := by rw [frameL_cons, List.append_assoc]
    have hm := putL_more ((x.buf ++ frameL [a]).length + 1) S { x with buf := x.buf ++ frameL [a] } (frameL l) ((x.buf ++ frameL (a :: l)).length + 1) (((x.buf ++ frameL [a]) ++ frameL l).length + 1) hb (Nat.lt_succ_self _) (by rw [hlen]; exact Nat.lt_succ_self _) (Nat.lt_succ_self _)
    have hen := putL_stops ((x.buf ++ frameL [a]).length + 1) S { x with buf := x.buf ++ frameL [a] } hb (Nat.lt_succ_self _)
    rw [← e1] at hm hen
    show SameP (if (putP S x [a]).2.2 = 0 then putsP (putP S x [a]).1 (putP S x [a]).2.1 l else putP S x [a]) _
    by_cases hz : (putP S x [a]).2.2 = 0
    · rw [if_pos hz]
      obtain ⟨g1, g2, g3, g4⟩ := hen hz
      have ih := puts_eq l (putP S x [a]).1 (putP S x [a]).2.1 hf2 (g3.trans hd) (by rw [g2]; exact hb) (by rw [g2]; exact g1)
      refine ih.trans ?_
      rw [e2]
      show SameP (putP (putP S x [a]).1 (putP S x [a]).2.1 l) (putL _ S { ({ x with buf := x.buf ++ frameL [a] } : WrD) with buf := ({ x with buf := x.buf ++ frameL [a] } : WrD).buf ++ frameL l })
      rw [hm.1 hz]
      generalize putP S x [a] = P at *
      unfold putP
      rw [if_neg (by simp [g3, hd]), if_neg (by rw [hf2]; decide)]
      rw [putL_fuel _ P.1 { P.2.1 with buf := P.2.1.buf ++ frameL l } (((x.buf ++ frameL [a]) ++ frameL l).length + 1) (by show 1 ≤ P.2.1.block; rw [g2]; exact hb) (Nat.lt_succ_self _) (by
        show (P.2.1.buf ++ frameL l).length < _
        have : P.2.1.buf.length ≤ (x.buf ++ frameL [a]).length := g4
        simp only [List.length_append] at this ⊢
        omega)]
      exact SameP.refl _
    · rw [if_neg hz, e2]
      obtain ⟨q1, q2, q3, q4⟩ := hm.2 hz
      exact ⟨q1.symm, q2.symm, q3.symm, q4.symm, fun e => absurd e hz⟩
def roundM (S : St) (L : List (List UInt8)) : St × Nat × Nat :=
  if (createP S).2.2 ≠ 0 then ((createP S).1, 0, (createP S).2.2) else
  if (putsP (createP S).1 ⟨(createP S).2.1, 512, [], 0⟩ L).2.2 ≠ 0 then ((dropP (putsP (createP S).1 ⟨(createP S).2.1, 512, [], 0⟩ L).1 (putsP (createP S).1 ⟨(createP S).2.1, 512, [], 0⟩ L).2.1).1, 0, (putsP (createP S).1 ⟨(createP S).2.1, 512, [], 0⟩ L).2.2) else
  let q := closeP (putsP (createP S).1 ⟨(createP S).2.1, 512, [], 0⟩ L).1 (putsP (createP S).1 ⟨(createP S).2.1, 512, [], 0⟩ L).2.1
  if q.2.2.2 ≠ 0 then ((dropP q.1 q.2.1).1, 0, q.2.2.2) else (q.1, q.2.2.1, 0)
theorem round_eq (S : St) {L : List (List UInt8)} (hL : fits L = true) : roundM S L = writtenP S L := by
  unfold roundM writtenP
  by_cases hc : (createP S).2.2 ≠ 0
  · rw [if_pos hc, if_pos hc]
  · rw [if_neg hc, if_neg hc]
    obtain ⟨h1, h2, h3, h4, h5⟩ := puts_eq L (createP S).1 ⟨(createP S).2.1, 512, [], 0⟩ hL rfl (by show 1 ≤ 512; decide) (by show 0 < 512; decide)
    generalize putsP (createP S).1 ⟨(createP S).2.1, 512, [], 0⟩ L = A at *
    generalize putP (createP S).1 ⟨(createP S).2.1, 512, [], 0⟩ L = B at *
    dsimp only
    by_cases hz : A.2.2 = 0
    · have hzb : B.2.2 = 0 := h2.symm.trans hz
      rw [h1, h5 hz]
      simp only [hz, hzb, ne_eq, not_true, if_false]
    · rw [if_pos hz, if_pos (by rw [← h2]; exact hz), ← h2]
      have : (dropP A.1 A.2.1).1 = (dropP B.1 B.2.1).1 := by
        unfold dropP
        rw [h4, h3, h1]
        split <;> rfl
      rw [this]
def standsP (S : St) (z : Int) : List (List UInt8) := risB none (headsL (readT S z 0 (sizeN S z : Nat))).1
def lookP (S : St) : List Int → List Int → Nat
  | _, [] => 0
  | seen, z :: l => if readC S z 0 0 ≠ 0 then readC S z 0 0 else if z ∈ seen then 12 else lookP S (seen ++ [z]) l
def goneZ : St → List Int → St
  | S, [] => S
  | S, z :: l => goneZ (removeP S z).1 l
def allP (S : St) (l : List Int) : List (List UInt8) := ofL (l.map (standsP S)).flatten
def loopM (fan : Nat) : Nat → St → List Int → St × Int × Nat
  | 0, S, l => (S, l.getD 0 0, 0)
  | n + 1, S, l => if l.length ≤ 1 then (S, l.getD 0 0, 0) else
    if (writtenP S (allP S (l.take fan))).2.2 ≠ 0 then (goneZ (writtenP S (allP S (l.take fan))).1 l, 0, (writtenP S (allP S (l.take fan))).2.2)
    else loopM fan n (goneZ (writtenP S (allP S (l.take fan))).1 (l.take fan)) (l.drop fan ++ [((writtenP S (allP S (l.take fan))).2.1 : Int)])
def mergeP (S : St) (fan : Int) (l : List Int) : St × Int × Nat :=
  if fan < 2 ∨ 64 < fan then (S, 0, 2) else
  if lookP S [] l ≠ 0 then (S, 0, lookP S [] l) else
  if l = [] then ((writtenP S []).1, ((writtenP S []).2.1 : Int), (writtenP S []).2.2) else loopM fan.toNat l.length S l
def sortP (S : St) (b fan : Int) (ws : List (List UInt8)) : St × Int × Nat :=
  if b < 1 ∨ 65536 < b ∨ fan < 2 ∨ 64 < fan then (S, 0, 2) else
  if (addP S ⟨[], b.toNat, [], 0⟩ ws).2.2 ≠ 0 then ((addP S ⟨[], b.toNat, [], 0⟩ ws).1, 0, (addP S ⟨[], b.toNat, [], 0⟩ ws).2.2) else
  let r := finishP (addP S ⟨[], b.toNat, [], 0⟩ ws).1 (addP S ⟨[], b.toNat, [], 0⟩ ws).2.1
  if r.2.2.2 ≠ 0 then (r.1, 0, r.2.2.2) else mergeP r.1 fan (r.2.2.1.map fun (n : Nat) => (n : Int))
end Go.Proofs.YtadokkffmekndaaGreatDoor
