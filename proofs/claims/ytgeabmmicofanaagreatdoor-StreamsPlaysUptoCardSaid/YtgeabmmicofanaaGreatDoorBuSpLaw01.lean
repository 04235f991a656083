/- Laws of the walk that the kit lacks or has in another form; over any program. · Texts in their order, lists of them that rise, merged, sorted, cut; no program. · The texts up to the first that does not rise: no program in sight. -/
import Derived.WalkKit
import Derived.WalkSpells
import Derived.WalkLawsBesides
import Derived.Lib.UnsafeStr
import Derived.Lib.Builder
set_option linter.unusedSimpArgs false
set_option linter.unusedVariables false
namespace Go.Proofs.YtgeabmmicofanaaGreatDoor
open Go.RowKit

/-- A byte as a value; bytes as values. -/
abbrev bv (c : UInt8) : Value := .int .u8 c.toNat
abbrev bvs (l : List UInt8) : List Value := Lib.byteCells l
theorem bvs_length (l : List UInt8) : (bvs l).length = l.length := by simp [Lib.byteCells]
theorem bvs_append (l r : List UInt8) : bvs (l ++ r) = bvs l ++ bvs r := by simp [Lib.byteCells]
theorem bvs_one (c : UInt8) : bvs [c] = [bv c] := rfl
theorem foldl_push (l : List UInt8) : ∀ s : ByteArray, (l.map fun c => ((c.toNat : Nat) : Int)).foldl (fun r n => r.push (UInt8.ofNat n.toNat)) s = ⟨s.data ++ l.toArray⟩ := by
  induction l with
  | nil => intro s; simp
  | cons c l ih =>
    intro s
    simp only [List.map_cons, List.foldl_cons]
    rw [ih]
    cases s
    simp [ByteArray.push]

/-- The cells of a row that is owned, as one load. -/
theorem run_load_own {P : Program} {w : World} {base : Nat} {e : TypeId} {g n cap : Nat} {xs : List Value} (h : w.ownsRow base e 1 (.slice (some ⟨g, 0, none⟩) n cap) n xs) :
    (loadCells ⟨g, 0, none⟩ n).run P w = .ok xs.toArray w := by
  have hl : xs.length = n := by simpa using h.1
  subst hl
  exact run_loadCells_list _ _ _ fun j v hv => h.cells (g := g) rfl j v hv

/-- 'string(b)' of bytes that the call owns. -/
theorem run_string_own {P : Program} {w : World} {base : Nat} (src dst e : TypeId) (v : Value) (n : Nat) (l : List UInt8)
    (hs : P.underlying src = some (.slice e)) (he : P.underlying e = some (.int .u8)) (hd : P.underlying dst = some .string) (h : w.ownsRow base e 1 v n (bvs l)) :
    (convert src dst v).run P w = .ok (.string ⟨l.toArray⟩) w := by
  rcases h.2 with ⟨rfl, rfl⟩ | ⟨g, cap, cur, rfl, _, hg, _⟩
  · have : l = [] := by have := h.1; simpa [Lib.byteCells] using this
    subst this
    rw [run_convert_bytes_string w src dst e _ _ _ hs he hd]
    simp [Conv.bytesToString, Sem.run_pure]
    rfl
  · rw [run_convert_bytes_string w src dst e _ _ _ hs he hd]
    have hr := run_bytesToString (P := P) w ⟨g, 0, none⟩ n cap (l.map fun c => ((c.toNat : Nat) : Int)) (by
      rw [run_load_own h]; simp [Lib.byteCells, Function.comp_def])
    rw [hr, foldl_push]
    simp

theorem wpList_string_own {P : Program} {w : World} {ops : Array Oper} {rest : List Oper} {o : Oper} {a : Act} {Q : Exit → Act → World → Prop} (hgd : o.guard = none)
    (src dst e : TypeId) (x : Operand) (ho : o.op = .convert src dst x) (hs : P.underlying src = some (.slice e)) (he : P.underlying e = some (.int .u8)) (hd : P.underlying dst = some .string)
    {base : Nat} (v : Value) (n : Nat) (l : List UInt8) (hx : a.eval x = v) (h : w.ownsRow base e 1 v n (bvs l))
    (hK : wpList P ops Q rest (a.put o.dst (.string ⟨l.toArray⟩)) w) : wpList P ops Q (o :: rest) a w := by
  refine wpList_plain hgd fun K hK' => ?_
  have hr := run_string_own (P := P) src dst e v n l hs he hd h
  unfold Oper.wp
  simp [execOp, ho, hx, hr, Result.andThen]
  exact hK' _ _ hK

theorem World.grownBy.of_alloc {w w' : World} {o : Obj} {row : Option Nat} (h : (w.alloc o).grownBy w' row) : w.grownBy w' row :=
  ⟨h.os, h.tape, h.output, Nat.le_trans (by simp) h.size, fun k hk hne => (h.block k (by simp; omega) hne).trans (heap_alloc_old w o hk)⟩

/-- 'append(s, x, ..)': the new elements lie in a block that was laid just ahead. -/
theorem wpList_append_new {P : Program} {w : World} {ops : Array Oper} {rest : List Oper} {o : Oper} {a : Act} {Q : Exit → Act → World → Prop} (hgd : o.guard = none)
    (s x : Operand) (t e : TypeId) (ho : o.op = .call { callee := .builtin .append, args := #[s, x], argTypes := #[t, t] }) (ht : P.underlying t = some (.slice e))
    {z : Value} {size bytes : Nat} (hinfo : (P.info? e).map (fun i => (i.zero, i.size, i.bytes)) = some (some z, size, bytes)) (hzs : z.cells.size = size) (hsz : 0 < size)
    {base : Nat} {v : Value} {n : Nat} {xs : List Value} (hs : a.eval s = v) (hown : w.ownsRow base e size v n xs)
    {C : Array Value} {m c : Nat} (hx : a.eval x = .slice (some ⟨w.heap.size, 0, none⟩) m c) (hC : C.size = m * size) (h1 : ∀ u ∈ C.toList, u.oneCell' = true)
    (hB : base ≤ w.heap.size) (h63 : n + m ≤ maxLen) (hbytes : (n + m) * bytes ≤ 140737488355328)
    (h : ∀ v' w', w'.ownsRow base e size v' (n + m) (xs ++ C.toList) → w.grownBy w' v.ownBlock → (v' = .slice none 0 0 ↔ v = .slice none 0 0 ∧ m = 0) → wpList P ops Q rest (a.put o.dst v') w') :
    wpList P ops Q (o :: rest) a (w.alloc (.cells C e)) := by
  obtain ⟨i0, hi, hz0, hz1, hz2⟩ := info_parts hinfo
  refine wpList_append_own _ hgd s x t ho base e i0 z size bytes ht hi hz0 hz1 hz2 hzs hsz v n xs hs (hown.alloc _) ⟨w.heap.size, 0, none⟩ m c C.toList hx (by simpa using hC) ?_ h1 h63 hbytes (by simp; omega) ?_
  · intro j u hu
    have : (⟨w.heap.size, 0, none⟩ : Addr).add j = ⟨w.heap.size, j, none⟩ := by unfold Addr.add; split <;> simp_all
    rw [this, World.cell?_alloc_at _ _ _ _ rfl]
    simpa using hu
  · intro v' w' h2 h3 h4
    exact h v' w' h2 (World.grownBy.of_alloc h3) h4

/-- One byte more. -/
theorem wpList_append_byte {P : Program} {w : World} {ops : Array Oper} {rest : List Oper} {o : Oper} {a : Act} {Q : Exit → Act → World → Prop} (hgd : o.guard = none)
    (s x : Operand) (t e : TypeId) (ho : o.op = .call { callee := .builtin .append, args := #[s, x], argTypes := #[t, t] }) (ht : P.underlying t = some (.slice e))
    (hinfo : (P.info? e).map (fun i => (i.zero, i.size, i.bytes)) = some (some (.int .u8 0), 1, 1))
    {base : Nat} {v : Value} {n : Nat} {l : List UInt8} (hs : a.eval s = v) (hown : w.ownsRow base e 1 v n (bvs l))
    {u : Value} (b : UInt8) (hu : u = bv b) (hx : a.eval x = .slice (some ⟨w.heap.size, 0, none⟩) 1 1)
    (hB : base ≤ w.heap.size) (h63 : n + 1 ≤ 140737488355328)
    (h : ∀ v' w', w'.ownsRow base e 1 v' (n + 1) (bvs (l ++ [b])) → w.grownBy w' v.ownBlock → wpList P ops Q rest (a.put o.dst v') w') :
    wpList P ops Q (o :: rest) a (w.alloc (.cells #[u] e)) := by
  subst hu
  refine wpList_append_new hgd s x t e ho ht hinfo rfl (by decide) hs hown hx rfl ?_ hB (by simp only [maxLen]; omega) (by omega) ?_
  · intro u hu; simp at hu; subst hu; rfl
  · intro v' w' h2 h3 _; exact h v' w' (by simpa [bvs_append, bvs_one] using h2) h3

theorem grownOwn {B : Nat} {w0 w w' : World} {e : TypeId} {size : Nat} {v : Value} {n : Nat} {xs : List Value} (h : Below B w0 w) (hB : B ≤ w.heap.size) (hown : w.ownsRow B e size v n xs) (hg : w.grownBy w' v.ownBlock) : Below B w0 w' :=
  h.grown hg hB fun k hk => (hown.lt k hk).1

/-- A slice that is only read: what its cells hold. -/
def RdRow (w : World) (v : Value) (n size : Nat) (cs : List Value) : Prop :=
  cs.length = n * size ∧ ∃ a cap, v = .slice a n cap ∧ n ≤ cap ∧ cap ≤ maxLen ∧ ∀ j u, cs[j]? = some u → ∃ b off, a = some ⟨b, off, none⟩ ∧ w.cell? ⟨b, off + j, none⟩ = some u

theorem RdRow.below {w w' : World} {v : Value} {n size : Nat} {cs : List Value} (h : RdRow w v n size cs) (hb : Below w.heap.size w w') : RdRow w' v n size cs := by
  obtain ⟨h1, a, cap, h2, h3, h4, h5⟩ := h
  refine ⟨h1, a, cap, h2, h3, h4, fun j u hu => ?_⟩
  obtain ⟨b, off, h6, h7⟩ := h5 j u hu
  exact ⟨b, off, h6, by rw [hb.cell (p := ⟨b, off + j, none⟩) (World.block_lt_of_cell? w ⟨b, off + j, none⟩ h7)]; exact h7⟩

theorem RdRow.of_own {w : World} {B : Nat} {e : TypeId} {v : Value} {n size : Nat} {xs : List Value} (h : w.ownsRow B e size v n xs) : RdRow w v n size xs := by
  refine ⟨h.1, ?_⟩
  rcases h.2 with ⟨rfl, rfl⟩ | ⟨g, cap, cur, rfl, hB, hg, hn, hc, hs, ht⟩
  · have : xs = [] := List.eq_nil_of_length_eq_zero (by simpa using h.1)
    subst this
    exact ⟨none, 0, rfl, Nat.le_refl _, by simp [maxLen], fun j u hu => by simp at hu⟩
  · refine ⟨_, cap, rfl, hn, hc, fun j u hu => ⟨g, 0, rfl, ?_⟩⟩
    have := h.cells (g := g) rfl j u hu
    rwa [show (⟨g, 0, none⟩ : Addr).add j = ⟨g, 0 + j, none⟩ from by unfold Addr.add; split <;> simp_all] at this

/-- 'append(s, x...)', x a slice that is only read. -/
theorem wpList_append_rd {P : Program} {w : World} {ops : Array Oper} {rest : List Oper} {o : Oper} {a : Act} {Q : Exit → Act → World → Prop} (hgd : o.guard = none)
    (s x : Operand) (t e : TypeId) (ho : o.op = .call { callee := .builtin .append, args := #[s, x], argTypes := #[t, t] }) (ht : P.underlying t = some (.slice e))
    {z : Value} {size bytes : Nat} (hinfo : (P.info? e).map (fun i => (i.zero, i.size, i.bytes)) = some (some z, size, bytes)) (hzs : z.cells.size = size) (hsz : 0 < size)
    {base : Nat} {v : Value} {n : Nat} {xs : List Value} (hs : a.eval s = v) (hown : w.ownsRow base e size v n xs)
    {u : Value} {m : Nat} {cs : List Value} (hx : a.eval x = u) (hrd : RdRow w u m size cs) (h1 : ∀ u ∈ cs, u.oneCell' = true)
    (hB : base ≤ w.heap.size) (h63 : n + m ≤ maxLen) (hbytes : (n + m) * bytes ≤ 140737488355328)
    (h : ∀ v' w', w'.ownsRow base e size v' (n + m) (xs ++ cs) → w.grownBy w' v.ownBlock → (v = .slice none 0 0 → m = 0 → v' = .slice none 0 0) → wpList P ops Q rest (a.put o.dst v') w') :
    wpList P ops Q (o :: rest) a w := by
  obtain ⟨i0, hi, hz0, hz1, hz2⟩ := info_parts hinfo
  obtain ⟨hl, ad, cap, rfl, hm, hcap, hc⟩ := hrd
  cases ad with
  | some ad =>
    refine wpList_append_own _ hgd s x t ho base e i0 z size bytes ht hi hz0 hz1 hz2 hzs hsz v n xs hs hown ad m cap cs hx hl ?_ h1 h63 hbytes hB ?_
    · intro j u hu
      obtain ⟨b, off, hb, hcc⟩ := hc j u hu
      cases hb
      rw [show (⟨b, off, none⟩ : Addr).add j = ⟨b, off + j, none⟩ from by unfold Addr.add; split <;> simp_all]
      exact hcc
    · intro v' w' h2 h3 h4
      exact h v' w' h2 h3 fun e1 e2 => h4.2 ⟨e1, e2⟩
  | none =>
    have hcs : cs = [] := by
      cases cs with
      | nil => rfl
      | cons c r => obtain ⟨b, off, hb, _⟩ := hc 0 c rfl; cases hb
    subst hcs
    have hm0 : m = 0 := by
      have : m * size = 0 := by simpa using hl.symm
      rcases Nat.mul_eq_zero.1 this with h | h <;> omega
    subst hm0
    refine wpList_plain hgd fun K hK' => ?_
    have hrun : (Builtin.append_ #[t, t] o.type #[v, .slice none 0 cap]).run P w = .ok v w := by
      obtain ⟨vl, hv⟩ := hown
      rcases hv with ⟨rfl, rfl⟩ | ⟨g, cap', cur, rfl, _, hg, hn, _⟩
      · simp [Builtin.append_, run_underlying ht, sizeOf, typeInfo, hi, Builtin.lenOf, Builtin.firstCells]
      · simp [Builtin.append_, run_underlying ht, sizeOf, typeInfo, hi, Builtin.lenOf, Builtin.firstCells, hn, storeCells]
    unfold Oper.wp
    simp [execOp, ho, resolve, invoke, builtin, hs, hx, hrun, Result.andThen]
    exact hK' _ _ (h v w (by simpa using hown) (World.grownBy.refl _ _) (fun e _ => e))

/-- Strings as cells. -/
abbrev strs (l : List (List UInt8)) : List Value := l.map fun r => Value.string ⟨r.toArray⟩
theorem strs_oneCell (l : List (List UInt8)) : ∀ u ∈ strs l, u.oneCell' = true := by
  intro u hu; obtain ⟨c, _, rfl⟩ := List.mem_map.1 hu; rfl

theorem one_str (s : ByteArray) : ∀ u ∈ (#[Value.string s] : Array Value).toList, u.oneCell' = true := by
  intro u hu; simp at hu; subst hu; rfl
theorem ownsRow_below {w w' : World} {B : Nat} {e : TypeId} {size : Nat} {v : Value} {n : Nat} {xs : List Value} (h : w.ownsRow B e size v n xs) (hb : Below w.heap.size w w') : w'.ownsRow B e size v n xs := by
  refine ⟨h.1, ?_⟩
  rcases h.2 with hn | ⟨g, cap, cur, rfl, hB, hg, rest⟩
  · exact .inl hn
  · exact .inr ⟨g, cap, cur, rfl, hB, by rw [hb.block g (Array.getElem?_eq_some_iff.1 hg).1]; exact hg, rest⟩

/-- A cell of a row of strings. -/
theorem RdRow.str {w : World} {v : Value} {n : Nat} {ss : List (List UInt8)} (h : RdRow w v n 1 (strs ss)) {k : Nat} {r : List UInt8} (hk : ss[k]? = some r) :
    ∃ b off cap, v = .slice (some ⟨b, off, none⟩) n cap ∧ w.cell? ⟨b, off + k, none⟩ = some (.string ⟨r.toArray⟩) := by
  obtain ⟨_, a, cap, rfl, _, _, hc⟩ := h
  obtain ⟨b, off, rfl, hcell⟩ := hc k (.string ⟨r.toArray⟩) (by simp [hk])
  exact ⟨b, off, cap, rfl, hcell⟩
theorem RdRow.strb {w : World} {v : Value} {n : Nat} {ss : List (List UInt8)} (h : RdRow w v n 1 (strs ss)) {k : Nat} {rb : ByteArray} (hk : ss[k]? = some rb.data.toList) :
    ∃ b off cap, v = .slice (some ⟨b, off, none⟩) n cap ∧ w.cell? ⟨b, off + k, none⟩ = some (.string rb) := by
  obtain ⟨b, off, cap, h1, h2⟩ := h.str hk
  exact ⟨b, off, cap, h1, by simpa using h2⟩
theorem RdRow.len {w : World} {v : Value} {n : Nat} {ss : List (List UInt8)} (h : RdRow w v n 1 (strs ss)) : n = ss.length := by simpa using h.1.symm
theorem RdRow.shape {w : World} {v : Value} {n size : Nat} {cs : List Value} (h : RdRow w v n size cs) : ∃ a cap, v = .slice a n cap ∧ n ≤ cap ∧ cap ≤ maxLen := by
  obtain ⟨_, a, cap, rfl, h1, h2, _⟩ := h; exact ⟨a, cap, rfl, h1, h2⟩

end Go.Proofs.YtgeabmmicofanaaGreatDoor
namespace Go.Proofs.YtgeabmmicofanaaGreatDoor

theorem bl_cons (a : UInt8) (x y : List UInt8) : Op.bytesLess (a :: x) (a :: y) = Op.bytesLess x y := by
  simp [Op.bytesLess]
theorem bl_lt {a b : UInt8} (h : a.toNat < b.toNat) (x y : List UInt8) : Op.bytesLess (a :: x) (b :: y) = true := by
  have : a < b := h
  simp [Op.bytesLess, this]
theorem bl_gt {a b : UInt8} (h : b.toNat < a.toNat) (x y : List UInt8) : Op.bytesLess (a :: x) (b :: y) = false := by
  have h1 : ¬ a < b := fun h' => by have : a.toNat < b.toNat := h'; omega
  have h2 : (a == b) = false := by rw [beq_eq_false_iff_ne]; intro e; subst e; omega
  simp [Op.bytesLess, h1, h2]
theorem bl_nil (x : List UInt8) : Op.bytesLess x [] = false := by cases x <;> rfl
theorem bl_trans : ∀ {x y z : List UInt8}, Op.bytesLess x y = true → Op.bytesLess y z = true → Op.bytesLess x z = true
  | x, [], _, h, _ => by rw [bl_nil] at h; cases h
  | _, _ :: _, [], _, k => by rw [bl_nil] at k; cases k
  | [], _ :: _, _ :: _, _, _ => rfl
  | a :: x, b :: y, c :: z, h, k => by
    rcases Nat.lt_trichotomy a.toNat b.toNat with h1 | h1 | h1
    · rcases Nat.lt_trichotomy b.toNat c.toNat with h2 | h2 | h2
      · exact bl_lt (by omega) _ _
      · exact bl_lt (by omega) _ _
      · rw [bl_gt h2] at k; cases k
    · obtain rfl : a = b := UInt8.toNat_inj.1 h1
      rcases Nat.lt_trichotomy a.toNat c.toNat with h2 | h2 | h2
      · exact bl_lt h2 _ _
      · obtain rfl : a = c := UInt8.toNat_inj.1 h2
        rw [bl_cons] at h k ⊢
        exact bl_trans h k
      · rw [bl_gt h2] at k; cases k
    · rw [bl_gt h1] at h; cases h
theorem bl_irrefl : ∀ (x : List UInt8), Op.bytesLess x x = false
  | [] => rfl
  | a :: x => by rw [bl_cons]; exact bl_irrefl x
theorem bl_total : ∀ {x y : List UInt8}, Op.bytesLess x y = false → x ≠ y → Op.bytesLess y x = true
  | [], [], _, h => absurd rfl h
  | [], b :: y, h, _ => by simp [Op.bytesLess] at h
  | a :: x, [], _, _ => rfl
  | a :: x, b :: y, h, hn => by
    rcases Nat.lt_trichotomy a.toNat b.toNat with h1 | h1 | h1
    · rw [bl_lt h1] at h; cases h
    · obtain rfl : a = b := UInt8.toNat_inj.1 h1
      rw [bl_cons] at h ⊢
      exact bl_total h fun e => hn (by rw [e])
    · exact bl_lt h1 _ _
abbrev LtW (a b : List UInt8) : Prop := Op.bytesLess a b = true
theorem LtW.ne {a b : List UInt8} (h : LtW a b) : a ≠ b := fun e => by subst e; rw [LtW, bl_irrefl] at h; cases h
theorem LtW.not {a b : List UInt8} (h : LtW a b) : Op.bytesLess b a = false := by
  cases hb : Op.bytesLess b a with
  | false => rfl
  | true => exact absurd rfl (LtW.ne (bl_trans h hb))
/-- Each text above all that are ahead of it. -/
def RisesL (L : List (List UInt8)) : Prop := L.Pairwise LtW
theorem RisesL.nodup {L : List (List UInt8)} (h : RisesL L) : L.Nodup := List.Pairwise.imp (fun h => LtW.ne h) h
/-- Two lists that rise with the same texts are one. -/
theorem RisesL.ext : ∀ {a b : List (List UInt8)}, RisesL a → RisesL b → (∀ x, x ∈ a ↔ x ∈ b) → a = b
  | [], [], _, _, _ => rfl
  | [], y :: b, _, _, h => by have := (h y).2 (by simp); simp at this
  | x :: a, [], _, _, h => by have := (h x).1 (by simp); simp at this
  | x :: a, y :: b, ha, hb, h => by
    obtain ⟨ha1, ha2⟩ := List.pairwise_cons.1 ha
    obtain ⟨hb1, hb2⟩ := List.pairwise_cons.1 hb
    have hxy : x = y := by
      rcases List.mem_cons.1 ((h x).1 (by simp)) with h1 | h1
      · exact h1
      · rcases List.mem_cons.1 ((h y).2 (by simp)) with h2 | h2
        · exact h2.symm
        · exact absurd rfl (LtW.ne (bl_trans (hb1 x h1) (ha1 y h2)))
    subst hxy
    rw [RisesL.ext ha2 hb2 fun z => ?_]
    constructor
    · intro hz
      rcases List.mem_cons.1 ((h z).1 (by simp [hz])) with h1 | h1
      · subst h1; exact absurd rfl (LtW.ne (ha1 z hz))
      · exact h1
    · intro hz
      rcases List.mem_cons.1 ((h z).2 (by simp [hz])) with h1 | h1
      · subst h1; exact absurd rfl (LtW.ne (hb1 z hz))
      · exact h1

/-! ### Merged -/

/-- Two rising lists as one, each text once. -/
def mergeL : List (List UInt8) → List (List UInt8) → List (List UInt8)
  | [], b => b
  | x :: a, [] => x :: a
  | x :: a, y :: b => if Op.bytesLess x y = true then x :: mergeL a (y :: b) else if x = y then y :: mergeL a b else y :: mergeL (x :: a) b
termination_by a b => a.length + b.length
theorem mergeL_nil (b : List (List UInt8)) : mergeL [] b = b := by rw [mergeL]
theorem mergeL_end : ∀ (a : List (List UInt8)), mergeL a [] = a
  | [] => by rw [mergeL]
  | x :: a => by rw [mergeL]
theorem mergeL_lt {x y : List UInt8} (h : Op.bytesLess x y = true) (a b : List (List UInt8)) : mergeL (x :: a) (y :: b) = x :: mergeL a (y :: b) := by rw [mergeL, if_pos h]
theorem mergeL_eq {x y : List UInt8} (h : x = y) (a b : List (List UInt8)) : mergeL (x :: a) (y :: b) = y :: mergeL a b := by
  rw [mergeL, if_neg (by rw [h, bl_irrefl]; simp), if_pos h]
theorem mergeL_gt {x y : List UInt8} (h : Op.bytesLess x y = false) (hn : x ≠ y) (a b : List (List UInt8)) : mergeL (x :: a) (y :: b) = y :: mergeL (x :: a) b := by
  rw [mergeL, if_neg (by rw [h]; simp), if_neg hn]
theorem mergeL_mem : ∀ (a b : List (List UInt8)) (z : List UInt8), z ∈ mergeL a b ↔ z ∈ a ∨ z ∈ b
  | [], b, z => by rw [mergeL_nil]; simp
  | x :: a, [], z => by rw [mergeL_end]; simp
  | x :: a, y :: b, z => by
    by_cases h : Op.bytesLess x y = true
    · rw [mergeL_lt h, List.mem_cons, mergeL_mem a (y :: b) z]; simp only [List.mem_cons]; exact (or_assoc).symm
    · have h0 : Op.bytesLess x y = false := by simpa using h
      by_cases e : x = y
      · rw [mergeL_eq e, List.mem_cons, mergeL_mem a b z]
        subst e
        simp only [List.mem_cons]
        constructor
        · rintro (h | h | h)
          · exact .inl (.inl h)
          · exact .inl (.inr h)
          · exact .inr (.inr h)
        · rintro ((h | h) | h | h)
          · exact .inl h
          · exact .inr (.inl h)
          · exact .inl h
          · exact .inr (.inr h)
      · rw [mergeL_gt h0 e, List.mem_cons, mergeL_mem (x :: a) b z]
        simp only [List.mem_cons]
        constructor
        · rintro (h | (h | h) | h)
          · exact .inr (.inl h)
          · exact .inl (.inl h)
          · exact .inl (.inr h)
          · exact .inr (.inr h)
        · rintro ((h | h) | h | h)
          · exact .inr (.inl (.inl h))
          · exact .inr (.inl (.inr h))
          · exact .inl h
          · exact .inr (.inr h)
termination_by a b => a.length + b.length
theorem mergeL_rises : ∀ {a b : List (List UInt8)}, RisesL a → RisesL b → RisesL (mergeL a b)
  | [], b, _, h => by rw [mergeL_nil]; exact h
  | x :: a, [], h, _ => by rw [mergeL_end]; exact h
  | x :: a, y :: b, ha, hb => by
    obtain ⟨ha1, ha2⟩ := List.pairwise_cons.1 ha
    obtain ⟨hb1, hb2⟩ := List.pairwise_cons.1 hb
    by_cases h : Op.bytesLess x y = true
    · rw [mergeL_lt h]
      refine List.pairwise_cons.2 ⟨fun z hz => ?_, mergeL_rises ha2 hb⟩
      rcases (mergeL_mem _ _ z).1 hz with h1 | h1
      · exact ha1 z h1
      · rcases List.mem_cons.1 h1 with h1 | h1
        · subst h1; exact h
        · exact bl_trans h (hb1 z h1)
    · have h0 : Op.bytesLess x y = false := by simpa using h
      by_cases e : x = y
      · rw [mergeL_eq e]
        refine List.pairwise_cons.2 ⟨fun z hz => ?_, mergeL_rises ha2 hb2⟩
        rcases (mergeL_mem _ _ z).1 hz with h1 | h1
        · subst e; exact ha1 z h1
        · exact hb1 z h1
      · rw [mergeL_gt h0 e]
        have hyx : LtW y x := bl_total h0 e
        refine List.pairwise_cons.2 ⟨fun z hz => ?_, mergeL_rises ha hb2⟩
        rcases (mergeL_mem _ _ z).1 hz with h1 | h1
        · rcases List.mem_cons.1 h1 with h1 | h1
          · subst h1; exact hyx
          · exact bl_trans hyx (ha1 z h1)
        · exact hb1 z h1
termination_by a b => a.length + b.length
theorem mergeL_len : ∀ (a b : List (List UInt8)), (mergeL a b).length ≤ a.length + b.length
  | [], b => by rw [mergeL_nil]; simp
  | x :: a, [] => by rw [mergeL_end]; simp
  | x :: a, y :: b => by
    by_cases h : Op.bytesLess x y = true
    · rw [mergeL_lt h]
      have := mergeL_len a (y :: b)
      simp only [List.length_cons] at this ⊢
      omega
    · have h0 : Op.bytesLess x y = false := by simpa using h
      by_cases e : x = y
      · rw [mergeL_eq e]
        have := mergeL_len a b
        simp only [List.length_cons]
        omega
      · rw [mergeL_gt h0 e]
        have := mergeL_len (x :: a) b
        simp only [List.length_cons] at this ⊢
        omega
termination_by a b => a.length + b.length

/-! ### Sorted, each once -/

def ofL : List (List UInt8) → List (List UInt8)
  | [] => []
  | [x] => [x]
  | x :: y :: l => mergeL (ofL ((x :: y :: l).take ((x :: y :: l).length / 2))) (ofL ((x :: y :: l).drop ((x :: y :: l).length / 2)))
termination_by l => l.length
decreasing_by
  · simp only [List.length_take, List.length_cons]; omega
  · simp only [List.length_drop, List.length_cons]; omega
theorem ofL_nil : ofL [] = [] := by rw [ofL]
theorem ofL_one (x : List UInt8) : ofL [x] = [x] := by rw [ofL]
theorem ofL_two {L : List (List UInt8)} (h : 2 ≤ L.length) : ofL L = mergeL (ofL (L.take (L.length / 2))) (ofL (L.drop (L.length / 2))) := by
  match L, h with
  | x :: y :: l, _ => rw [ofL]
theorem ofL_mem (L : List (List UInt8)) : ∀ z, z ∈ ofL L ↔ z ∈ L := by
  induction hn : L.length using Nat.strongRecOn generalizing L with
  | ind n ih =>
    intro z
    match L, hn with
    | [], _ => rw [ofL_nil]
    | [x], _ => rw [ofL_one]
    | x :: y :: l, hn =>
      rw [ofL_two (by simp), mergeL_mem]
      rw [ih _ (by simp only [List.length_take, List.length_cons] at hn ⊢; omega) _ rfl z, ih _ (by simp only [List.length_drop, List.length_cons] at hn ⊢; omega) _ rfl z, ← List.mem_append, List.take_append_drop]
theorem ofL_rises (L : List (List UInt8)) : RisesL (ofL L) := by
  induction hn : L.length using Nat.strongRecOn generalizing L with
  | ind n ih =>
    match L, hn with
    | [], _ => rw [ofL_nil]; exact List.Pairwise.nil
    | [x], _ => rw [ofL_one]; exact List.pairwise_singleton _ _
    | x :: y :: l, hn =>
      rw [ofL_two (by simp)]
      exact mergeL_rises (ih _ (by simp only [List.length_take, List.length_cons] at hn ⊢; omega) _ rfl) (ih _ (by simp only [List.length_drop, List.length_cons] at hn ⊢; omega) _ rfl)
theorem ofL_len (L : List (List UInt8)) : (ofL L).length ≤ L.length := by
  induction hn : L.length using Nat.strongRecOn generalizing L with
  | ind n ih =>
    match L, hn with
    | [], _ => rw [ofL_nil]; simp
    | [x], hn => rw [ofL_one]; simpa using Nat.le_of_eq hn
    | x :: y :: l, hn =>
      rw [ofL_two (by simp)]
      have h1 := mergeL_len (ofL ((x :: y :: l).take ((x :: y :: l).length / 2))) (ofL ((x :: y :: l).drop ((x :: y :: l).length / 2)))
      have h2 := ih ((x :: y :: l).take ((x :: y :: l).length / 2)).length (by simp only [List.length_take, List.length_cons] at hn ⊢; omega) _ rfl
      have h3 := ih ((x :: y :: l).drop ((x :: y :: l).length / 2)).length (by simp only [List.length_drop, List.length_cons] at hn ⊢; omega) _ rfl
      have h4 : ((x :: y :: l).take ((x :: y :: l).length / 2)).length + ((x :: y :: l).drop ((x :: y :: l).length / 2)).length = (x :: y :: l).length := by rw [← List.length_append, List.take_append_drop]
      omega

/-! ### Asked, cut -/

/-- How many texts are below w. -/
def belowL (L : List (List UInt8)) (w : List UInt8) : Nat := (L.takeWhile fun x => Op.bytesLess x w).length
def minusL (a b : List (List UInt8)) : List (List UInt8) := a.filter fun x => decide (x ∉ b)
def commonW (a b : List (List UInt8)) : List (List UInt8) := a.filter fun x => decide (x ∈ b)
def fromL (a : List (List UInt8)) (w : List UInt8) : List (List UInt8) := a.drop (belowL a w)
theorem belowL_le (L : List (List UInt8)) (w : List UInt8) : belowL L w ≤ L.length := (List.takeWhile_sublist _).length_le
theorem rises_get {L : List (List UInt8)} (h : RisesL L) {i j : Nat} (hij : i < j) {x y : List UInt8} (hx : L[i]? = some x) (hy : L[j]? = some y) : LtW x y := by
  obtain ⟨hi, rfl⟩ := List.getElem?_eq_some_iff.1 hx
  obtain ⟨hj, rfl⟩ := List.getElem?_eq_some_iff.1 hy
  exact List.pairwise_iff_getElem.1 h i j hi hj hij
/-- The texts below w are those ahead of this place. -/
theorem belowL_iff {L : List (List UInt8)} (h : RisesL L) (w : List UInt8) : ∀ (i : Nat) (x : List UInt8), L[i]? = some x → (i < belowL L w ↔ LtW x w) := by
  unfold belowL
  induction L with
  | nil => intro i x hx; simp at hx
  | cons a L ih =>
    obtain ⟨h1, h2⟩ := List.pairwise_cons.1 h
    intro i x hx
    simp only [List.takeWhile_cons]
    cases hb : Op.bytesLess a w with
    | true =>
      simp only [if_true, List.length_cons]
      cases i with
      | zero => simp at hx; subst hx; simp [LtW, hb]
      | succ i =>
        have := ih h2 i x (by simpa using hx)
        rw [← this]
        omega
    | false =>
      simp only [Bool.false_eq_true, if_false, List.length_nil]
      constructor
      · intro h; omega
      · intro hxw
        cases i with
        | zero => simp at hx; subst hx; rw [LtW, hb] at hxw; cases hxw
        | succ i =>
          have := h1 x (List.mem_of_getElem? (by simpa using hx))
          have := bl_trans this hxw
          rw [hb] at this
          cases this
theorem minusL_rises {a : List (List UInt8)} (h : RisesL a) (b : List (List UInt8)) : RisesL (minusL a b) := List.Pairwise.filter _ h
theorem commonW_rises {a : List (List UInt8)} (h : RisesL a) (b : List (List UInt8)) : RisesL (commonW a b) := List.Pairwise.filter _ h
theorem fromL_rises {a : List (List UInt8)} (h : RisesL a) (w : List UInt8) : RisesL (fromL a w) := List.Pairwise.drop h
/-- The texts up to the first that does not rise. -/
def risingL : List (List UInt8) → List (List UInt8)
  | [] => []
  | [x] => [x]
  | x :: y :: l => if Op.bytesLess x y = true then x :: risingL (y :: l) else [x]
theorem has_none {L : List (List UInt8)} {w : List UInt8} (hb : ∀ y ∈ L, LtW y w) : decide (w ∈ L) = false := by
  rw [decide_eq_false_iff_not]
  exact fun h => absurd rfl (LtW.ne (hb w h))
/-- The first of M that is not below x is x, just where x is in M. -/
theorem mem_at {M : List (List UInt8)} (hM : RisesL M) {i : Nat} {x y : List UInt8} (hb : ∀ z ∈ M.take i, LtW z x) (hy : M[i]? = some y) (hyx : Op.bytesLess y x = false) : decide (x ∈ M) = (y == x) := by
  by_cases e : y = x
  · subst e
    simp [List.mem_of_getElem? hy]
  · rw [beq_eq_false_iff_ne.2 e, decide_eq_false_iff_not]
    intro hm
    obtain ⟨j, hj⟩ := List.mem_iff_getElem?.1 hm
    rcases Nat.lt_trichotomy j i with h1 | h1 | h1
    · have h2 : x ∈ M.take i := List.mem_of_getElem? (i := j) (by rw [List.getElem?_take_of_lt h1]; exact hj)
      exact absurd rfl (LtW.ne (hb x h2))
    · subst h1; rw [hj] at hy; cases hy; exact e rfl
    · have := rises_get hM h1 hy hj
      rw [LtW, hyx] at this
      cases this
theorem mem_end {M : List (List UInt8)} {x : List UInt8} (hb : ∀ z ∈ M, LtW z x) : decide (x ∈ M) = false := has_none hb
end Go.Proofs.YtgeabmmicofanaaGreatDoor
namespace Go.Proofs.YtgeabmmicofanaaGreatDoor

/-- Is x above the one ahead of it? -/
def upQ (o : Option (List UInt8)) (x : List UInt8) : Bool := match o with | none => true | some y => Op.bytesLess y x
/-- The texts of the list up to the first that does not rise; o is the one ahead of it. -/
def risB : Option (List UInt8) → List (List UInt8) → List (List UInt8)
  | _, [] => []
  | o, x :: l => if upQ o x = true then x :: risB (some x) l else []
theorem risB_yes {o : Option (List UInt8)} {x : List UInt8} (h : upQ o x = true) (l : List (List UInt8)) : risB o (x :: l) = x :: risB (some x) l := by rw [risB, if_pos h]
theorem risB_no {o : Option (List UInt8)} {x : List UInt8} (h : upQ o x = false) (l : List (List UInt8)) : risB o (x :: l) = [] := by rw [risB, if_neg (by simp [h])]
theorem risB_above : ∀ (o : Option (List UInt8)) (l : List (List UInt8)), (∀ y, o = some y → ∀ z ∈ risB o l, LtW y z) ∧ RisesL (risB o l)
  | o, [] => ⟨fun _ _ z hz => by simp [risB] at hz, List.Pairwise.nil⟩
  | o, x :: l => by
    cases h : upQ o x with
    | false => rw [risB_no h]; exact ⟨fun _ _ z hz => by simp at hz, List.Pairwise.nil⟩
    | true =>
      have ih := risB_above (some x) l
      rw [risB_yes h]
      refine ⟨fun y hy z hz => ?_, List.pairwise_cons.2 ⟨ih.1 x rfl, ih.2⟩⟩
      subst hy
      rcases List.mem_cons.1 hz with rfl | hz
      · exact h
      · exact bl_trans (show LtW y x from h) (ih.1 x rfl z hz)
theorem risB_rises (o : Option (List UInt8)) (l : List (List UInt8)) : RisesL (risB o l) := (risB_above o l).2
theorem risB_len : ∀ (o : Option (List UInt8)) (l : List (List UInt8)), (risB o l).length ≤ l.length
  | _, [] => by simp [risB]
  | o, x :: l => by
    rw [risB]
    split
    · have := risB_len (some x) l; simp only [List.length_cons]; omega
    · simp
/-- k texts have risen. -/
def RisAt (L : List (List UInt8)) (k : Nat) : Prop := k ≤ L.length ∧ risB none L = L.take k ++ risB (if k = 0 then none else L[k - 1]?) (L.drop k)
theorem RisAt.start (L : List (List UInt8)) : RisAt L 0 := ⟨Nat.zero_le _, by simp⟩
theorem RisAt.done {L : List (List UInt8)} {k : Nat} (h : RisAt L k) (hk : ¬ k < L.length) : risB none L = L.take k ∧ k = L.length := by
  have h1 := h.1
  refine ⟨?_, by omega⟩
  rw [h.2, List.drop_eq_nil_of_le (by omega)]
  cases (if k = 0 then none else L[k - 1]?) <;> simp [risB]
theorem RisAt.up {L : List (List UInt8)} {k : Nat} {x : List UInt8} (h : RisAt L k) (hx : L[k]? = some x) (hu : upQ (if k = 0 then none else L[k - 1]?) x = true) : RisAt L (k + 1) := by
  have hlt := (List.getElem?_eq_some_iff.1 hx).1
  refine ⟨hlt, ?_⟩
  have hd : L.drop k = x :: L.drop (k + 1) := by rw [List.drop_eq_getElem_cons hlt, ← Option.some.inj (hx.symm.trans (List.getElem?_eq_getElem hlt))]
  have ht : L.take (k + 1) = L.take k ++ [x] := by rw [List.take_add_one, hx]; rfl
  rw [h.2, hd, risB_yes hu, ht, if_neg (by omega), Nat.add_sub_cancel, hx, List.append_assoc]; rfl
theorem RisAt.stop {L : List (List UInt8)} {k : Nat} {x : List UInt8} (h : RisAt L k) (hx : L[k]? = some x) (hu : upQ (if k = 0 then none else L[k - 1]?) x = false) : risB none L = L.take k := by
  have hlt := (List.getElem?_eq_some_iff.1 hx).1
  have hd : L.drop k = x :: L.drop (k + 1) := by rw [List.drop_eq_getElem_cons hlt, ← Option.some.inj (hx.symm.trans (List.getElem?_eq_getElem hlt))]
  rw [h.2, hd, risB_no hu, List.append_nil]
theorem RisAt.pre {L : List (List UInt8)} {k : Nat} (h : RisAt L k) : L.take k <+: risB none L := ⟨_, h.2.symm⟩
theorem RisAt.len {L : List (List UInt8)} {k : Nat} (h : RisAt L k) : (L.take k).length = k := by rw [List.length_take]; exact Nat.min_eq_left h.1
end Go.Proofs.YtgeabmmicofanaaGreatDoor
