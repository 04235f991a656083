/- (*hornbooklaw06.world).raw walked (begun). · (*hornbooklaw06.world).raw walked: Create succeeds. -/
import Derived.Test.YtiimpnhjnodgpaaDoorBuRecPlaysLaw28
import Derived.Test.YtiimpnhjnodgpaaDoorBuRecPlaysLaw21
import Derived.Test.YtiimpnhjnodgpaaDoorBuRecPlaysLaw12
import Derived.Test.YtiimpnhjnodgpaaDoorBuRecPlaysLaw29
import Derived.Test.YtiimpnhjnodgpaaDoorBuRecPlaysLaw36
import Derived.Deep.DeepCutAuto
import Derived.Deep.RegionHeld3
set_option linter.unusedSimpArgs false
set_option linter.unusedVariables false
namespace Go.Proofs.YtiimpnhjnodgpaaDoor
open Go.RowKit

abbrev tWld : TypeId := 53
abbrev tOp6 : TypeId := 56
abbrev wldC (sb rb : Nat) (a b c d : Value) : Array Value := #[.pointer (some ⟨sb, 0, none⟩), a, b, .pointer (some ⟨rb, 0, none⟩), c, d]
abbrev noAn : Array Value := #[.int .i64 0, .int .i64 0, .string ⟨#[]⟩, .bool false, .slice none 0 0]
def rawP (S : St) (ss : List (List UInt8)) : St × Nat × Nat :=
  if (createP S).2.2 ≠ 0 then ((createP S).1, (createP S).2.1, (createP S).2.2) else
  if (appendP (createP S).1 (createP S).2.1 (cat ss)).2 ≠ 0 then ((appendP (createP S).1 (createP S).2.1 (cat ss)).1, (createP S).2.1, (appendP (createP S).1 (createP S).2.1 (cat ss)).2) else
  ((sealP (appendP (createP S).1 (createP S).2.1 (cat ss)).1 (createP S).2.1).1, (createP S).2.1, (sealP (appendP (createP S).1 (createP S).2.1 (cat ss)).1 (createP S).2.1).2)
section
variable {W w : World} {R : Thing} {kx sb rb : Nat} {ef : Nat → Nat × Nat} {S : St} {a b c d : Value}
/-- The boxed call and four answers. -/
theorem At.five6 {Φ : Thing} (h : At W w Φ) (hs : Stable Φ) (C : Array Value) :
    At W (((((w.alloc (.cells C tOp6)).alloc (.cells noAn tAn6)).alloc (.cells noAn tAn6)).alloc (.cells noAn tAn6)).alloc (.cells noAn tAn6))
      (Both (CellT (w.heap.size + 1 + 1 + 1 + 1) noAn tAn6) (Both (CellT (w.heap.size + 1 + 1 + 1) noAn tAn6) (Both (CellT (w.heap.size + 1 + 1) noAn tAn6) (Both (CellT (w.heap.size + 1) noAn tAn6) (Both (CellT w.heap.size C tOp6) Φ))))) := by
  have s0 := (CellT.stable w.heap.size C tOp6).both hs
  have h1 := h.newCell hs C tOp6
  have h2 := h1.newCell s0 noAn tAn6
  have e2 : (w.alloc (.cells C tOp6)).heap.size = w.heap.size + 1 := by simp
  rw [e2] at h2
  have s1 := (CellT.stable (w.heap.size + 1) noAn tAn6).both s0
  have h3 := h2.newCell s1 noAn tAn6
  have e3 : ((w.alloc (.cells C tOp6)).alloc (.cells noAn tAn6)).heap.size = w.heap.size + 1 + 1 := by simp
  rw [e3] at h3
  have s2 := (CellT.stable (w.heap.size + 1 + 1) noAn tAn6).both s1
  have h4 := h3.newCell s2 noAn tAn6
  have e4 : (((w.alloc (.cells C tOp6)).alloc (.cells noAn tAn6)).alloc (.cells noAn tAn6)).heap.size = w.heap.size + 1 + 1 + 1 := by simp
  rw [e4] at h4
  have s3 := (CellT.stable (w.heap.size + 1 + 1 + 1) noAn tAn6).both s2
  have h5 := h4.newCell s3 noAn tAn6
  have e5 : ((((w.alloc (.cells C tOp6)).alloc (.cells noAn tAn6)).alloc (.cells noAn tAn6)).alloc (.cells noAn tAn6)).heap.size = w.heap.size + 1 + 1 + 1 + 1 := by simp
  rw [e5] at h5
  exact h5
theorem five6_stable {Φ : Thing} (hs : Stable Φ) (n : Nat) (C C1 C2 C3 C4 : Array Value) :
    Stable (Both (CellT (n + 1 + 1 + 1 + 1) C4 tAn6) (Both (CellT (n + 1 + 1 + 1) C3 tAn6) (Both (CellT (n + 1 + 1) C2 tAn6) (Both (CellT (n + 1) C1 tAn6) (Both (CellT n C tOp6) Φ))))) :=
  (CellT.stable _ _ _).both ((CellT.stable _ _ _).both ((CellT.stable _ _ _).both ((CellT.stable _ _ _).both ((CellT.stable _ _ _).both hs))))
theorem Both.pullS {A B C : Thing} (hc : ∀ {w : World} {fp : List Nat}, B w fp → Both C A w fp) {D : Thing} {w : World} {fp : List Nat} (h : Both D B w fp) : Both C (Both D A) w fp := Both.assoc (Both.mono (fun _ _ q => hc q) h)
/-- The seventh thing to the front. -/
theorem At.seventh {A1 A2 A3 A4 A5 A6 B C : Thing} (h : At W w (Both A1 (Both A2 (Both A3 (Both A4 (Both A5 (Both A6 (Both B C)))))))) : At W w (Both B (Both A1 (Both A2 (Both A3 (Both A4 (Both A5 (Both A6 C))))))) :=
  h.impl fun _ q => Both.pullS (Both.pullS (Both.pullS (Both.pullS (Both.pullS (fun q => Both.assoc q))))) q
theorem At.back7 {A1 A2 A3 A4 A5 A6 B C : Thing} (h : At W w (Both B (Both A1 (Both A2 (Both A3 (Both A4 (Both A5 (Both A6 C)))))))) : At W w (Both A1 (Both A2 (Both A3 (Both A4 (Both A5 (Both A6 (Both B C))))))) :=
  h.impl fun _ q => Both.mono (fun _ _ q => Both.mono (fun _ _ q => Both.mono (fun _ _ q => Both.mono (fun _ _ q => Both.mono (fun _ _ q => q.assoc) q.assoc) q.assoc) q.assoc) q.assoc) q.assoc
theorem At.loseU {W w w' : World} {Ψ Φ : Thing} (h : At W w (Both Ψ Φ)) (ks : List Nat) (hs : Stable Φ) (hk : ∀ fp, Ψ w fp → ∀ k ∈ ks, k ∈ fp) (hu : Upd ks w w') : At W w' Φ := by
  obtain ⟨hb, fp, ⟨f, g, h1, h2, h3, h4⟩, h5⟩ := h
  have u := hu.mono (hk f h1)
  have hg := hs.lt _ _ h2
  exact ⟨hb.trans (u.below hb.size fun k hk => h5 k ((h4 k).2 (.inl hk))), g, hs.same _ _ _ h2 fun k hk => u.block k (hg k hk) (fun hm => h3 k hm hk), fun k hk => h5 k ((h4 k).2 (.inr hk))⟩
theorem Both.memL {A B : Thing} {w : World} {fp : List Nat} {k : Nat} (hA : ∀ f, A w f → k ∈ f) (h : Both A B w fp) : k ∈ fp := by
  obtain ⟨f, g, h1, _, _, h4⟩ := h
  exact (h4 k).2 (.inl (hA f h1))
theorem Both.memR {A B : Thing} {w : World} {fp : List Nat} {k : Nat} (hB : ∀ f, B w f → k ∈ f) (h : Both A B w fp) : k ∈ fp := by
  obtain ⟨f, g, _, h2, _, h4⟩ := h
  exact (h4 k).2 (.inr (hB g h2))
theorem CellT.mem {k : Nat} {C : Array Value} {T : TypeId} {w : World} (fp : List Nat) (h : CellT k C T w fp) : k ∈ fp := by
  obtain ⟨_, rfl⟩ := h
  simp
theorem cellsT_mem {w : World} {fp : List Nat} {k1 k2 k3 k4 k5 : Nat} {C1 C2 C3 C4 C5 : Array Value} {T1 T2 T3 T4 T5 : TypeId} (h : Both (CellT k1 C1 T1) (Both (CellT k2 C2 T2) (Both (CellT k3 C3 T3) (Both (CellT k4 C4 T4) (CellT k5 C5 T5)))) w fp) : ∀ k ∈ [k3, k2, k1], k ∈ fp := by
  intro k hk
  simp only [List.mem_cons, List.not_mem_nil, or_false] at hk
  rcases hk with rfl | rfl | rfl
  · exact Both.memR (fun _ q => Both.memR (fun _ q => Both.memL CellT.mem q) q) h
  · exact Both.memR (fun _ q => Both.memL CellT.mem q) h
  · exact Both.memL CellT.mem h
theorem five_at {w : World} {k : Nat} {a b c d e : Value} {T : TypeId} (h : w.heap[k]? = some (.cells #[a, b, c, d, e] T (0, 0))) :
    w.cell? ⟨k, 0, none⟩ = some a ∧ w.cell? ⟨k, 1, none⟩ = some b ∧ w.cell? ⟨k, 2, none⟩ = some c ∧ w.cell? ⟨k, 3, none⟩ = some d ∧ w.cell? ⟨k, 4, none⟩ = some e :=
  ⟨cell_at h 0, cell_at h 1, cell_at h 2, cell_at h 3, cell_at h 4⟩
set_option maxRecDepth 100000 in
set_option maxHeartbeats 3200000 in
theorem raw_fail (h : At W w (Both (CellT kx (wldC sb rb a b c d) tWld) (Both (StoreT sb S) (Both (RefT rb S) R)))) (hR : Stable R) (hF : Fails W ef fails12) (hG : GoodS S) (o1 o2 o3 : Int) (v : Value) (hc : (createP S).2.2 ≠ 0) :
    Calls Tryd.prog 38 #[.pointer (some ⟨kx, 0, none⟩), .agg #[.int .i64 o1, .int .i64 o2, .int .i64 o3, v]] w fun e w' => e = .returned (.tuple #[an6V ⟨((createP S).2.1 : Nat), (createP S).2.2, [], false, []⟩ (.slice none 0 0), an6V ⟨((createP S).2.1 : Nat), (createP S).2.2, [], false, []⟩ (.slice none 0 0)]) ∧ At W w' (Both (CellT kx (wldC sb rb a b c d) tWld) (Both (StoreT sb (createP S).1) (Both (RefT rb (createP S).1) R))) := by
  have hst0 := (CellT.stable kx (wldC sb rb a b c d) tWld).both ((StoreT.stable sb S).both ((RefT.stable rb S).both hR))
  have h5 := (h.five6 hst0 #[.int .i64 o1, .int .i64 o2, .int .i64 o3, v]).seventh
  have hcr := Create_7 h5 (five6_stable ((CellT.stable kx (wldC sb rb a b c d) tWld).both ((RefT.stable rb S).both hR)) w.heap.size _ _ _ _ _) (fails11_7 (fails12_11 hF))
  rw [errV_pos ef hc] at hcr
  have hcg := (h.five6 hst0 #[.int .i64 o1, .int .i64 o2, .int .i64 o3, v]).drop.drop.drop.drop.drop.cell.1
  have c0 := cell_at hcg 0
  have hkx := lt_of_heap h.cell.1
  have HCR := Lib.hid hcr
  have hrc := fun (w' : World) (X : Thing) (hX : Stable X) (h' : At W w' (Both (RefT rb S) X)) => rCreate_at h' hX hG
  have hok : okC (createP S).2.2 := by
    unfold createP
    split
    · exact okC_of (.inr (.inr (.inr (.inr (.inl rfl)))))
    · split
      · exact okC_of (.inr (.inr (.inr (.inr (.inr (.inr (.inr rfl)))))))
      · exact okC_zero
  have hcode := fun (w' : World) (hb : Below W.heap.size W w') => code6_calls ((fails12_11 hF).below hb) hok
  rw [errV_pos ef hc] at hcode
  have HRC := Lib.hid hrc
  have HCO := Lib.hid hcode
  have HC := Lib.hid hc
  generalize (createP S).1 = S1 at *
  generalize (createP S).2.1 = r at *
  generalize (createP S).2.2 = q at *
  have eqi : ∀ wz : World, (binOp .eql tErr (.iface tES (.pointer (some ⟨(ef q).1, (ef q).2, none⟩))) .nilIface).run Tryd.prog wz = .ok (.bool false) wz := fun wz => by
    have := eql_errV ef HC.out wz
    rwa [errV_pos ef HC.out] at this
  have hqz : ((q : Int) == 0) = false := beq_eq_false_iff_ne.2 (by have := HC.out; omega)
  have HR := Lib.hid hR
  clear h hst0 h5 hcr hcg hrc hcode hok hc hR hF hG
  go_enter Tryd.func38, Tryd.ntmps38
  (repeat' (first | (go_big_may; fail) | go_values | go_skip | go_guarded | go_step | go_upon | go_back | dsimp only))
  refine HCR.out.mono ?_
  rintro e w1 ⟨rfl, h6⟩
  have h7 := h6.back7
  have H7 := Lib.hid h7
  have x7 := h7.cell.1
  have x6 := h7.swap.cell.1
  have a0 := cell_at x7 0; have a1 := cell_at x7 1; have f7 := thaw_at x7; have l7 := lt_of_heap x7
  have b0 := cell_at x6 0; have b1 := cell_at x6 1; have f6 := thaw_at x6; have l6 := lt_of_heap x6
  have hb1 := h7.below
  have cx := cell_at h7.drop.drop.drop.drop.drop.cell.1 3
  clear h6 h7 x7 x6 HCR c0
  generalize w.heap.size = s at *
  have hn1 : ¬ kx = s + 1 + 1 + 1 := by omega
  have hn2 : ¬ s + 1 + 1 + 1 = kx := by omega
  have hn3 : ¬ kx = s + 1 + 1 + 1 + 1 := by omega
  have hn4 : ¬ s + 1 + 1 + 1 + 1 = kx := by omega
  (repeat' (first | (go_big_may; fail) | go_values | go_skip | go_guarded | go_step | go_upon | go_back | dsimp only))
  refine (HCO.out _ hb1).mono ?_
  rintro e w2 ⟨rfl, rfl⟩
  (repeat' (first | (go_big_may; fail) | go_values | go_skip | go_guarded | go_step | go_upon | go_back | dsimp only))
  have hst7 := five6_stable ((CellT.stable kx (wldC sb rb a b c d) tWld).both ((StoreT.stable sb S1).both ((RefT.stable rb S).both HR.out))) s #[.int .i64 o1, .int .i64 o2, .int .i64 o3, v] noAn noAn noAn noAn
  have h8 := (((H7.out.swap.swap.swap).setCell ((CellT.stable (s + 1 + 1 + 1 + 1) noAn tAn6).both ((CellT.stable _ _ _).both ((CellT.stable _ _ _).both ((CellT.stable _ _ _).both ((CellT.stable kx (wldC sb rb a b c d) tWld).both ((StoreT.stable sb S1).both ((RefT.stable rb S).both HR.out))))))) 0 (.int .i64 r)).setCell ((CellT.stable (s + 1 + 1 + 1 + 1) noAn tAn6).both ((CellT.stable _ _ _).both ((CellT.stable _ _ _).both ((CellT.stable _ _ _).both ((CellT.stable kx (wldC sb rb a b c d) tWld).both ((StoreT.stable sb S1).both ((RefT.stable rb S).both HR.out))))))) 1 (.int .i64 q))
  have hrc8 := HRC.out _ _ ((CellT.stable _ _ _).both ((CellT.stable _ _ _).both ((CellT.stable _ _ _).both ((CellT.stable _ _ _).both ((CellT.stable _ _ _).both ((CellT.stable kx (wldC sb rb a b c d) tWld).both ((StoreT.stable sb S1).both HR.out))))))) h8.pull8
  refine hrc8.mono ?_
  rintro e w3 ⟨rfl, h9⟩
  have H9 := Lib.hid h9
  have z6 := h9.drop.cell.1
  have z7 := h9.drop.drop.cell.1
  have z5 := h9.drop.drop.drop.cell.1
  have z4 := h9.drop.drop.drop.drop.cell.1
  have g7 := thaw_at z7
  have g5 := thaw_at z5
  have g4 := thaw_at z4
  have m0 := cell_at z7 0
  have m1 := cell_at z7 1
  have m7 := lt_of_heap z7
  have Z6 := Lib.hid z6
  have Z7 := Lib.hid z7
  clear h9 h8 hrc8 a0 a1 b0 b1 f6 f7 l6 l7 cx z6 z7 HCO HRC H7
  (repeat' (first | (go_big_may; fail) | go_values | go_skip | go_guarded | go_step | go_upon | go_back | dsimp only))
  obtain ⟨x0, x1, x2, x3, x4⟩ := five_at Z6.out
  obtain ⟨_, _, y2, y3, y4⟩ := five_at Z7.out
  obtain ⟨p0, p1, p2, p3, p4⟩ := five_at z4
  obtain ⟨r0, r1, r2, r3, r4⟩ := five_at z5
  have l4 := lt_of_heap z4; have l5 := lt_of_heap z5; have l6 := lt_of_heap Z6.out
  go_region
  (repeat' (first | (go_big_may; fail) | go_values | go_skip | go_guarded | go_step | go_upon | go_back | dsimp only))
  have e2 : ¬ s + 1 + 1 = s := by omega
  have e3 : ¬ s + 1 + 1 + 1 = s := by omega
  (try simp only [Exit.inBlock, Exit.then])
  refine bodyPost_ret (results_cells2 rfl _ _ (s + 1) (s + 1 + 1) tAn6 tAn6 (an6C ⟨r, q, [], false, []⟩ (.slice none 0 0)) (an6C ⟨r, q, [], false, []⟩ (.slice none 0 0)) (0, 0) (0, 0) _ rfl rfl ?_ ?_ Tryd.underlying59 rfl (by kernel_rfl) (by kernel_rfl)) rfl ?_
  · rw [heap_drew]; simp [World.setCell, Array.getElem?_modify, z4, e2, e3]
  · rw [heap_drew]; simp [World.setCell, Array.getElem?_modify, z5, e2, e3]
  · refine ⟨rfl, ?_⟩
    have h10 : At W w3 (Both (Both (CellT (s + 1 + 1 + 1 + 1) noAn tAn6) (Both (CellT (s + 1 + 1) noAn tAn6) (Both (CellT (s + 1) noAn tAn6) (Both (CellT (s + 1 + 1 + 1) (an6C ⟨r, q, [], false, []⟩ (.slice none 0 0)) tAn6) (CellT s #[.int .i64 o1, .int .i64 o2, .int .i64 o3, v] tOp6))))) (Both (CellT kx (wldC sb rb a b c d) tWld) (Both (StoreT sb S1) (Both (RefT rb S1) R)))) := H9.out.perm (by ac_rfl)
    exact h10.loseU [s + 1, s + 1 + 1, s + 1 + 1 + 1 + 1] ((CellT.stable _ _ _).both ((StoreT.stable _ _).both ((RefT.stable _ _).both HR.out))) (fun fp h => cellsT_mem h) (by repeat' (first | with_reducible exact Upd.refl _ _ | (with_reducible refine Upd.drew ?_) | (with_reducible refine Upd.setCell ?_ (.inl (by simp)) _)))
end
end Go.Proofs.YtiimpnhjnodgpaaDoor
namespace Go.Proofs.YtiimpnhjnodgpaaDoor
open Go.RowKit

section
variable {W w : World} {R : Thing} {kx sb rb : Nat} {ef : Nat → Nat × Nat} {S : St} {a b c d : Value}
/-- The five cells of a call of the world's. -/
abbrev FiveT (s : Nat) (C0 C1 C2 C3 C4 : Array Value) : Thing :=
  Both (CellT (s + 1 + 1 + 1 + 1) C4 tAn6) (Both (CellT (s + 1 + 1) C2 tAn6) (Both (CellT (s + 1) C1 tAn6) (Both (CellT (s + 1 + 1 + 1) C3 tAn6) (CellT s C0 tOp6))))
theorem FiveT.stable (s : Nat) (C0 C1 C2 C3 C4 : Array Value) : Stable (FiveT s C0 C1 C2 C3 C4) := (CellT.stable _ _ _).both ((CellT.stable _ _ _).both ((CellT.stable _ _ _).both ((CellT.stable _ _ _).both (CellT.stable _ _ _))))
theorem keep_store3 {w : World} {kx s : Nat} {u a b c : Value} (h : w.cell? ⟨kx, 3, none⟩ = some a ∧ w.cell? ⟨s + 1 + 1 + 1 + 1, 0, none⟩ = some b ∧ w.cell? ⟨s, 3, none⟩ = some c) :
    (w.setCell ⟨s + 1 + 1 + 1 + 1, 1, none⟩ u).cell? ⟨kx, 3, none⟩ = some a ∧ (w.setCell ⟨s + 1 + 1 + 1 + 1, 1, none⟩ u).cell? ⟨s + 1 + 1 + 1 + 1, 0, none⟩ = some b ∧ (w.setCell ⟨s + 1 + 1 + 1 + 1, 1, none⟩ u).cell? ⟨s, 3, none⟩ = some c :=
  ⟨(World.cell?_setCell_other _ _ _ _ (by simp)).trans h.1, (World.cell?_setCell_other _ _ _ _ (by simp)).trans h.2.1, (World.cell?_setCell_other _ _ _ _ (by simp)).trans h.2.2⟩
theorem keep_store2 {w : World} {kx s : Nat} {u a b : Value} (h : w.cell? ⟨kx, 3, none⟩ = some a ∧ w.cell? ⟨s + 1 + 1 + 1 + 1, 0, none⟩ = some b) :
    (w.setCell ⟨s + 1 + 1 + 1 + 1, 1, none⟩ u).cell? ⟨kx, 3, none⟩ = some a ∧ (w.setCell ⟨s + 1 + 1 + 1 + 1, 1, none⟩ u).cell? ⟨s + 1 + 1 + 1 + 1, 0, none⟩ = some b :=
  ⟨(World.cell?_setCell_other _ _ _ _ (by simp)).trans h.1, (World.cell?_setCell_other _ _ _ _ (by simp)).trans h.2⟩
theorem five_get {X : Thing} {s : Nat} {C0 C1 C2 C3 C4 : Array Value} (h : At W w (Both (FiveT s C0 C1 C2 C3 C4) X)) :
    w.heap[s + 1 + 1 + 1 + 1]? = some (.cells C4 tAn6 (0, 0)) ∧ w.heap[s + 1 + 1]? = some (.cells C2 tAn6 (0, 0)) ∧ w.heap[s + 1]? = some (.cells C1 tAn6 (0, 0)) ∧ w.heap[s + 1 + 1 + 1]? = some (.cells C3 tAn6 (0, 0)) ∧ w.heap[s]? = some (.cells C0 tOp6 (0, 0)) := by
  obtain ⟨_, fp, ⟨f, g, ⟨f1, g1, ⟨a1, _⟩, ⟨f2, g2, ⟨a2, _⟩, ⟨f3, g3, ⟨a3, _⟩, ⟨f4, g4, ⟨a4, _⟩, ⟨a5, _⟩, _, _⟩, _, _⟩, _, _⟩, _, _⟩, _⟩, _⟩ := h
  exact ⟨a1, a2, a3, a4, a5⟩
theorem five_set3 {X : Thing} {s : Nat} {C0 C1 C2 C3 C4 : Array Value} (h : At W w (Both (FiveT s C0 C1 C2 C3 C4) X)) (hX : Stable X) (o : Nat) (u : Value) : At W (w.setCell ⟨s + 1 + 1 + 1, o, none⟩ u) (Both (FiveT s C0 C1 C2 (C3.setIfInBounds o u) C4) X) := by
  have h1 : At W w (Both (CellT (s + 1 + 1 + 1) C3 tAn6) (Both (CellT (s + 1 + 1 + 1 + 1) C4 tAn6) (Both (CellT (s + 1 + 1) C2 tAn6) (Both (CellT (s + 1) C1 tAn6) (Both (CellT s C0 tOp6) X))))) := h.perm (by unfold FiveT; ac_rfl)
  exact (h1.setCell ((CellT.stable _ _ _).both ((CellT.stable _ _ _).both ((CellT.stable _ _ _).both ((CellT.stable _ _ _).both hX)))) o u).perm (by unfold FiveT; ac_rfl)
theorem five_set4 {X : Thing} {s : Nat} {C0 C1 C2 C3 C4 : Array Value} (h : At W w (Both (FiveT s C0 C1 C2 C3 C4) X)) (hX : Stable X) (o : Nat) (u : Value) : At W (w.setCell ⟨s + 1 + 1 + 1 + 1, o, none⟩ u) (Both (FiveT s C0 C1 C2 C3 (C4.setIfInBounds o u)) X) := by
  have h1 : At W w (Both (CellT (s + 1 + 1 + 1 + 1) C4 tAn6) (Both (CellT (s + 1 + 1 + 1) C3 tAn6) (Both (CellT (s + 1 + 1) C2 tAn6) (Both (CellT (s + 1) C1 tAn6) (Both (CellT s C0 tOp6) X))))) := h.perm (by unfold FiveT; ac_rfl)
  exact (h1.setCell ((CellT.stable _ _ _).both ((CellT.stable _ _ _).both ((CellT.stable _ _ _).both ((CellT.stable _ _ _).both hX)))) o u).perm (by unfold FiveT; ac_rfl)
set_option maxRecDepth 100000 in
set_option maxHeartbeats 3200000 in
theorem raw_ok (h : At W w (Both (CellT kx (wldC sb rb a b c d) tWld) (Both (StoreT sb S) (Both (RefT rb S) R)))) (hR : Stable R) (hF : Fails W ef fails12) (hG : GoodS S) (o1 o2 o3 : Int) (v : Value) {ss : List (List UInt8)} (hv : RdRow W v ss.length 1 (strs ss)) (hlen : ss.length + (cat ss).length ≤ 1048576) (hc : (createP S).2.2 = 0) :
    Calls Tryd.prog 38 #[.pointer (some ⟨kx, 0, none⟩), .agg #[.int .i64 o1, .int .i64 o2, .int .i64 o3, v]] w fun e w' => e = .returned (.tuple #[an6V ⟨(rawP S ss).2.1, (rawP S ss).2.2, [], false, []⟩ (.slice none 0 0), an6V ⟨(rawP S ss).2.1, (rawP S ss).2.2, [], false, []⟩ (.slice none 0 0)]) ∧ At W w' (Both (CellT kx (wldC sb rb a b c d) tWld) (Both (StoreT sb (rawP S ss).1) (Both (RefT rb (rawP S ss).1) R))) := by
  have hst0 := (CellT.stable kx (wldC sb rb a b c d) tWld).both ((StoreT.stable sb S).both ((RefT.stable rb S).both hR))
  have h5 := (h.five6 hst0 #[.int .i64 o1, .int .i64 o2, .int .i64 o3, v]).seventh
  have hcr := Create_7 h5 (five6_stable ((CellT.stable kx (wldC sb rb a b c d) tWld).both ((RefT.stable rb S).both hR)) w.heap.size _ _ _ _ _) (fails11_7 (fails12_11 hF))
  rw [hc, errV_zero] at hcr
  have hcg := (h.five6 hst0 #[.int .i64 o1, .int .i64 o2, .int .i64 o3, v]).drop.drop.drop.drop.drop.cell.1
  have c0 := cell_at hcg 0
  have hkx := lt_of_heap h.cell.1
  have hrc := fun (w' : World) (X : Thing) (hX : Stable X) (h' : At W w' (Both (RefT rb S) X)) => rCreate_at h' hX hG
  have hG1 := hG.create
  have hmd := made_create S
  obtain ⟨res, hres⟩ : ∃ res, res = rawP S ss := ⟨_, rfl⟩
  rw [← hres]
  unfold rawP at hres
  rw [if_neg (by rw [hc]; decide)] at hres
  have hr : (createP S).2.1 = S.made + 1 := by
    rcases hmd with h | h
    · exact absurd hc h.1
    · exact h.2.1
  rw [hc] at hrc
  generalize (createP S).1 = S1 at *
  have hrb : (createP S).2.1 ≤ 16777216 := by have := hG1.sizes; rcases hmd with h | h <;> omega
  generalize (createP S).2.1 = r at *
  have hri : inI64 (r : Int) := by unfold inI64; omega
  have hok := (append_code S1 r (cat ss)).1
  have hbs : sb < w.heap.size := by
    obtain ⟨mb, blk, val, h1, _⟩ := h.swap.store
    exact h1.lt sb (by simp [fpS])
  have HCR := Lib.hid hcr
  have HRC := Lib.hid hrc
  have HV := Lib.hid hv
  have HG1 := Lib.hid hG1
  have eqn : ∀ wz : World, (binOp .eql tErr .nilIface .nilIface).run Tryd.prog wz = .ok (.bool true) wz := fun wz => eql_nil wz
  obtain ⟨av, cv, rfl, _, _⟩ := hv.shape
  clear h hst0 h5 hcr hcg hrc hc hmd hr hv hG1
  go_enter Tryd.func38, Tryd.ntmps38
  (repeat' (first | (go_big_may; fail) | go_values | go_skip | go_guarded | go_step | go_upon | go_back | dsimp only))
  refine HCR.out.mono ?_
  rintro e w1 ⟨rfl, h6⟩
  have h7 : At W w1 (Both (CellT kx (wldC sb rb a b c d) tWld) (Both (StoreT sb S1) (Both (FiveT w.heap.size #[.int .i64 o1, .int .i64 o2, .int .i64 o3, .slice av ss.length cv] noAn noAn noAn noAn) (Both (RefT rb S) R)))) := h6.perm (by unfold FiveT; ac_rfl)
  have H7 := Lib.hid h7
  have c0 := cell_at h7.cell.1 0
  clear h6 h7 HCR
  generalize hs0 : w.heap.size = s at *
  (repeat' (first | (go_big_may; fail) | go_values | go_skip | go_guarded | go_step | go_upon | go_back | dsimp only))
  go_cut [9] (fun v9 wx => v9 = errV ef (appendP S1 r (cat ss)).2 ∧ At W wx (Both (CellT kx (wldC sb rb a b c d) tWld) (Both (StoreT sb (appendP S1 r (cat ss)).1) (Both (FiveT s #[.int .i64 o1, .int .i64 o2, .int .i64 o3, .slice av ss.length cv] noAn noAn noAn noAn) (Both (RefT rb S) R)))))
  case first =>
    refine wp_only ?_
    rename_i J K' hJ hK
    have HJ := Lib.hid hJ
    have HK := Lib.hid hK
    clear hJ hK
    have s3 := cell_at (H7.out.perm (show _ = Both (CellT s #[.int .i64 o1, .int .i64 o2, .int .i64 o3, .slice av ss.length cv] tOp6) (Both (Both (CellT (s + 1 + 1 + 1 + 1) noAn tAn6) (Both (CellT (s + 1 + 1) noAn tAn6) (Both (CellT (s + 1) noAn tAn6) (CellT (s + 1 + 1 + 1) noAn tAn6)))) (Both (CellT kx (wldC sb rb a b c d) tWld) (Both (StoreT sb S1) (Both (RefT rb S) R)))) by unfold FiveT; ac_rfl)).cell.1 3
    have hst7 := (CellT.stable kx (wldC sb rb a b c d) tWld).both ((StoreT.stable sb S1).both ((FiveT.stable s #[.int .i64 o1, .int .i64 o2, .int .i64 o3, .slice av ss.length cv] noAn noAn noAn noAn).both ((RefT.stable rb S).both hR)))
    have HTW := Lib.hid (twin_calls ss (.slice av ss.length cv) w1.drew (HV.out.below (H7.out.below.trans ((below_drw w1).mono H7.out.below.size))) (by omega))
    have HD := Lib.hid (H7.out.drew hst7)
    have hcg := And.intro c0 s3
    have hsb1 : sb < w1.heap.size := by
      obtain ⟨mb, blk, val, h1, _⟩ := H7.out.swap.store
      exact h1.lt sb (by simp [fpS])
    go_region_held3 (fun wx => wx.cell? ⟨kx, 0, none⟩ = some (.pointer (some ⟨sb, 0, none⟩)) ∧ wx.cell? ⟨s, 3, none⟩ = some (.slice av ss.length cv)) (first | assumption | go_keep) (first
      | (go_at_call 59; refine HTW.out.mono ?_; rintro e w3 ⟨v3, rfl, ho3, hb3⟩
         have h8 := HD.out.newRowG hst7 hb3 ho3
         have h8s : At W w3 (Both (StoreT sb S1) (Both (RowG 9 1 v3 ss.length (strs ss)) (Both (CellT kx (wldC sb rb a b c d) tWld) (Both (FiveT s #[.int .i64 o1, .int .i64 o2, .int .i64 o3, .slice av ss.length cv] noAn noAn noAn noAn) (Both (RefT rb S) R))))) := h8.perm (by ac_rfl)
         have hv3 : ∀ w', Upd [sb] w3 w' → RdRow w' v3 ss.length 1 (strs ss) := fun w' hu => by
           have hne : ∀ k, v3.ownBlock = some k → k ∉ [sb] := fun k hk hm => by
             have h5 := (ho3.lt k hk).1
             simp at hm h5
             omega
           exact RdRow.of_own (ownsRow_block ho3 fun k hk => hu.block k (ho3.lt k hk).2 (hne k hk))
         have hsx := (RowG.stable 9 1 v3 ss.length (strs ss)).both ((CellT.stable kx (wldC sb rb a b c d) tWld).both ((FiveT.stable s #[.int .i64 o1, .int .i64 o2, .int .i64 o3, .slice av ss.length cv] noAn noAn noAn noAn).both ((RefT.stable rb S).both hR)))
         have HAP := Lib.hid (Append_7 h8s hsx (fails11_7 (fails12_11 hF)) hri HG1.out.le hv3 (by omega))
         have q0 := cell_at h8.drop.cell.1 0
         have q3 := cell_at (h8.perm (show _ = Both (CellT s #[.int .i64 o1, .int .i64 o2, .int .i64 o3, .slice av ss.length cv] tOp6) (Both (Both (CellT (s + 1 + 1 + 1 + 1) noAn tAn6) (Both (CellT (s + 1 + 1) noAn tAn6) (Both (CellT (s + 1) noAn tAn6) (CellT (s + 1 + 1 + 1) noAn tAn6)))) (Both (RowG 9 1 v3 ss.length (strs ss)) (Both (CellT kx (wldC sb rb a b c d) tWld) (Both (StoreT sb S1) (Both (RefT rb S) R))))) by unfold FiveT; ac_rfl)).cell.1 3
         have cg3 := And.intro q0 q3
         clear h8 h8s hv3 hsx ho3 hb3 q0 q3)
      | (go_at_call 10; refine HAP.out.mono ?_; rintro e w4 ⟨rfl, h9⟩
         have h9a : At W w4 (Both (CellT kx (wldC sb rb a b c d) tWld) (Both (StoreT sb (appendP S1 r (cat ss)).1) (Both (FiveT s #[.int .i64 o1, .int .i64 o2, .int .i64 o3, .slice av ss.length cv] noAn noAn noAn noAn) (Both (RefT rb S) R)))) := h9.swap.drop.perm (by ac_rfl)
         have q0 := cell_at h9a.cell.1 0
         have q3 := cell_at (h9a.perm (show _ = Both (CellT s #[.int .i64 o1, .int .i64 o2, .int .i64 o3, .slice av ss.length cv] tOp6) (Both (Both (CellT (s + 1 + 1 + 1 + 1) noAn tAn6) (Both (CellT (s + 1 + 1) noAn tAn6) (Both (CellT (s + 1) noAn tAn6) (CellT (s + 1 + 1 + 1) noAn tAn6)))) (Both (CellT kx (wldC sb rb a b c d) tWld) (Both (StoreT sb (appendP S1 r (cat ss)).1) (Both (RefT rb S) R)))) by unfold FiveT; ac_rfl)).cell.1 3
         have cg4 := And.intro q0 q3
         have H9 := Lib.hid h9a
         clear h9 h9a q0 q3))
    all_goals
      refine HK.out _ _ ?_
      have hJ := HJ.out
      go_meet
      case rel => exact ⟨rfl, H9.out⟩
  case rest =>
    obtain ⟨e9, h8⟩ := hcut
    subst e9
    have H8 := Lib.hid h8
    have c8 := cell_at h8.cell.1 0
    clear h8 H7 c0
    by_cases hz : (appendP S1 r (cat ss)).2 = 0
    · rw [if_neg (by simpa using hz)] at hres
      have HRES := Lib.hid hres
      clear hres
      have HG2 := Lib.hid (HG1.out.append r (cat ss))
      have hse := Seal_7 H8.out.swap ((CellT.stable kx (wldC sb rb a b c d) tWld).both ((FiveT.stable s #[.int .i64 o1, .int .i64 o2, .int .i64 o3, .slice av ss.length cv] noAn noAn noAn noAn).both ((RefT.stable rb S).both hR))) (fails11_7 (fails12_11 hF)) hri
      have hso := (seal_code (appendP S1 r (cat ss)).1 r).1
      have HZ := Lib.hid hz
      rw [hz, errV_zero]
      have HSE := Lib.hid hse
      clear hse hz hok
      (repeat' (first | (go_big_may; fail) | go_values | go_skip | go_guarded | go_step | go_upon | go_back | dsimp only))
      refine HSE.out.mono ?_
      rintro e w5 ⟨rfl, h10⟩
      have HX := Lib.hid h10.swap
      clear h10 HSE H8 c8
      have hb5 := HX.out.below
      have HCO := Lib.hid (code6_calls (w := w5) ((fails12_11 hF).below hb5) hso)
      have HY := Lib.hid (HX.out.perm (show _ = Both (FiveT s #[.int .i64 o1, .int .i64 o2, .int .i64 o3, .slice av ss.length cv] noAn noAn noAn noAn) (Both (CellT kx (wldC sb rb a b c d) tWld) (Both (StoreT sb (sealP (appendP S1 r (cat ss)).1 r).1) (Both (RefT rb S) R))) by ac_rfl))
      have hstY := (CellT.stable kx (wldC sb rb a b c d) tWld).both ((StoreT.stable sb (sealP (appendP S1 r (cat ss)).1 r).1).both ((RefT.stable rb S).both hR))
      obtain ⟨y4, y2, y1, y3, y0⟩ := five_get HY.out
      have cx3 := cell_at HX.out.cell.1 3
      obtain ⟨m0, m1, _, _, _⟩ := five_at y3
      obtain ⟨n0, n1, _, _, _⟩ := five_at y4
      have fm := thaw_at y3
      have fn := thaw_at y4
      have lm := lt_of_heap y3
      have ln := lt_of_heap y4
      have hn1 : ¬ kx = s + 1 + 1 + 1 := by omega
      have hn2 : ¬ s + 1 + 1 + 1 = kx := by omega
      have hn3 : ¬ kx = s + 1 + 1 + 1 + 1 := by omega
      have hn4 : ¬ s + 1 + 1 + 1 + 1 = kx := by omega
      have hY2 := five_set3 (five_set3 HY.out hstY 0 (.int .i64 r)) hstY 1 (.int .i64 ((sealP (appendP S1 r (cat ss)).1 r).2 : Nat))
      have hrc := HRC.out _ _ ((FiveT.stable s #[.int .i64 o1, .int .i64 o2, .int .i64 o3, .slice av ss.length cv] noAn noAn (an6C ⟨r, (sealP (appendP S1 r (cat ss)).1 r).2, [], false, []⟩ (.slice none 0 0)) noAn).both ((CellT.stable kx (wldC sb rb a b c d) tWld).both ((StoreT.stable sb (sealP (appendP S1 r (cat ss)).1 r).1).both hR))) (hY2.perm (show _ = Both (RefT rb S) (Both (FiveT s #[.int .i64 o1, .int .i64 o2, .int .i64 o3, .slice av ss.length cv] noAn noAn (an6C ⟨r, (sealP (appendP S1 r (cat ss)).1 r).2, [], false, []⟩ (.slice none 0 0)) noAn) (Both (CellT kx (wldC sb rb a b c d) tWld) (Both (StoreT sb (sealP (appendP S1 r (cat ss)).1 r).1) R))) by ac_rfl))
      have HRC2 := Lib.hid hrc
      clear hrc hY2 y0 y1 y2 y3 y4 hb5
      (repeat' (first | (go_big_may; fail) | go_values | go_skip | go_guarded | go_step | go_upon | go_back | dsimp only))
      refine HCO.out.mono ?_
      rintro e w6 ⟨rfl, rfl⟩
      (repeat' (first | (go_big_may; fail) | go_values | go_skip | go_guarded | go_step | go_upon | go_back | dsimp only))
      refine HRC2.out.mono ?_
      rintro e w7 ⟨rfl, h11⟩
      have h12 : At W w7 (Both (FiveT s #[.int .i64 o1, .int .i64 o2, .int .i64 o3, .slice av ss.length cv] noAn noAn (an6C ⟨r, (sealP (appendP S1 r (cat ss)).1 r).2, [], false, []⟩ (.slice none 0 0)) noAn) (Both (CellT kx (wldC sb rb a b c d) tWld) (Both (StoreT sb (sealP (appendP S1 r (cat ss)).1 r).1) (Both (RefT rb S1) R)))) := h11.perm (by ac_rfl)
      have hst12 := (CellT.stable kx (wldC sb rb a b c d) tWld).both ((StoreT.stable sb (sealP (appendP S1 r (cat ss)).1 r).1).both ((RefT.stable rb S1).both hR))
      obtain ⟨y4, y2, y1, y3, y0⟩ := five_get h12
      obtain ⟨n0, n1, n2, n3, n4⟩ := five_at y4
      have fn := thaw_at y4
      have ln := lt_of_heap y4
      have hz13 := five_set4 (five_set4 h12 hst12 0 (.int .i64 r)) hst12 1 (.int .i64 0)
      have HZ13 := Lib.hid hz13
      clear h11 h12 y0 y1 y2 y3 y4 HRC2 HRC HY HX hz13
      (repeat' (first | (go_big_may; fail) | go_values | go_skip | go_guarded | go_step | go_upon | go_back | dsimp only))
      clear n0 n1 n2 n3 n4 fn ln
      generalize (World.setCell (World.setCell w7 _ _) _ _) = wz at *
      obtain ⟨y4, y2, y1, y3, y0⟩ := five_get HZ13.out
      obtain ⟨n0, n1, _, _, _⟩ := five_at y4
      have cx3 := cell_at HZ13.out.drop.cell.1 3
      have cs3 := cell_at y0 3
      have lkx := lt_of_heap HZ13.out.drop.cell.1
      have ls := lt_of_heap y0
      have ln := lt_of_heap y4
      have hst13 := (FiveT.stable s #[.int .i64 o1, .int .i64 o2, .int .i64 o3, .slice av ss.length cv] noAn noAn (an6C ⟨r, (sealP (appendP S1 r (cat ss)).1 r).2, [], false, []⟩ (.slice none 0 0)) (an6C ⟨r, 0, [], false, []⟩ (.slice none 0 0))).both hst12
      go_cut [] (fun wx => At W wx (Both (FiveT s #[.int .i64 o1, .int .i64 o2, .int .i64 o3, .slice av ss.length cv] noAn noAn (an6C ⟨r, (sealP (appendP S1 r (cat ss)).1 r).2, [], false, []⟩ (.slice none 0 0)) (an6C ⟨r, (appendP S1 r (cat ss)).2, [], false, []⟩ (.slice none 0 0))) (Both (CellT kx (wldC sb rb a b c d) tWld) (Both (StoreT sb (sealP (appendP S1 r (cat ss)).1 r).1) (Both (RefT rb (appendP S1 r (cat ss)).1) R)))))
      case first =>
        refine wp_only ?_
        rename_i J K' hJ hK
        have HJ := Lib.hid hJ
        have HK := Lib.hid hK
        clear hJ hK
        have hsx := (FiveT.stable s #[.int .i64 o1, .int .i64 o2, .int .i64 o3, .slice av ss.length cv] noAn noAn (an6C ⟨r, (sealP (appendP S1 r (cat ss)).1 r).2, [], false, []⟩ (.slice none 0 0)) (an6C ⟨r, 0, [], false, []⟩ (.slice none 0 0))).both ((CellT.stable kx (wldC sb rb a b c d) tWld).both ((StoreT.stable sb (sealP (appendP S1 r (cat ss)).1 r).1).both hR))
        have hd : At W wz.drew (Both (RefT rb S1) (Both (FiveT s #[.int .i64 o1, .int .i64 o2, .int .i64 o3, .slice av ss.length cv] noAn noAn (an6C ⟨r, (sealP (appendP S1 r (cat ss)).1 r).2, [], false, []⟩ (.slice none 0 0)) (an6C ⟨r, 0, [], false, []⟩ (.slice none 0 0))) (Both (CellT kx (wldC sb rb a b c d) tWld) (Both (StoreT sb (sealP (appendP S1 r (cat ss)).1 r).1) R)))) := (HZ13.out.drew hst13).perm (by ac_rfl)
        have HAP := Lib.hid (rAppend_at hd hsx HG1.out hri HV.out (by omega))
        have hcg := And.intro cx3 (And.intro n0 cs3)
        clear hd y0 y1 y2 y3 y4
        go_region_held3 (fun wx => wx.cell? ⟨kx, 3, none⟩ = some (.pointer (some ⟨rb, 0, none⟩)) ∧ wx.cell? ⟨s + 1 + 1 + 1 + 1, 0, none⟩ = some (.int .i64 r) ∧ wx.cell? ⟨s, 3, none⟩ = some (.slice av ss.length cv)) (first | assumption | exact keep_store3 (by assumption) | go_keep) (first
          | (go_at_call 65; refine HAP.out.mono ?_; rintro e w8 ⟨rfl, h13⟩
             have h14 : At W w8 (Both (FiveT s #[.int .i64 o1, .int .i64 o2, .int .i64 o3, .slice av ss.length cv] noAn noAn (an6C ⟨r, (sealP (appendP S1 r (cat ss)).1 r).2, [], false, []⟩ (.slice none 0 0)) (an6C ⟨r, 0, [], false, []⟩ (.slice none 0 0))) (Both (CellT kx (wldC sb rb a b c d) tWld) (Both (StoreT sb (sealP (appendP S1 r (cat ss)).1 r).1) (Both (RefT rb (appendP S1 r (cat ss)).1) R)))) := h13.perm (by ac_rfl)
             obtain ⟨y4, y2, y1, y3, y0⟩ := five_get h14
             obtain ⟨k0, k1, _, _, _⟩ := five_at y4
             have kf := thaw_at y4
             have q3 := cell_at h14.drop.cell.1 3
             have q4 := cell_at y0 3
             have lk4 := lt_of_heap y4; have lk5 := lt_of_heap h14.drop.cell.1; have lk6 := lt_of_heap y0
             have cg8 := And.intro q3 (And.intro k0 q4)
             have H14 := Lib.hid h14
             clear h13 h14 y0 y1 y2 y3 y4))
        all_goals
          refine HK.out _ _ ?_
          have hJ := HJ.out
          go_meet
          case rel => exact five_set4 H14.out ((CellT.stable kx (wldC sb rb a b c d) tWld).both ((StoreT.stable sb (sealP (appendP S1 r (cat ss)).1 r).1).both ((RefT.stable rb _).both hR))) 1 (.int .i64 (appendP S1 r (cat ss)).2)
      case rest =>
        have HA := Lib.hid hcut
        clear hcut HZ13 hst12 hst13 y0 y1 y2 y3 y4 n0 n1 cx3 cs3 lkx ls ln
        obtain ⟨y4, y2, y1, y3, y0⟩ := five_get HA.out
        obtain ⟨n0, n1, _, _, _⟩ := five_at y4
        have cx3 := cell_at HA.out.drop.cell.1 3
        have lkx := lt_of_heap HA.out.drop.cell.1
        have ln := lt_of_heap y4
        rw [HZ.out] at n1
        have cs3 := cell_at y0 3
        have hstA := (FiveT.stable s #[.int .i64 o1, .int .i64 o2, .int .i64 o3, .slice av ss.length cv] noAn noAn (an6C ⟨r, (sealP (appendP S1 r (cat ss)).1 r).2, [], false, []⟩ (.slice none 0 0)) (an6C ⟨r, (appendP S1 r (cat ss)).2, [], false, []⟩ (.slice none 0 0))).both ((CellT.stable kx (wldC sb rb a b c d) tWld).both ((StoreT.stable sb (sealP (appendP S1 r (cat ss)).1 r).1).both ((RefT.stable rb (appendP S1 r (cat ss)).1).both hR)))
        have hsx := (FiveT.stable s #[.int .i64 o1, .int .i64 o2, .int .i64 o3, .slice av ss.length cv] noAn noAn (an6C ⟨r, (sealP (appendP S1 r (cat ss)).1 r).2, [], false, []⟩ (.slice none 0 0)) (an6C ⟨r, (appendP S1 r (cat ss)).2, [], false, []⟩ (.slice none 0 0))).both ((CellT.stable kx (wldC sb rb a b c d) tWld).both ((StoreT.stable sb (sealP (appendP S1 r (cat ss)).1 r).1).both hR))
        have hd : At W wc.drew (Both (RefT rb (appendP S1 r (cat ss)).1) (Both (FiveT s #[.int .i64 o1, .int .i64 o2, .int .i64 o3, .slice av ss.length cv] noAn noAn (an6C ⟨r, (sealP (appendP S1 r (cat ss)).1 r).2, [], false, []⟩ (.slice none 0 0)) (an6C ⟨r, (appendP S1 r (cat ss)).2, [], false, []⟩ (.slice none 0 0))) (Both (CellT kx (wldC sb rb a b c d) tWld) (Both (StoreT sb (sealP (appendP S1 r (cat ss)).1 r).1) R)))) := (HA.out.drew hstA).perm (by ac_rfl)
        have HSL := Lib.hid (rSeal_at hd hsx HG2.out hri)
        have hcg := And.intro cx3 n0
        clear hd y0 y1 y2 y3 y4
        (repeat' (first | (go_big_may; fail) | go_values | go_skip | go_guarded | go_step | go_upon | go_back | dsimp only))
        go_cut [] (fun wx => At W wx (Both (FiveT s #[.int .i64 o1, .int .i64 o2, .int .i64 o3, .slice av ss.length cv] noAn noAn (an6C ⟨r, (sealP (appendP S1 r (cat ss)).1 r).2, [], false, []⟩ (.slice none 0 0)) (an6C ⟨r, (sealP (appendP S1 r (cat ss)).1 r).2, [], false, []⟩ (.slice none 0 0))) (Both (CellT kx (wldC sb rb a b c d) tWld) (Both (StoreT sb (sealP (appendP S1 r (cat ss)).1 r).1) (Both (RefT rb (sealP (appendP S1 r (cat ss)).1 r).1) R)))))
        case first =>
          refine wp_only ?_
          rename_i J K' hJ hK
          have HJ := Lib.hid hJ
          have HK := Lib.hid hK
          clear hJ hK
          go_region_held3 (fun wx => wx.cell? ⟨kx, 3, none⟩ = some (.pointer (some ⟨rb, 0, none⟩)) ∧ wx.cell? ⟨s + 1 + 1 + 1 + 1, 0, none⟩ = some (.int .i64 r)) (first | assumption | exact keep_store2 (by assumption) | go_keep) (first
            | (go_at_call 66; refine HSL.out.mono ?_; rintro e w8 ⟨rfl, h13⟩
               have h14 : At W w8 (Both (FiveT s #[.int .i64 o1, .int .i64 o2, .int .i64 o3, .slice av ss.length cv] noAn noAn (an6C ⟨r, (sealP (appendP S1 r (cat ss)).1 r).2, [], false, []⟩ (.slice none 0 0)) (an6C ⟨r, (appendP S1 r (cat ss)).2, [], false, []⟩ (.slice none 0 0))) (Both (CellT kx (wldC sb rb a b c d) tWld) (Both (StoreT sb (sealP (appendP S1 r (cat ss)).1 r).1) (Both (RefT rb (sealP (appendP S1 r (cat ss)).1 r).1) R)))) := h13.perm (by ac_rfl)
               obtain ⟨y4, y2, y1, y3, y0⟩ := five_get h14
               obtain ⟨k0, k1, _, _, _⟩ := five_at y4
               have kf := thaw_at y4
               have q3 := cell_at h14.drop.cell.1 3
               have lk4 := lt_of_heap y4; have lk5 := lt_of_heap h14.drop.cell.1
               have cg8 := And.intro q3 k0
               have H14 := Lib.hid h14
               clear h13 h14 y0 y1 y2 y3 y4))
          all_goals
            refine HK.out _ _ ?_
            have hJ := HJ.out
            go_meet
            case rel => exact five_set4 H14.out ((CellT.stable kx (wldC sb rb a b c d) tWld).both ((StoreT.stable sb _).both ((RefT.stable rb _).both hR))) 1 (.int .i64 (sealP (appendP S1 r (cat ss)).1 r).2)
        case rest =>
          have HE := Lib.hid hcut
          clear hcut HA hstA hsx n0 n1 cx3 lkx ln
          obtain ⟨y4, y2, y1, y3, y0⟩ := five_get HE.out
          obtain ⟨x0, x1, x2, x3, x4⟩ := five_at y3
          obtain ⟨v0, v1, v2, v3, v4⟩ := five_at y4
          obtain ⟨p0, p1, p2, p3, p4⟩ := five_at y1
          obtain ⟨r0, r1, r2, r3, r4⟩ := five_at y2
          have g4 := thaw_at y1
          have g5 := thaw_at y2
          have l4 := lt_of_heap y1; have l5 := lt_of_heap y2; have l6 := lt_of_heap y3; have l7 := lt_of_heap y4
          have Y1 := Lib.hid y1
          have Y2 := Lib.hid y2
          clear y0 y1 y2 y3 y4
          (repeat' (first | (go_big_may; fail) | go_values | go_skip | go_guarded | go_step | go_upon | go_back | dsimp only))
          go_region
          (repeat' (first | (go_big_may; fail) | go_values | go_skip | go_guarded | go_step | go_upon | go_back | dsimp only))
          (try simp only [Exit.inBlock, Exit.then])
          refine bodyPost_ret (results_cells2 rfl _ _ (s + 1) (s + 1 + 1) tAn6 tAn6 (an6C ⟨r, (sealP (appendP S1 r (cat ss)).1 r).2, [], false, []⟩ (.slice none 0 0)) (an6C ⟨r, (sealP (appendP S1 r (cat ss)).1 r).2, [], false, []⟩ (.slice none 0 0)) (0, 0) (0, 0) _ rfl rfl ?_ ?_ Tryd.underlying59 rfl (by kernel_rfl) (by kernel_rfl)) rfl ?_
          · rw [heap_drew]; simp [World.setCell, Array.getElem?_modify, Y1.out]
          · rw [heap_drew]; simp [World.setCell, Array.getElem?_modify, Y2.out]
          · rw [HRES.out]
            refine ⟨rfl, ?_⟩
            exact HE.out.loseU [s + 1, s + 1 + 1, s + 1 + 1 + 1 + 1] ((CellT.stable _ _ _).both ((StoreT.stable _ _).both ((RefT.stable _ _).both hR))) (fun fp h => cellsT_mem h) (by repeat' (first | with_reducible exact Upd.refl _ _ | (with_reducible refine Upd.drew ?_) | (with_reducible refine Upd.setCell ?_ (.inl (by simp)) _)))
    · rw [if_pos hz] at hres
      have HRES := Lib.hid hres
      clear hres
      have hep := errV_pos ef hz
      have eqi : ∀ wz : World, (binOp .eql tErr (errV ef (appendP S1 r (cat ss)).2) .nilIface).run Tryd.prog wz = .ok (.bool false) wz := fun wz => eql_errV ef hz wz
      have HX := Lib.hid H8.out
      rw [hep] at eqi ⊢
      generalize wc = w5 at *
      (repeat' (first | (go_big_may; fail) | go_values | go_skip | go_guarded | go_step | go_upon | go_back | dsimp only))
      rw [← hep]
      clear eqi hep
      have hb5 := HX.out.below
      have HCO := Lib.hid (code6_calls (w := w5) ((fails12_11 hF).below hb5) hok)
      have HY := Lib.hid (HX.out.perm (show _ = Both (FiveT s #[.int .i64 o1, .int .i64 o2, .int .i64 o3, .slice av ss.length cv] noAn noAn noAn noAn) (Both (CellT kx (wldC sb rb a b c d) tWld) (Both (StoreT sb (appendP S1 r (cat ss)).1) (Both (RefT rb S) R))) by ac_rfl))
      have hstY := (CellT.stable kx (wldC sb rb a b c d) tWld).both ((StoreT.stable sb (appendP S1 r (cat ss)).1).both ((RefT.stable rb S).both hR))
      obtain ⟨y4, y2, y1, y3, y0⟩ := five_get HY.out
      have cx3 := cell_at HX.out.cell.1 3
      obtain ⟨m0, m1, _, _, _⟩ := five_at y3
      obtain ⟨n0, n1, _, _, _⟩ := five_at y4
      have fm := thaw_at y3
      have fn := thaw_at y4
      have lm := lt_of_heap y3
      have ln := lt_of_heap y4
      have hn1 : ¬ kx = s + 1 + 1 + 1 := by omega
      have hn2 : ¬ s + 1 + 1 + 1 = kx := by omega
      have hn3 : ¬ kx = s + 1 + 1 + 1 + 1 := by omega
      have hn4 : ¬ s + 1 + 1 + 1 + 1 = kx := by omega
      have hY2 := five_set3 (five_set3 HY.out hstY 0 (.int .i64 r)) hstY 1 (.int .i64 ((appendP S1 r (cat ss)).2 : Nat))
      have hrc := HRC.out _ _ ((FiveT.stable s #[.int .i64 o1, .int .i64 o2, .int .i64 o3, .slice av ss.length cv] noAn noAn (an6C ⟨r, (appendP S1 r (cat ss)).2, [], false, []⟩ (.slice none 0 0)) noAn).both ((CellT.stable kx (wldC sb rb a b c d) tWld).both ((StoreT.stable sb (appendP S1 r (cat ss)).1).both hR))) (hY2.perm (show _ = Both (RefT rb S) (Both (FiveT s #[.int .i64 o1, .int .i64 o2, .int .i64 o3, .slice av ss.length cv] noAn noAn (an6C ⟨r, (appendP S1 r (cat ss)).2, [], false, []⟩ (.slice none 0 0)) noAn) (Both (CellT kx (wldC sb rb a b c d) tWld) (Both (StoreT sb (appendP S1 r (cat ss)).1) R))) by ac_rfl))
      have HRC2 := Lib.hid hrc
      clear hrc hY2 y0 y1 y2 y3 y4 hb5
      (repeat' (first | (go_big_may; fail) | go_values | go_skip | go_guarded | go_step | go_upon | go_back | dsimp only))
      refine HCO.out.mono ?_
      rintro e w6 ⟨rfl, rfl⟩
      (repeat' (first | (go_big_may; fail) | go_values | go_skip | go_guarded | go_step | go_upon | go_back | dsimp only))
      refine HRC2.out.mono ?_
      rintro e w7 ⟨rfl, h11⟩
      have h12 : At W w7 (Both (FiveT s #[.int .i64 o1, .int .i64 o2, .int .i64 o3, .slice av ss.length cv] noAn noAn (an6C ⟨r, (appendP S1 r (cat ss)).2, [], false, []⟩ (.slice none 0 0)) noAn) (Both (CellT kx (wldC sb rb a b c d) tWld) (Both (StoreT sb (appendP S1 r (cat ss)).1) (Both (RefT rb S1) R)))) := h11.perm (by ac_rfl)
      have hst12 := (CellT.stable kx (wldC sb rb a b c d) tWld).both ((StoreT.stable sb (appendP S1 r (cat ss)).1).both ((RefT.stable rb S1).both hR))
      obtain ⟨y4, y2, y1, y3, y0⟩ := five_get h12
      obtain ⟨n0, n1, n2, n3, n4⟩ := five_at y4
      have fn := thaw_at y4
      have ln := lt_of_heap y4
      have hz13 := five_set4 (five_set4 h12 hst12 0 (.int .i64 r)) hst12 1 (.int .i64 0)
      have HZ13 := Lib.hid hz13
      clear h11 h12 y0 y1 y2 y3 y4 HRC2 HRC HY HX hz13
      (repeat' (first | (go_big_may; fail) | go_values | go_skip | go_guarded | go_step | go_upon | go_back | dsimp only))
      clear n0 n1 n2 n3 n4 fn ln
      generalize (World.setCell (World.setCell w7 _ _) _ _) = wz at *
      obtain ⟨y4, y2, y1, y3, y0⟩ := five_get HZ13.out
      obtain ⟨n0, n1, _, _, _⟩ := five_at y4
      have cx3 := cell_at HZ13.out.drop.cell.1 3
      have cs3 := cell_at y0 3
      have lkx := lt_of_heap HZ13.out.drop.cell.1
      have ls := lt_of_heap y0
      have ln := lt_of_heap y4
      have hst13 := (FiveT.stable s #[.int .i64 o1, .int .i64 o2, .int .i64 o3, .slice av ss.length cv] noAn noAn (an6C ⟨r, (appendP S1 r (cat ss)).2, [], false, []⟩ (.slice none 0 0)) (an6C ⟨r, 0, [], false, []⟩ (.slice none 0 0))).both hst12
      go_cut [] (fun wx => At W wx (Both (FiveT s #[.int .i64 o1, .int .i64 o2, .int .i64 o3, .slice av ss.length cv] noAn noAn (an6C ⟨r, (appendP S1 r (cat ss)).2, [], false, []⟩ (.slice none 0 0)) (an6C ⟨r, (appendP S1 r (cat ss)).2, [], false, []⟩ (.slice none 0 0))) (Both (CellT kx (wldC sb rb a b c d) tWld) (Both (StoreT sb (appendP S1 r (cat ss)).1) (Both (RefT rb (appendP S1 r (cat ss)).1) R)))))
      case first =>
        refine wp_only ?_
        rename_i J K' hJ hK
        have HJ := Lib.hid hJ
        have HK := Lib.hid hK
        clear hJ hK
        have hsx := (FiveT.stable s #[.int .i64 o1, .int .i64 o2, .int .i64 o3, .slice av ss.length cv] noAn noAn (an6C ⟨r, (appendP S1 r (cat ss)).2, [], false, []⟩ (.slice none 0 0)) (an6C ⟨r, 0, [], false, []⟩ (.slice none 0 0))).both ((CellT.stable kx (wldC sb rb a b c d) tWld).both ((StoreT.stable sb (appendP S1 r (cat ss)).1).both hR))
        have hd : At W wz.drew (Both (RefT rb S1) (Both (FiveT s #[.int .i64 o1, .int .i64 o2, .int .i64 o3, .slice av ss.length cv] noAn noAn (an6C ⟨r, (appendP S1 r (cat ss)).2, [], false, []⟩ (.slice none 0 0)) (an6C ⟨r, 0, [], false, []⟩ (.slice none 0 0))) (Both (CellT kx (wldC sb rb a b c d) tWld) (Both (StoreT sb (appendP S1 r (cat ss)).1) R)))) := (HZ13.out.drew hst13).perm (by ac_rfl)
        have HAP := Lib.hid (rAppend_at hd hsx HG1.out hri HV.out (by omega))
        have hcg := And.intro cx3 (And.intro n0 cs3)
        clear hd y0 y1 y2 y3 y4
        go_region_held3 (fun wx => wx.cell? ⟨kx, 3, none⟩ = some (.pointer (some ⟨rb, 0, none⟩)) ∧ wx.cell? ⟨s + 1 + 1 + 1 + 1, 0, none⟩ = some (.int .i64 r) ∧ wx.cell? ⟨s, 3, none⟩ = some (.slice av ss.length cv)) (first | assumption | exact keep_store3 (by assumption) | go_keep) (first
          | (go_at_call 65; refine HAP.out.mono ?_; rintro e w8 ⟨rfl, h13⟩
             have h14 : At W w8 (Both (FiveT s #[.int .i64 o1, .int .i64 o2, .int .i64 o3, .slice av ss.length cv] noAn noAn (an6C ⟨r, (appendP S1 r (cat ss)).2, [], false, []⟩ (.slice none 0 0)) (an6C ⟨r, 0, [], false, []⟩ (.slice none 0 0))) (Both (CellT kx (wldC sb rb a b c d) tWld) (Both (StoreT sb (appendP S1 r (cat ss)).1) (Both (RefT rb (appendP S1 r (cat ss)).1) R)))) := h13.perm (by ac_rfl)
             obtain ⟨y4, y2, y1, y3, y0⟩ := five_get h14
             obtain ⟨k0, k1, _, _, _⟩ := five_at y4
             have kf := thaw_at y4
             have q3 := cell_at h14.drop.cell.1 3
             have q4 := cell_at y0 3
             have lk4 := lt_of_heap y4; have lk5 := lt_of_heap h14.drop.cell.1; have lk6 := lt_of_heap y0
             have cg8 := And.intro q3 (And.intro k0 q4)
             have H14 := Lib.hid h14
             clear h13 h14 y0 y1 y2 y3 y4))
        all_goals
          refine HK.out _ _ ?_
          have hJ := HJ.out
          go_meet
          case rel => exact five_set4 H14.out ((CellT.stable kx (wldC sb rb a b c d) tWld).both ((StoreT.stable sb (appendP S1 r (cat ss)).1).both ((RefT.stable rb _).both hR))) 1 (.int .i64 (appendP S1 r (cat ss)).2)
      case rest =>
        have HA := Lib.hid hcut
        clear hcut HZ13 hst12 hst13 y0 y1 y2 y3 y4 n0 n1 cx3 cs3 lkx ls ln
        obtain ⟨y4, y2, y1, y3, y0⟩ := five_get HA.out
        obtain ⟨n0, n1, _, _, _⟩ := five_at y4
        have cx3 := cell_at HA.out.drop.cell.1 3
        have lkx := lt_of_heap HA.out.drop.cell.1
        have ln := lt_of_heap y4
        have HE := Lib.hid HA.out
        clear y0 y1 y2 y3 y4
        obtain ⟨y4, y2, y1, y3, y0⟩ := five_get HE.out
        obtain ⟨x0, x1, x2, x3, x4⟩ := five_at y3
        obtain ⟨v0, v1, v2, v3, v4⟩ := five_at y4
        obtain ⟨p0, p1, p2, p3, p4⟩ := five_at y1
        obtain ⟨r0, r1, r2, r3, r4⟩ := five_at y2
        have g4 := thaw_at y1
        have g5 := thaw_at y2
        have l4 := lt_of_heap y1; have l5 := lt_of_heap y2; have l6 := lt_of_heap y3; have l7 := lt_of_heap y4
        have Y1 := Lib.hid y1
        have Y2 := Lib.hid y2
        clear y0 y1 y2 y3 y4
        (repeat' (first | (go_big_may; fail) | go_values | go_skip | go_guarded | go_step | go_upon | go_back | dsimp only))
        go_region
        (repeat' (first | (go_big_may; fail) | go_values | go_skip | go_guarded | go_step | go_upon | go_back | dsimp only))
        (try simp only [Exit.inBlock, Exit.then])
        refine bodyPost_ret (results_cells2 rfl _ _ (s + 1) (s + 1 + 1) tAn6 tAn6 (an6C ⟨r, (appendP S1 r (cat ss)).2, [], false, []⟩ (.slice none 0 0)) (an6C ⟨r, (appendP S1 r (cat ss)).2, [], false, []⟩ (.slice none 0 0)) (0, 0) (0, 0) _ rfl rfl ?_ ?_ Tryd.underlying59 rfl (by kernel_rfl) (by kernel_rfl)) rfl ?_
        · rw [heap_drew]; simp [World.setCell, Array.getElem?_modify, Y1.out]
        · rw [heap_drew]; simp [World.setCell, Array.getElem?_modify, Y2.out]
        · rw [HRES.out]
          refine ⟨rfl, ?_⟩
          exact HE.out.loseU [s + 1, s + 1 + 1, s + 1 + 1 + 1 + 1] ((CellT.stable _ _ _).both ((StoreT.stable _ _).both ((RefT.stable _ _).both hR))) (fun fp h => cellsT_mem h) (by repeat' (first | with_reducible exact Upd.refl _ _ | (with_reducible refine Upd.drew ?_) | (with_reducible refine Upd.setCell ?_ (.inl (by simp)) _)))
end
end Go.Proofs.YtiimpnhjnodgpaaDoor
