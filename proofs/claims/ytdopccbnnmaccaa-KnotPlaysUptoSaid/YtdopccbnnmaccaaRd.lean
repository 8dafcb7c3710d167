/- The program's knot and the reference's, side by side: the walk of KnotPlays. -/
import Derived.Test.YtdopccbnnmaccaaRc
import Derived.Test.YtdopccbnnmaccaaKj
import Derived.Test.YtdopccbnnmaccaaPo
namespace Go.Proofs.Ytdopccbnnmaccaa.Kn
open Go.RowKit
set_option linter.unusedVariables false
set_option linter.unusedSimpArgs false
set_option maxHeartbeats 4000000

section
variable {w : World} {base mb n : Nat} {vC vM : Value} {C : Nat → Nat} {M : Nat → Int}
theorem rtie_any (h : RS w base mb vC vM n C M) (hg : Good n C M) (a b : Int) :
    Calls Try.prog 20 #[.pointer (some ⟨mb, 0, none⟩), .int .i64 a, .int .i64 b] w fun e w' => e = .returned (.bool (tieOk n M a b)) ∧ RS w' base mb vC vM n (tieNC n C M a b) (tieNM n C M a b) ∧ FrR mb vC.ownBlock vM.ownBlock w w' := by
  by_cases hin : 0 ≤ a ∧ a < n ∧ 0 ≤ b ∧ b < n
  · obtain ⟨i, rfl⟩ := Int.eq_ofNat_of_zero_le hin.1
    obtain ⟨j, rfl⟩ := Int.eq_ofNat_of_zero_le hin.2.2.1
    have hi : i < n := by omega
    have hj : j < n := by omega
    have m1 := hg.nn i hi
    have m2 := hg.nn j hj
    by_cases hc : M i ≠ 0 ∧ M j ≠ 0 ∧ M i ≠ M j
    · have hok : tieOk n M (i : Int) (j : Int) = false := by simp only [tieOk, Int.toNat_natCast, decide_eq_false_iff_not]; omega
      refine (rtie_c h i j hi hj _ _ rfl rfl (by simpa using hc.1) (by simpa using hc.2.1) (by simpa using hc.2.2)).mono ?_
      rintro e w' ⟨rfl, k, rfl⟩
      rw [hok]
      refine ⟨rfl, ?_, (FrR.refl _ _ _ _).drewN _⟩
      simp only [tieNC, tieNM, hok]
      exact h.drewN _
    · have hok : tieOk n M (i : Int) (j : Int) = true := by simp only [tieOk, Int.toNat_natCast, decide_eq_true_eq]; omega
      have key : Calls Try.prog 20 #[.pointer (some ⟨mb, 0, none⟩), .int .i64 i, .int .i64 j] w fun e w' => e = .returned (.bool true) ∧ RS w' base mb vC vM n (tieC C i j) (tieM C M i j) ∧ FrR mb vC.ownBlock vM.ownBlock w w' := by
        by_cases h1 : M i = 0
        · exact rtie_z h i j hi hj _ _ rfl rfl (by simp [h1])
        · by_cases h2 : M j = 0
          · exact rtie_y h i j hi hj _ _ rfl rfl (by simp [h1]) (by simp [h2])
          · exact rtie_e h i j hi hj _ _ rfl rfl (by simp [h1]) (by simp [h2]) (by simp; omega)
      refine key.mono ?_
      rintro e w' ⟨rfl, hk, hf⟩
      rw [hok]
      refine ⟨rfl, ?_, hf⟩
      simp only [tieNC, tieNM, hok, if_true]
      exact hk
  · have hok : tieOk n M a b = false := by simp only [tieOk, decide_eq_false_iff_not]; omega
    refine (rtie_out h a b hin).mono ?_
    rintro e w' ⟨rfl, k, rfl⟩
    rw [hok]
    refine ⟨rfl, ?_, (FrR.refl _ _ _ _).drewN _⟩
    simp only [tieNC, tieNM, hok]
    exact h.drewN _
end

/-- The program's knot stands for s, the reference's for t; the blocks K of steps stand as they were laid. -/
def KQ (w0 : World) (base kb mb : Nat) (K : List (Nat × Array Value)) (s t : St) (w : World) : Prop :=
  ∃ v vC vM, KA w base kb v s.n s.C s.M ∧ RS w base mb vC vM t.n t.C t.M ∧ Below base w0 w ∧ base ≤ w.heap.size ∧ ∀ p ∈ K, w.heap[p.1]? = some (.cells p.2 32 (0, 0))

section
variable {w0 w : World} {base kb mb : Nat} {K : List (Nat × Array Value)} {s t : St}
theorem KA.rs {w' : World} {v : Value} {n : Nat} {C : Nat → Nat} {M : Nat → Int} (h : KA w base kb v n C M) {vC vM : Value} {n' : Nat} {C' : Nat → Nat} {M' : Nat → Int} (hr : RS w base mb vC vM n' C' M') (hf : Fr kb v.ownBlock w w') : RS w' base mb vC vM n' C' M' :=
  ⟨hr.mbb, h.block_kept hf hr.blk (by decide) (by decide), h.row_kept hf hr.ownC (by decide) (by decide), h.row_kept hf hr.ownM (by decide) (by decide), hr.ne⟩
theorem RS.ka {w' : World} {v : Value} {n : Nat} {C : Nat → Nat} {M : Nat → Int} (h : KA w base kb v n C M) {vC vM : Value} {n' : Nat} {C' : Nat → Nat} {M' : Nat → Int} (hr : RS w base mb vC vM n' C' M') (hf : FrR mb vC.ownBlock vM.ownBlock w w') : KA w' base kb v n C M := by
  have x0 := h.other hr.blk (by decide) (by decide)
  have xC : ∀ g, vC.ownBlock = some g → g ≠ kb ∧ some g ≠ v.ownBlock := fun g e => by
    obtain ⟨cur, hc⟩ := row_block hr.ownC g e
    exact h.other hc (by decide) (by decide)
  have xM : ∀ g, vM.ownBlock = some g → g ≠ kb ∧ some g ≠ v.ownBlock := fun g e => by
    obtain ⟨cur, hc⟩ := row_block hr.ownM g e
    exact h.other hc (by decide) (by decide)
  obtain ⟨L, rt, dp, hk, hrr, hg⟩ := h
  have kept : ∀ k, k < w.heap.size → (k = kb ∨ some k = v.ownBlock) → w'.heap[k]? = w.heap[k]? := by
    intro k hlt q
    refine hf.block k hlt ?_ ?_ ?_
    · intro e; subst e; rcases q with q | q
      · exact x0.1 q
      · exact x0.2 q
    · intro e; rcases q with q | q
      · exact (xC k e.symm).1 q
      · exact (xC k e.symm).2 q
    · intro e; rcases q with q | q
      · exact (xM k e.symm).1 q
      · exact (xM k e.symm).2 q
  refine ⟨L, rt, dp, ⟨hk.kbb, (kept kb hk.lt (Or.inl rfl)).trans hk.blk, hk.own.1, ?_⟩, hrr, hg⟩
  rcases hk.own.2 with q | ⟨g, cap, cur, rfl, hb, hg2, rest⟩
  · exact .inl q
  · exact .inr ⟨g, cap, cur, rfl, hb, (kept g (Array.getElem?_eq_some_iff.1 hg2).1 (Or.inr rfl)).trans hg2, rest⟩
theorem RS.block_kept {w' : World} {vC vM : Value} {n' : Nat} {C' : Nat → Nat} {M' : Nat → Int} (hr : RS w base mb vC vM n' C' M') (hf : FrR mb vC.ownBlock vM.ownBlock w w') {g : Nat} {cur : Array Value} {ty : TypeId} (hg : w.heap[g]? = some (.cells cur ty (0, 0))) (h1 : ty ≠ 37) (h2 : ty ≠ 3) : w'.heap[g]? = some (.cells cur ty (0, 0)) := by
  rw [hf.block g (Array.getElem?_eq_some_iff.1 hg).1 ?_ ?_ ?_]
  · exact hg
  · intro e; subst e; rw [hr.blk] at hg; simp at hg; exact h1 hg.2.symm
  · intro e
    obtain ⟨c, hc⟩ := row_block hr.ownC g e.symm
    rw [hc] at hg; simp at hg; exact h2 hg.2.symm
  · intro e
    obtain ⟨c, hc⟩ := row_block hr.ownM g e.symm
    rw [hc] at hg; simp at hg; exact h2 hg.2.symm
theorem KQ.alloc (h : KQ w0 base kb mb K s t w) (o : Obj) : KQ w0 base kb mb K s t (w.alloc o) := by
  obtain ⟨v, vC, vM, h1, h2, h3, h4, h5⟩ := h
  exact ⟨v, vC, vM, h1.alloc o, h2.alloc o, h3.alloc h4 o, Nat.le_trans h4 (by simp), fun p hp => (Below.heap_alloc w o p.1 (Array.getElem?_eq_some_iff.1 (h5 p hp)).1).trans (h5 p hp)⟩
theorem KQ.drewN (h : KQ w0 base kb mb K s t w) (k : Nat) : KQ w0 base kb mb K s t (w.drewN k) := by
  obtain ⟨v, vC, vM, h1, h2, h3, h4, h5⟩ := h
  have hb := below_drewN k w.heap.size w
  exact ⟨v, vC, vM, h1.drewN k, h2.drewN k, h3.trans (hb.mono h4), Nat.le_trans h4 hb.size, fun p hp => (hb.block p.1 (Array.getElem?_eq_some_iff.1 (h5 p hp)).1).trans (h5 p hp)⟩
theorem KQ.drew (h : KQ w0 base kb mb K s t w) : KQ w0 base kb mb K s t w.drew := h.drewN 1
theorem KQ.kstep {w' : World} {v v' vC vM : Value} {s' : St} (h1 : KA w base kb v s.n s.C s.M) (h2 : RS w base mb vC vM t.n t.C t.M) (h3 : Below base w0 w) (h4 : base ≤ w.heap.size) (h5 : ∀ p ∈ K, w.heap[p.1]? = some (.cells p.2 32 (0, 0))) (hk : KA w' base kb v' s'.n s'.C s'.M) (hf : Fr kb v.ownBlock w w') : KQ w0 base kb mb K s' t w' :=
  ⟨v', vC, vM, hk, h1.rs h2 hf, h3.trans (h1.fr_below h4 hf), Nat.le_trans h4 hf.size, fun p hp => h1.block_kept hf (h5 p hp) (by decide) (by decide)⟩
theorem KQ.rstep {w' : World} {v vC vM vC' vM' : Value} {t' : St} (h1 : KA w base kb v s.n s.C s.M) (h2 : RS w base mb vC vM t.n t.C t.M) (h3 : Below base w0 w) (h4 : base ≤ w.heap.size) (h5 : ∀ p ∈ K, w.heap[p.1]? = some (.cells p.2 32 (0, 0))) (hk : RS w' base mb vC' vM' t'.n t'.C t'.M) (hf : FrR mb vC.ownBlock vM.ownBlock w w') : KQ w0 base kb mb K s t' w' :=
  ⟨v, vC', vM', h2.ka h1 hf, hk, h3.trans (h2.fr_below h4 hf), Nat.le_trans h4 hf.size, fun p hp => h2.block_kept hf (h5 p hp) (by decide) (by decide)⟩
abbrev sAdd (s : St) : St := ⟨s.n + 1, addC s.n s.C, addM s.n s.M⟩
abbrev sMark (s : St) (x y : Int) : St := ⟨s.n, s.C, markN s.n s.C s.M x y⟩
abbrev sTie (s : St) (x y : Int) : St := ⟨s.n, tieNC s.n s.C s.M x y, tieNM s.n s.C s.M x y⟩
theorem q_add (h : KQ w0 base kb mb K s t w) (hn : s.n + 1 ≤ 4398046511104) : Calls Try.prog 15 #[.pointer (some ⟨kb, 0, none⟩)] w fun e w' => e = .returned (.int .i64 (s.n : Int)) ∧ KQ w0 base kb mb K (sAdd s) t w' := by
  obtain ⟨v, vC, vM, h1, h2, h3, h4, h5⟩ := h
  refine (add_any h1 hn h4).mono ?_
  rintro e w' ⟨rfl, v', hk, hf, _⟩
  exact ⟨rfl, KQ.kstep (s' := sAdd s) h1 h2 h3 h4 h5 hk hf⟩
theorem q_mark (h : KQ w0 base kb mb K s t w) (x y : Int) : Calls Try.prog 17 #[.pointer (some ⟨kb, 0, none⟩), .int .i64 x, .int .i64 y] w fun e w' => e = .returned (.bool (markOk s.n s.M x y)) ∧ KQ w0 base kb mb K (sMark s x y) t w' := by
  obtain ⟨v, vC, vM, h1, h2, h3, h4, h5⟩ := h
  refine (mark_any h1 x y).mono ?_
  rintro e w' ⟨rfl, hk, hf⟩
  exact ⟨rfl, KQ.kstep (s' := sMark s x y) h1 h2 h3 h4 h5 hk hf⟩
theorem q_tie (h : KQ w0 base kb mb K s t w) (x y : Int) : Calls Try.prog 19 #[.pointer (some ⟨kb, 0, none⟩), .int .i64 x, .int .i64 y] w fun e w' => e = .returned (.bool (tieOk s.n s.M x y)) ∧ KQ w0 base kb mb K (sTie s x y) t w' := by
  obtain ⟨v, vC, vM, h1, h2, h3, h4, h5⟩ := h
  refine (tie_any h1 x y).mono ?_
  rintro e w' ⟨rfl, hk, hf⟩
  exact ⟨rfl, KQ.kstep (s' := sTie s x y) h1 h2 h3 h4 h5 hk hf⟩
theorem q_of (h : KQ w0 base kb mb K s t w) (x : Int) : Calls Try.prog 11 #[.pointer (some ⟨kb, 0, none⟩), .int .i64 x] w fun e w' => e = .returned (.int .i64 (ofA s.n s.M x)) ∧ KQ w0 base kb mb K s t w' := by
  obtain ⟨v, vC, vM, h1, h2, h3, h4, h5⟩ := h
  refine (of_any h1 x).mono ?_
  rintro e w' ⟨rfl, hk, hf⟩
  exact ⟨rfl, KQ.kstep h1 h2 h3 h4 h5 hk hf⟩
theorem q_least (h : KQ w0 base kb mb K s t w) (x : Int) : Calls Try.prog 12 #[.pointer (some ⟨kb, 0, none⟩), .int .i64 x] w fun e w' => e = .returned (.int .i64 (leastA s.n s.C x)) ∧ KQ w0 base kb mb K s t w' := by
  obtain ⟨v, vC, vM, h1, h2, h3, h4, h5⟩ := h
  refine (least_any h1 x).mono ?_
  rintro e w' ⟨rfl, hk, hf⟩
  exact ⟨rfl, KQ.kstep h1 h2 h3 h4 h5 hk hf⟩
theorem q_alike (h : KQ w0 base kb mb K s t w) (x y : Int) : Calls Try.prog 23 #[.pointer (some ⟨kb, 0, none⟩), .int .i64 x, .int .i64 y] w fun e w' => e = .returned (.bool (alikeA s.n s.C x y)) ∧ KQ w0 base kb mb K s t w' := by
  obtain ⟨v, vC, vM, h1, h2, h3, h4, h5⟩ := h
  refine (alike_any h1 x y).mono ?_
  rintro e w' ⟨rfl, hk, hf⟩
  exact ⟨rfl, KQ.kstep h1 h2 h3 h4 h5 hk hf⟩
theorem q_len (h : KQ w0 base kb mb K s t w) : Calls Try.prog 10 #[.pointer (some ⟨kb, 0, none⟩)] w fun e w' => e = .returned (.int .i64 (s.n : Int)) ∧ w = w' := by
  obtain ⟨v, vC, vM, h1, h2, h3, h4, h5⟩ := h
  exact h1.len_any
theorem r_add (h : KQ w0 base kb mb K s t w) (hn : t.n + 1 ≤ 4398046511104) : Calls Try.prog 16 #[.pointer (some ⟨mb, 0, none⟩)] w fun e w' => e = .returned (.int .i64 (t.n : Int)) ∧ KQ w0 base kb mb K s (sAdd t) w' := by
  obtain ⟨v, vC, vM, h1, h2, h3, h4, h5⟩ := h
  refine (radd_any h2 hn h4).mono ?_
  rintro e w' ⟨rfl, vC', vM', hk, hf⟩
  exact ⟨rfl, KQ.rstep (t' := sAdd t) h1 h2 h3 h4 h5 hk hf⟩
theorem r_mark (h : KQ w0 base kb mb K s t w) (hg : Good t.n t.C t.M) (x y : Int) : Calls Try.prog 18 #[.pointer (some ⟨mb, 0, none⟩), .int .i64 x, .int .i64 y] w fun e w' => e = .returned (.bool (markOk t.n t.M x y)) ∧ KQ w0 base kb mb K s (sMark t x y) w' := by
  obtain ⟨v, vC, vM, h1, h2, h3, h4, h5⟩ := h
  refine (rmark_any h2 h4 hg x y).mono ?_
  rintro e w' ⟨rfl, hk, hf⟩
  exact ⟨rfl, KQ.rstep (t' := sMark t x y) h1 h2 h3 h4 h5 hk hf⟩
theorem r_tie (h : KQ w0 base kb mb K s t w) (hg : Good t.n t.C t.M) (x y : Int) : Calls Try.prog 20 #[.pointer (some ⟨mb, 0, none⟩), .int .i64 x, .int .i64 y] w fun e w' => e = .returned (.bool (tieOk t.n t.M x y)) ∧ KQ w0 base kb mb K s (sTie t x y) w' := by
  obtain ⟨v, vC, vM, h1, h2, h3, h4, h5⟩ := h
  refine (rtie_any h2 hg x y).mono ?_
  rintro e w' ⟨rfl, hk, hf⟩
  exact ⟨rfl, KQ.rstep (t' := sTie t x y) h1 h2 h3 h4 h5 hk hf⟩
theorem r_of (h : KQ w0 base kb mb K s t w) (x : Int) : Calls Try.prog 21 #[.pointer (some ⟨mb, 0, none⟩), .int .i64 x] w fun e w' => e = .returned (.int .i64 (ofA t.n t.M x)) ∧ w = w' := by
  obtain ⟨v, vC, vM, h1, h2, h3, h4, h5⟩ := h
  exact rof_any h2 x
theorem r_least (h : KQ w0 base kb mb K s t w) (x : Int) : Calls Try.prog 22 #[.pointer (some ⟨mb, 0, none⟩), .int .i64 x] w fun e w' => e = .returned (.int .i64 (leastA t.n t.C x)) ∧ w = w' := by
  obtain ⟨v, vC, vM, h1, h2, h3, h4, h5⟩ := h
  exact rleast_any h2 x
theorem r_alike (h : KQ w0 base kb mb K s t w) (x y : Int) : Calls Try.prog 24 #[.pointer (some ⟨mb, 0, none⟩), .int .i64 x, .int .i64 y] w fun e w' => e = .returned (.bool (alikeA t.n t.C x y)) ∧ KQ w0 base kb mb K s t w' := by
  have h0 := h
  obtain ⟨v, vC, vM, h1, h2, h3, h4, h5⟩ := h
  refine (ralike_any h2 x y).mono ?_
  rintro e w' ⟨rfl, k, rfl⟩
  exact ⟨rfl, h0.drewN k⟩
/-- A step's block, laid anew. -/
theorem KQ.lay (h : KQ w0 base kb mb K s t w) (c : Array Value) : KQ w0 base kb mb ((w.heap.size, c) :: K) s t (w.alloc (.cells c 32)) := by
  obtain ⟨v, vC, vM, h1, h2, h3, h4, h5⟩ := h.alloc (.cells c 32)
  refine ⟨v, vC, vM, h1, h2, h3, h4, fun p hp => ?_⟩
  rcases List.mem_cons.mp hp with e | e
  · subst e; exact heap_alloc_new w _
  · exact h5 p e
theorem KQ.drop {p : Nat × Array Value} (h : KQ w0 base kb mb (p :: K) s t w) : KQ w0 base kb mb K s t w := by
  obtain ⟨v, vC, vM, h1, h2, h3, h4, h5⟩ := h
  exact ⟨v, vC, vM, h1, h2, h3, h4, fun q hq => h5 q (List.mem_cons_of_mem _ hq)⟩
theorem KQ.block {g : Nat} {c : Array Value} (h : KQ w0 base kb mb ((g, c) :: K) s t w) : w.heap[g]? = some (.cells c 32 (0, 0)) := by
  obtain ⟨v, vC, vM, h1, h2, h3, h4, h5⟩ := h
  exact h5 (g, c) (List.mem_cons_self ..)
theorem KQ.cells {g : Nat} {x1 x2 x3 : Value} (h : KQ w0 base kb mb ((g, #[x1, x2, x3]) :: K) s t w) : w.cell? ⟨g, 0, none⟩ = some x1 ∧ w.cell? ⟨g, 1, none⟩ = some x2 ∧ w.cell? ⟨g, 2, none⟩ = some x3 := by
  have hb := h.block
  refine ⟨?_, ?_, ?_⟩
  · rw [cell_of_row w g 0 _ 32 (0, 0) hb]; rfl
  · rw [cell_of_row w g 1 _ 32 (0, 0) hb]; rfl
  · rw [cell_of_row w g 2 _ 32 (0, 0) hb]; rfl
theorem KQ.below_ (h : KQ w0 base kb mb K s t w) : Below base w0 w ∧ base ≤ w.heap.size := by
  obtain ⟨v, vC, vM, h1, h2, h3, h4, h5⟩ := h
  exact ⟨h3, h4⟩
theorem KQ.new (w : World) : KQ w w.heap.size w.heap.size (w.heap.size + 1) [] (bare 0) (bare 0) ((w.alloc (.cells #[.slice none 0 0] 43)).alloc (.cells #[.slice none 0 0, .slice none 0 0] 37)) := by
  refine ⟨.slice none 0 0, .slice none 0 0, .slice none 0 0, ?_, ⟨by omega, ?_, World.ownsRow_nil _ _ _ _, World.ownsRow_nil _ _ _ _, fun g e => by simp [Value.ownBlock] at e⟩, ((Below.refl _ _).alloc (Nat.le_refl _) _).alloc (by simp) _, by simp; omega, fun p hp => by simp at hp⟩
  · exact ((KA.new w w.heap.size (Nat.le_refl _)).alloc _).congr (fun i hi => by simp [bare] at hi) (fun i hi => by simp [bare] at hi)
  · have := heap_alloc_new (w.alloc (.cells #[.slice none 0 0] 43)) (.cells #[.slice none 0 0, .slice none 0 0] 37)
    simp only [World.size_alloc] at this
    exact this
theorem KQ.good (h : KQ w0 base kb mb K s t w) : Good s.n s.C s.M := by
  obtain ⟨v, vC, vM, h1, h2, h3, h4, h5⟩ := h
  exact h1.good
end
end Go.Proofs.Ytdopccbnnmaccaa.Kn
