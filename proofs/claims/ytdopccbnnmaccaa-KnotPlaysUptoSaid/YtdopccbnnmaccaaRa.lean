/- The reference's knot in memory: two rows beside one another; what reads them. -/
import Derived.Test.YtdopccbnnmaccaaKl
import Derived.BigQuiet
import Derived.Deep.QuietTactic
import Derived.Maps.AppendAt
import Derived.Deep.AppendLies
import Derived.Deep.DeepMust
namespace Go.Proofs.Ytdopccbnnmaccaa.Kn
open Go.RowKit
set_option linter.unusedVariables false
set_option linter.unusedSimpArgs false
set_option maxHeartbeats 2000000

def clsL (n : Nat) (C : Nat → Nat) : List Value := (List.range n).map fun i => .int .i64 (C i : Int)
def mkL (n : Nat) (M : Nat → Int) : List Value := (List.range n).map fun i => .int .i64 (M i)
theorem clsL_get (n : Nat) (C : Nat → Nat) (i : Nat) (h : i < n) : (clsL n C)[i]? = some (.int .i64 (C i : Int)) := by simp [clsL, h]
theorem mkL_get (n : Nat) (M : Nat → Int) (i : Nat) (h : i < n) : (mkL n M)[i]? = some (.int .i64 (M i)) := by simp [mkL, h]
theorem clsL_set (n : Nat) (C : Nat → Nat) (i c : Nat) : (clsL n C).set i (.int .i64 (c : Int)) = clsL n (fun j => if j = i then c else C j) := by
  apply List.ext_getElem?
  intro j
  rw [List.getElem?_set]
  by_cases hj : j < n
  · rw [clsL_get _ _ j hj, clsL_get _ _ j hj]
    by_cases e : i = j
    · subst e; simp [clsL, hj]
    · have e' : ¬ j = i := fun q => e q.symm
      simp [e, e']
  · have h1 : (clsL n C)[j]? = none := by simp [clsL]; omega
    have h2 : (clsL n fun j => if j = i then c else C j)[j]? = none := by simp [clsL]; omega
    rw [h1, h2]
    split
    · split
      · rename_i e q; subst e; simp [clsL] at q; omega
      · rfl
    · rfl
theorem mkL_set (n : Nat) (M : Nat → Int) (i : Nat) (m : Int) : (mkL n M).set i (.int .i64 m) = mkL n (fun j => if j = i then m else M j) := by
  apply List.ext_getElem?
  intro j
  rw [List.getElem?_set]
  by_cases hj : j < n
  · rw [mkL_get _ _ j hj, mkL_get _ _ j hj]
    by_cases e : i = j
    · subst e; simp [mkL, hj]
    · have e' : ¬ j = i := fun q => e q.symm
      simp [e, e']
  · have h1 : (mkL n M)[j]? = none := by simp [mkL]; omega
    have h2 : (mkL n fun j => if j = i then m else M j)[j]? = none := by simp [mkL]; omega
    rw [h1, h2]
    split
    · split
      · rename_i e q; subst e; simp [mkL] at q; omega
      · rfl
    · rfl
theorem clsL_congr (n : Nat) {C C' : Nat → Nat} (h : ∀ i, i < n → C' i = C i) : clsL n C' = clsL n C := by
  unfold clsL; apply List.map_congr_left; intro i hi; rw [h i (List.mem_range.mp hi)]
theorem mkL_congr (n : Nat) {M M' : Nat → Int} (h : ∀ i, i < n → M' i = M i) : mkL n M' = mkL n M := by
  unfold mkL; apply List.map_congr_left; intro i hi; rw [h i (List.mem_range.mp hi)]
theorem clsL_snoc (n : Nat) (C : Nat → Nat) : clsL (n + 1) (addC n C) = clsL n C ++ [.int .i64 (n : Int)] := by
  unfold clsL
  rw [List.range_succ, List.map_append]
  congr 1
  · apply List.map_congr_left; intro i hi
    have : i < n := List.mem_range.mp hi
    simp [addC, show ¬ i = n by omega]
  · simp [addC]
theorem mkL_snoc (n : Nat) (M : Nat → Int) : mkL (n + 1) (addM n M) = mkL n M ++ [.int .i64 0] := by
  unfold mkL
  rw [List.range_succ, List.map_append]
  congr 1
  · apply List.map_congr_left; intro i hi
    have : i < n := List.mem_range.mp hi
    simp [addM, show ¬ i = n by omega]
  · simp [addM]

/-- The reference's knot whose pointer is block mb. -/
structure RS (w : World) (base mb : Nat) (vC vM : Value) (n : Nat) (C : Nat → Nat) (M : Nat → Int) : Prop where
  mbb : base ≤ mb
  blk : w.heap[mb]? = some (.cells #[vC, vM] 37 (0, 0))
  ownC : w.ownsRow base 3 1 vC n (clsL n C)
  ownM : w.ownsRow base 3 1 vM n (mkL n M)
  ne : ∀ g, vC.ownBlock = some g → vM.ownBlock ≠ some g
/-- What a call on it may turn. -/
structure FrR (mb : Nat) (oC oM : Option Nat) (w w' : World) : Prop where
  os : w'.os = w.os
  tape : w'.tape = w.tape
  output : w'.output = w.output
  size : w.heap.size ≤ w'.heap.size
  block : ∀ k, k < w.heap.size → k ≠ mb → some k ≠ oC → some k ≠ oM → w'.heap[k]? = w.heap[k]?
theorem FrR.refl (mb : Nat) (oC oM : Option Nat) (w : World) : FrR mb oC oM w w := ⟨rfl, rfl, rfl, Nat.le_refl _, fun _ _ _ _ _ => rfl⟩
theorem FrR.drew {mb : Nat} {oC oM : Option Nat} {a b : World} (h : FrR mb oC oM a b) : FrR mb oC oM a b.drew := ⟨h.os, h.tape, h.output, h.size, h.block⟩
theorem FrR.drewN {mb : Nat} {oC oM : Option Nat} {a : World} (n : Nat) : ∀ {b : World}, FrR mb oC oM a b → FrR mb oC oM a (b.drewN n) := by
  induction n with
  | zero => exact fun h => h
  | succ n ih => intro b h; rw [← World.drew_drewN]; exact (ih h).drew
theorem FrR.set_C {mb g : Nat} {oM : Option Nat} {a b : World} (h : FrR mb (some g) oM a b) (i : Nat) (u : Value) : FrR mb (some g) oM a (b.setCell ⟨g, i, none⟩ u) :=
  ⟨h.os, h.tape, h.output, Nat.le_trans h.size (by simp [World.setCell]), fun k hk h1 h2 h3 => (Below.heap_setCell b _ u k (by intro e; exact h2 (by rw [e]))).trans (h.block k hk h1 h2 h3)⟩
theorem FrR.set_M {mb g : Nat} {oC : Option Nat} {a b : World} (h : FrR mb oC (some g) a b) (i : Nat) (u : Value) : FrR mb oC (some g) a (b.setCell ⟨g, i, none⟩ u) :=
  ⟨h.os, h.tape, h.output, Nat.le_trans h.size (by simp [World.setCell]), fun k hk h1 h2 h3 => (Below.heap_setCell b _ u k (by intro e; exact h3 (by rw [e]))).trans (h.block k hk h1 h2 h3)⟩
theorem FrR.below {mb : Nat} {oC oM : Option Nat} {w w' : World} {B : Nat} (h : FrR mb oC oM w w') (hk : B ≤ mb) (h1 : ∀ x, oC = some x → B ≤ x) (h2 : ∀ x, oM = some x → B ≤ x) (hB : B ≤ w.heap.size) : Below B w w' :=
  ⟨h.os, h.tape, h.output, h.size, fun k hkk => h.block k (by omega) (by omega) (fun e => by have := h1 k e.symm; omega) (fun e => by have := h2 k e.symm; omega)⟩

section
variable {w w' : World} {base mb n : Nat} {vC vM : Value} {C : Nat → Nat} {M : Nat → Int}
theorem RS.congr {C' : Nat → Nat} {M' : Nat → Int} (h : RS w base mb vC vM n C M) (hC : ∀ i, i < n → C' i = C i) (hM : ∀ i, i < n → M' i = M i) : RS w base mb vC vM n C' M' :=
  ⟨h.mbb, h.blk, by rw [clsL_congr n hC]; exact h.ownC, by rw [mkL_congr n hM]; exact h.ownM, h.ne⟩
theorem RS.lt (h : RS w base mb vC vM n C M) : mb < w.heap.size := (Array.getElem?_eq_some_iff.1 h.blk).1
theorem RS.fr_below (h : RS w base mb vC vM n C M) (hB : base ≤ w.heap.size) (hf : FrR mb vC.ownBlock vM.ownBlock w w') : Below base w w' :=
  hf.below h.mbb (fun g e => (h.ownC.lt g e).1) (fun g e => (h.ownM.lt g e).1) hB
theorem RS.forms (h : RS w base mb vC vM n C M) (hn : 0 < n) : ∃ gC gM cC cM, vC = .slice (some ⟨gC, 0, none⟩) n cC ∧ vM = .slice (some ⟨gM, 0, none⟩) n cM ∧ n ≤ cC ∧ n ≤ cM ∧ cC ≤ maxLen ∧ cM ≤ maxLen ∧ gC ≠ gM ∧ gC ≠ mb ∧ gM ≠ mb := by
  rcases h.ownC.2 with ⟨_, e⟩ | ⟨gC, cC, cur, e1, _, q1, h1, h2, _⟩
  · omega
  · rcases h.ownM.2 with ⟨_, e⟩ | ⟨gM, cM, cur', e2, _, q2, h3, h4, _⟩
    · omega
    · refine ⟨gC, gM, cC, cM, e1, e2, h1, h3, h2, h4, ?_, ?_, ?_⟩
      · intro e; subst e
        exact h.ne gC (by rw [e1]; rfl) (by rw [e2]; rfl)
      · intro e; subst e; rw [h.blk] at q1; simp at q1
      · intro e; subst e; rw [h.blk] at q2; simp at q2
theorem RS.any_forms (h : RS w base mb vC vM n C M) : ∃ A B cC cM, vC = .slice A n cC ∧ vM = .slice B n cM ∧ n ≤ cC ∧ n ≤ cM ∧ cC ≤ maxLen ∧ cM ≤ maxLen := by
  have f : ∀ {v : Value} {xs : List Value}, w.ownsRow base 3 1 v n xs → ∃ A c, v = .slice A n c ∧ n ≤ c ∧ c ≤ maxLen := by
    intro v xs ho
    rcases ho.2 with ⟨e, e2⟩ | ⟨g, cap, cur, e, _, _, h1, h2, _⟩
    · exact ⟨none, 0, by rw [e2]; exact e, by omega, by decide⟩
    · exact ⟨_, _, e, h1, h2⟩
  obtain ⟨A, c, e, h1, h2⟩ := f h.ownC
  obtain ⟨B, d, e', h3, h4⟩ := f h.ownM
  exact ⟨A, B, c, d, e, e', h1, h3, h2, h4⟩
theorem RS.ptrC (h : RS w base mb vC vM n C M) : w.cell? ⟨mb, 0, none⟩ = some vC := by rw [cell_of_row w mb 0 _ 37 (0, 0) h.blk]; rfl
theorem RS.ptrM (h : RS w base mb vC vM n C M) : w.cell? ⟨mb, 1, none⟩ = some vM := by rw [cell_of_row w mb 1 _ 37 (0, 0) h.blk]; rfl
theorem RS.ptr_free (h : RS w base mb vC vM n C M) (i : Nat) : w.frozen? ⟨mb, i, none⟩ = false := by simp [World.frozen?, h.blk]
theorem RS.grow (h : RS w base mb vC vM n C M) (hb : Below w.heap.size w w') : RS w' base mb vC vM n C M := by
  have f : ∀ {v : Value} {xs : List Value}, w.ownsRow base 3 1 v n xs → w'.ownsRow base 3 1 v n xs := by
    intro v xs ho
    refine ⟨ho.1, ?_⟩
    rcases ho.2 with q | ⟨g, cap, cur, e, hbb, hg, rest⟩
    · exact .inl q
    · exact .inr ⟨g, cap, cur, e, hbb, (hb.block g (Array.getElem?_eq_some_iff.1 hg).1).trans hg, rest⟩
  exact ⟨h.mbb, (hb.block mb h.lt).trans h.blk, f h.ownC, f h.ownM, h.ne⟩
theorem RS.alloc (h : RS w base mb vC vM n C M) (o : Obj) : RS (w.alloc o) base mb vC vM n C M := h.grow ((Below.refl _ _).alloc (Nat.le_refl _) o)
theorem RS.drewN (h : RS w base mb vC vM n C M) (k : Nat) : RS (w.drewN k) base mb vC vM n C M := h.grow (below_drewN k _ w)
end
section
variable {w : World} {base mb n gC gM cC cM : Nat} {C : Nat → Nat} {M : Nat → Int}
theorem RS.cellC (h : RS w base mb (.slice (some ⟨gC, 0, none⟩) n cC) (.slice (some ⟨gM, 0, none⟩) n cM) n C M) (i : Nat) (hi : i < n) : w.cell? ⟨gC, i, none⟩ = some (.int .i64 (C i : Int)) := by
  rw [h.ownC.cellAt i (by omega), clsL_get n C i hi]
theorem RS.cellM (h : RS w base mb (.slice (some ⟨gC, 0, none⟩) n cC) (.slice (some ⟨gM, 0, none⟩) n cM) n C M) (i : Nat) (hi : i < n) : w.cell? ⟨gM, i, none⟩ = some (.int .i64 (M i)) := by
  rw [h.ownM.cellAt i (by omega), mkL_get n M i hi]
theorem RS.freeC (h : RS w base mb (.slice (some ⟨gC, 0, none⟩) n cC) (.slice (some ⟨gM, 0, none⟩) n cM) n C M) (i : Nat) : w.frozen? ⟨gC, i, none⟩ = false := h.ownC.frozenAt i
theorem RS.freeM (h : RS w base mb (.slice (some ⟨gC, 0, none⟩) n cC) (.slice (some ⟨gM, 0, none⟩) n cM) n C M) (i : Nat) : w.frozen? ⟨gM, i, none⟩ = false := h.ownM.frozenAt i
theorem own_set_far {w : World} {base e size n g : Nat} {v : Value} {xs : List Value} (h : w.ownsRow base e size v n xs) (hne : v.ownBlock ≠ some g) (i : Nat) (u : Value) : (w.setCell ⟨g, i, none⟩ u).ownsRow base e size v n xs :=
  h.kept (row := some g) ⟨rfl, rfl, rfl, by simp, fun k hk hq => heap_setCell_other w ⟨g, i, none⟩ k u (fun e => hq (by simp [e]))⟩ (Or.inr hne)
theorem RS.setC (h : RS w base mb (.slice (some ⟨gC, 0, none⟩) n cC) (.slice (some ⟨gM, 0, none⟩) n cM) n C M) (hgm : gC ≠ gM) (hgb : gC ≠ mb) (i c : Nat) : RS (w.setCell ⟨gC, i, none⟩ (.int .i64 (c : Int))) base mb (.slice (some ⟨gC, 0, none⟩) n cC) (.slice (some ⟨gM, 0, none⟩) n cM) n (fun j => if j = i then c else C j) M := by
  refine ⟨h.mbb, ?_, ?_, own_set_far h.ownM (by simp [Value.ownBlock]; exact fun e => hgm e.symm) i _, h.ne⟩
  · rw [Below.heap_setCell _ _ _ _ (by intro e; exact hgb e.symm)]; exact h.blk
  · have := (h.ownC.stored i (.int .i64 (c : Int))).1
    rw [clsL_set] at this
    exact this
theorem RS.setM (h : RS w base mb (.slice (some ⟨gC, 0, none⟩) n cC) (.slice (some ⟨gM, 0, none⟩) n cM) n C M) (hgm : gC ≠ gM) (hgb : gM ≠ mb) (i : Nat) (m : Int) : RS (w.setCell ⟨gM, i, none⟩ (.int .i64 m)) base mb (.slice (some ⟨gC, 0, none⟩) n cC) (.slice (some ⟨gM, 0, none⟩) n cM) n C (fun j => if j = i then m else M j) := by
  refine ⟨h.mbb, ?_, own_set_far h.ownC (by simp [Value.ownBlock]; exact hgm) i _, ?_, h.ne⟩
  · rw [Below.heap_setCell _ _ _ _ (by intro e; exact hgb e.symm)]; exact h.blk
  · have := (h.ownM.stored i (.int .i64 m)).1
    rw [mkL_set] at this
    exact this
end

def isB (n : Nat) (a : Int) : Bool := decide (0 ≤ a ∧ a < n)
section
variable {w : World} {base mb n : Nat} {vC vM : Value} {C : Nat → Nat} {M : Nat → Int}
theorem is_any (h : RS w base mb vC vM n C M) (a : Int) : Calls Try.prog 26 #[.pointer (some ⟨mb, 0, none⟩), .int .i64 a] w fun e w' => e = .returned (.bool (isB n a)) ∧ w = w' := by
  obtain ⟨A, B, cC, cM, rfl, rfl, _, _, _, _⟩ := h.any_forms
  have hp := h.ptrC
  by_cases h0 : 0 ≤ a
  · have d0 : decide (0 ≤ a) = true := decide_eq_true h0
    have HE : Hid (isB n a = decide (a < (n : Int))) := by show isB n a = _; simp [isB, h0]
    clear h
    go_enter Try.func26, Try.ntmps26
    go_wp2
    go_ret
    exact ⟨ret_b (by rw [HE.out]), rfl⟩
  · have d0 : decide (0 ≤ a) = false := decide_eq_false h0
    have HE : Hid (isB n a = false) := by show isB n a = _; simp [isB, h0]
    clear h
    go_enter Try.func26, Try.ntmps26
    go_wp2
    go_ret
    exact ⟨ret_b HE.out.symm, rfl⟩
theorem rof_any (h : RS w base mb vC vM n C M) (a : Int) : Calls Try.prog 21 #[.pointer (some ⟨mb, 0, none⟩), .int .i64 a] w fun e w' => e = .returned (.int .i64 (ofA n M a)) ∧ w = w' := by
  have his := is_any h a
  by_cases ha : 0 ≤ a ∧ a < n
  · obtain ⟨i, rfl⟩ := Int.eq_ofNat_of_zero_le ha.1
    have hi : i < n := by omega
    obtain ⟨gC, gM, cC, cM, rfl, rfl, h1, h2, h3, h4, h5, h6, h7⟩ := h.forms (by omega)
    have hp := h.ptrM
    have hc := h.cellM i hi
    have hu : cM ≤ 9223372036854775807 := by unfold maxLen at h4; exact h4
    rw [show isB n (i : Int) = true by simp [isB, hi]] at his
    have HE : Hid (ofA n M (i : Int) = M i) := by show ofA n M (i : Int) = M i; simp [ofA, hi]
    clear h ha h1 h3 h4 h5 h6 h7
    go_enter Try.func21, Try.ntmps21
    go_wp2_with (go_at_call 26; refine his.mono ?_; rintro e w1 ⟨rfl, rfl⟩)
    go_ret
    exact ⟨ret_i HE.out.symm, rfl⟩
  · rw [show isB n a = false by simp [isB]; omega] at his
    have HE : Hid (ofA n M a = 0) := by show ofA n M a = 0; simp [ofA, ha]
    clear h ha
    go_enter Try.func21, Try.ntmps21
    go_wp2_with (go_at_call 26; refine his.mono ?_; rintro e w1 ⟨rfl, rfl⟩)
    go_ret
    exact ⟨ret_i HE.out.symm, rfl⟩
theorem rleast_any (h : RS w base mb vC vM n C M) (a : Int) : Calls Try.prog 22 #[.pointer (some ⟨mb, 0, none⟩), .int .i64 a] w fun e w' => e = .returned (.int .i64 (leastA n C a)) ∧ w = w' := by
  have his := is_any h a
  by_cases ha : 0 ≤ a ∧ a < n
  · obtain ⟨i, rfl⟩ := Int.eq_ofNat_of_zero_le ha.1
    have hi : i < n := by omega
    obtain ⟨gC, gM, cC, cM, rfl, rfl, h1, h2, h3, h4, h5, h6, h7⟩ := h.forms (by omega)
    have hp := h.ptrC
    have hc := h.cellC i hi
    have hu : cC ≤ 9223372036854775807 := by unfold maxLen at h3; exact h3
    rw [show isB n (i : Int) = true by simp [isB, hi]] at his
    have HE : Hid (leastA n C (i : Int) = C i) := by show leastA n C (i : Int) = C i; simp [leastA, hi]
    clear h ha h2 h3 h4 h5 h6 h7
    go_enter Try.func22, Try.ntmps22
    go_wp2_with (go_at_call 26; refine his.mono ?_; rintro e w1 ⟨rfl, rfl⟩)
    go_ret
    exact ⟨ret_i HE.out.symm, rfl⟩
  · rw [show isB n a = false by simp [isB]; omega] at his
    have HE : Hid (leastA n C a = -1) := by show leastA n C a = -1; simp [leastA, ha]
    clear h ha
    go_enter Try.func22, Try.ntmps22
    go_wp2_with (go_at_call 26; refine his.mono ?_; rintro e w1 ⟨rfl, rfl⟩)
    go_ret
    exact ⟨ret_i HE.out.symm, rfl⟩
theorem is_same (h : RS w base mb vC vM n C M) (a : Int) (b : Bool) (hb : isB n a = b) : Calls Try.prog 26 #[.pointer (some ⟨mb, 0, none⟩), .int .i64 a] w fun e w' => e = .returned (.bool b) ∧ w' = w := by
  have := is_any h a
  rw [hb] at this
  exact this.mono fun e w' ⟨h1, h2⟩ => ⟨h1, h2.symm⟩
theorem ralike_any (h : RS w base mb vC vM n C M) (a b : Int) : Calls Try.prog 24 #[.pointer (some ⟨mb, 0, none⟩), .int .i64 a, .int .i64 b] w fun e w' => e = .returned (.bool (alikeA n C a b)) ∧ ∃ k, w' = w.drewN k := by
  by_cases ha : 0 ≤ a ∧ a < n
  · have his := fun k => is_same (h.drewN k) a true (by simp [isB]; omega)
    by_cases hb : 0 ≤ b ∧ b < n
    · have his2 := fun k => is_same (h.drewN k) b true (by simp [isB]; omega)
      obtain ⟨i, rfl⟩ := Int.eq_ofNat_of_zero_le ha.1
      obtain ⟨j, rfl⟩ := Int.eq_ofNat_of_zero_le hb.1
      have hi : i < n := by omega
      have hj : j < n := by omega
      obtain ⟨gC, gM, cC, cM, rfl, rfl, h1, h2, h3, h4, h5, h6, h7⟩ := h.forms (by omega)
      have hp := h.ptrC
      have hc := h.cellC i hi
      have hc2 := h.cellC j hj
      have hu : cC ≤ 9223372036854775807 := by unfold maxLen at h3; exact h3
      have HE : Hid (alikeA n C (i : Int) (j : Int) = ((C i : Int) == (C j : Int))) := by
        show alikeA n C (i : Int) (j : Int) = _
        rw [Bool.eq_iff_iff]; simp [alikeA, hi, hj]; omega
      have i0 : (0 : Int) ≤ (i : Int) := by omega
      have i1 : (i : Int) < (n : Int) := by omega
      have j0 : (0 : Int) ≤ (j : Int) := by omega
      have j1 : (j : Int) < (n : Int) := by omega
      clear h ha hb h2 h3 h4 h5 h6 h7
      go_enter Try.func24, Try.ntmps24
      go_wp2
      go_quiet ((go_at_call 26; first | (with_reducible exact Calls.quiet_of_same (his _)) | (with_reducible exact Calls.quiet_of_same (his2 _))))
      go_wp2
      go_ret
      exact ⟨ret_b HE.out.symm, _, rfl⟩
    · have his2 := fun k => is_same (h.drewN k) b false (by simp [isB]; omega)
      have HE : Hid (alikeA n C a b = false) := by show alikeA n C a b = _; simp [alikeA]; omega
      clear h ha hb
      go_enter Try.func24, Try.ntmps24
      go_wp2
      go_quiet ((go_at_call 26; first | (with_reducible exact Calls.quiet_of_same (his _)) | (with_reducible exact Calls.quiet_of_same (his2 _))))
      go_wp2
      go_ret
      exact ⟨ret_b HE.out.symm, _, rfl⟩
  · have his := fun k => is_same (h.drewN k) a false (by simp [isB]; omega)
    have HE : Hid (alikeA n C a b = false) := by show alikeA n C a b = _; simp [alikeA]; omega
    clear h ha
    go_enter Try.func24, Try.ntmps24
    go_wp2
    go_quiet ((go_at_call 26; first | (with_reducible exact Calls.quiet_of_same (his _))))
    go_wp2
    go_ret
    exact ⟨ret_b HE.out.symm, _, rfl⟩
end
end Go.Proofs.Ytdopccbnnmaccaa.Kn
