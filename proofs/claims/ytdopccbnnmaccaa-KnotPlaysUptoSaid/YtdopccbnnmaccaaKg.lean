/- Tie, whatever comes in; the steps of a script; three things; a knot that isn't there. -/
import Derived.Test.YtdopccbnnmaccaaKf
namespace Go.Proofs.Ytdopccbnnmaccaa.Kn
open Go.RowKit
set_option linter.unusedVariables false
set_option linter.unusedSimpArgs false
set_option maxHeartbeats 2000000

theorem Good.congr {n : Nat} {C C' : Nat → Nat} {M M' : Nat → Int} (h : Good n C M) (hC : ∀ i, i < n → C' i = C i) (hM : ∀ i, i < n → M' i = M i) : Good n C' M' := by
  refine ⟨fun i hi => by rw [hC i hi]; exact h.le i hi, fun i hi => ?_, fun i hi => ?_, fun i hi => by rw [hM i hi]; exact h.nn i hi⟩
  · have := h.le i hi
    rw [hC i hi, hC _ (by omega)]; exact h.idem i hi
  · have := h.le i hi
    rw [hC i hi, hM _ (by omega), hM i hi]; exact h.mkr i hi
theorem KA.congr {w : World} {base kb : Nat} {v : Value} {n : Nat} {C C' : Nat → Nat} {M M' : Nat → Int} (h : KA w base kb v n C M) (hC : ∀ i, i < n → C' i = C i) (hM : ∀ i, i < n → M' i = M i) : KA w base kb v n C' M' := by
  obtain ⟨L, rt, dp, hk, hr, hg⟩ := h
  exact ⟨L, rt, dp, hk, hr.congr hC hM, hg.congr hC hM⟩

theorem tie_any {w : World} {base kb : Nat} {v : Value} {n : Nat} {C : Nat → Nat} {M : Nat → Int} (h : KA w base kb v n C M) (a b : Int) :
    Calls Try.prog 19 #[.pointer (some ⟨kb, 0, none⟩), .int .i64 a, .int .i64 b] w fun e w' => e = .returned (.bool (tieOk n M a b)) ∧ KA w' base kb v n (tieNC n C M a b) (tieNM n C M a b) ∧ Fr kb v.ownBlock w w' := by
  by_cases hin : 0 ≤ a ∧ a < n ∧ 0 ≤ b ∧ b < n
  · obtain ⟨i, rfl⟩ := Int.eq_ofNat_of_zero_le hin.1
    obtain ⟨j, rfl⟩ := Int.eq_ofNat_of_zero_le hin.2.2.1
    have hi : i < n := by omega
    have hj : j < n := by omega
    have hg : Good n C M := by obtain ⟨_, _, _, _, _, hg⟩ := h; exact hg
    have m1 := hg.nn i hi
    have m2 := hg.nn j hj
    by_cases hs : C i = C j
    · have e : M i = M j := by rw [← hg.mkr i hi, ← hg.mkr j hj, hs]
      have hok : tieOk n M (i : Int) (j : Int) = true := by simp [tieOk, hi, hj, e]
      obtain ⟨s1, s2⟩ := tie_self hg hi hj hs
      refine (tie_same h i j hi hj hs).mono ?_
      rintro e w' ⟨rfl, hk, hf⟩
      rw [hok]
      refine ⟨rfl, ?_, hf⟩
      simp only [tieNC, tieNM, hok, if_true]
      exact hk.congr s1 s2
    · by_cases hc : 0 < M i ∧ 0 < M j ∧ M i ≠ M j
      · have hok : tieOk n M (i : Int) (j : Int) = false := by simp only [tieOk, Int.toNat_natCast, decide_eq_false_iff_not]; omega
        refine (tie_clash h i j hi hj hs _ _ rfl rfl hc.1 hc.2.1 (by simpa using hc.2.2)).mono ?_
        rintro e w' ⟨rfl, hk, hf⟩
        rw [hok]
        refine ⟨rfl, ?_, hf⟩
        simp only [tieNC, tieNM, hok]
        exact hk
      · have hok : tieOk n M (i : Int) (j : Int) = true := by simp only [tieOk, Int.toNat_natCast, decide_eq_true_eq]; omega
        have key : Calls Try.prog 19 #[.pointer (some ⟨kb, 0, none⟩), .int .i64 i, .int .i64 j] w fun e w' => e = .returned (.bool true) ∧ KA w' base kb v n (tieC C i j) (tieM C M i j) ∧ Fr kb v.ownBlock w w' := by
          by_cases h1 : 0 < M i
          · by_cases h2 : 0 < M j
            · exact tie_e h i j hi hj hs _ _ rfl rfl (decide_eq_true h1) (decide_eq_true h2) (by simp; omega)
            · exact tie_y h i j hi hj hs _ _ rfl rfl (decide_eq_true h1) (decide_eq_false h2)
          · exact tie_z h i j hi hj hs _ _ rfl rfl (decide_eq_false h1)
        refine key.mono ?_
        rintro e w' ⟨rfl, hk, hf⟩
        rw [hok]
        refine ⟨rfl, ?_, hf⟩
        simp only [tieNC, tieNM, hok, if_true]
        exact hk
  · have hok : tieOk n M a b = false := by simp only [tieOk, decide_eq_false_iff_not]; omega
    refine (tie_out h a b hin).mono ?_
    rintro e w' ⟨rfl, hk, hf⟩
    rw [hok]
    refine ⟨rfl, ?_, hf⟩
    simp only [tieNC, tieNM, hok]
    exact hk

/-! A knot that isn't there. -/
theorem nil_add (w : World) : Calls Try.prog 15 #[.pointer none] w fun e w' => e = .returned (.int .i64 0) ∧ w = w' := by
  go_enter Try.func15, Try.ntmps15
  go_wp2
  go_ret
  exact ⟨rfl, rfl⟩
theorem nil_of (a : Int) (w : World) : Calls Try.prog 11 #[.pointer none, .int .i64 a] w fun e w' => e = .returned (.int .i64 0) ∧ w = w' := by
  go_enter Try.func11, Try.ntmps11
  go_wp2_with (go_at_call 25; refine (top_nil _ _).mono ?_; rintro e w1 ⟨rfl, rfl⟩)
  go_ret
  exact ⟨rfl, rfl⟩
theorem nil_least (a : Int) (w : World) : Calls Try.prog 12 #[.pointer none, .int .i64 a] w fun e w' => e = .returned (.int .i64 (-1)) ∧ w = w' := by
  go_enter Try.func12, Try.ntmps12
  go_wp2_with (go_at_call 25; refine (top_nil _ _).mono ?_; rintro e w1 ⟨rfl, rfl⟩)
  go_ret
  exact ⟨rfl, rfl⟩
theorem nil_mark (a m : Int) (w : World) : Calls Try.prog 17 #[.pointer none, .int .i64 a, .int .i64 m] w fun e w' => e = .returned (.bool false) ∧ w = w' := by
  go_enter Try.func17, Try.ntmps17
  go_wp2_with (go_at_call 25; refine (top_nil _ _).mono ?_; rintro e w1 ⟨rfl, rfl⟩)
  go_ret
  exact ⟨rfl, rfl⟩
theorem nil_tie (a b : Int) (w : World) : Calls Try.prog 19 #[.pointer none, .int .i64 a, .int .i64 b] w fun e w' => e = .returned (.bool false) ∧ w = w' := by
  go_enter Try.func19, Try.ntmps19
  go_wp2_with (go_at_call 25; refine (top_nil _ _).mono ?_; rintro e w1 ⟨rfl, rfl⟩)
  go_ret
  exact ⟨rfl, rfl⟩
theorem nil_alike (a b : Int) (w : World) : Calls Try.prog 23 #[.pointer none, .int .i64 a, .int .i64 b] w fun e w' => e = .returned (.bool false) ∧ w = w' := by
  go_enter Try.func23, Try.ntmps23
  go_wp2_with (go_at_call 25; refine (top_nil _ _).mono ?_; rintro e w1 ⟨rfl, rfl⟩)
  go_ret
  exact ⟨rfl, rfl⟩

/-! The calls under one shape: the knot at kb, owning v, stands for a state; behind the call for another. -/
theorem KA.lt {w : World} {base kb : Nat} {v : Value} {n : Nat} {C : Nat → Nat} {M : Nat → Int} (h : KA w base kb v n C M) : base ≤ kb ∧ kb < w.heap.size := by
  obtain ⟨L, rt, dp, hk, hr, hg⟩ := h
  exact ⟨hk.kbb, hk.lt⟩
theorem KA.own_lt {w : World} {base kb : Nat} {v : Value} {n : Nat} {C : Nat → Nat} {M : Nat → Int} (h : KA w base kb v n C M) : ∀ g, v.ownBlock = some g → base ≤ g ∧ g < w.heap.size := by
  obtain ⟨L, rt, dp, hk, hr, hg⟩ := h
  exact fun g e => hk.own_lt e
theorem KA.good {w : World} {base kb : Nat} {v : Value} {n : Nat} {C : Nat → Nat} {M : Nat → Int} (h : KA w base kb v n C M) : Good n C M := by
  obtain ⟨L, rt, dp, hk, hr, hg⟩ := h
  exact hg
theorem KA.new (w : World) (base : Nat) (hb : base ≤ w.heap.size) : KA (w.alloc (.cells #[.slice none 0 0] 43)) base w.heap.size (.slice none 0 0) 0 (fun _ => 0) (fun _ => 0) :=
  ⟨[], fun _ => 0, fun _ => 0, KS.new w base hb, ⟨rfl, fun i hi => by omega, fun i hi => by omega, fun i hi => by omega, fun i hi => by omega, fun i hi => by omega, fun i hi => by omega, fun i hi => by omega, fun i hi => by omega, fun i j hi => by omega⟩, ⟨fun i hi => by omega, fun i hi => by omega, fun i hi => by omega, fun i hi => by omega⟩⟩
theorem KA.len_any {w : World} {base kb : Nat} {v : Value} {n : Nat} {C : Nat → Nat} {M : Nat → Int} (h : KA w base kb v n C M) : Calls Try.prog 10 #[.pointer (some ⟨kb, 0, none⟩)] w fun e w' => e = .returned (.int .i64 (n : Int)) ∧ w = w' := by
  obtain ⟨L, rt, dp, hk, hr, hg⟩ := h
  have := Kn.len_any hk
  rwa [hr.len] at this
theorem KA.grow {w w' : World} {base kb : Nat} {v : Value} {n : Nat} {C : Nat → Nat} {M : Nat → Int} (h : KA w base kb v n C M) (hb : Below w.heap.size w w') : KA w' base kb v n C M := by
  obtain ⟨L, rt, dp, hk, hr, hg⟩ := h
  exact ⟨L, rt, dp, hk.grow hb, hr, hg⟩
theorem KA.below {w w' : World} {base kb : Nat} {v : Value} {n : Nat} {C : Nat → Nat} {M : Nat → Int} (h : KA w base kb v n C M) {B : Nat} (hb : Below B w w') (h1 : kb < B) (h2 : ∀ g, v.ownBlock = some g → g < B) : KA w' base kb v n C M := by
  obtain ⟨L, rt, dp, hk, hr, hg⟩ := h
  exact ⟨L, rt, dp, hk.below hb h1 h2, hr, hg⟩
theorem KA.keep {w w' : World} {base kb : Nat} {v : Value} {n : Nat} {C : Nat → Nat} {M : Nat → Int} (h : KA w base kb v n C M) {kb2 : Nat} {o : Option Nat} (hf : Fr kb2 o w w') (h1 : kb ≠ kb2) (h2 : some kb ≠ o) (h3 : v.ownBlock ≠ some kb2) (h4 : v.ownBlock = none ∨ v.ownBlock ≠ o) : KA w' base kb v n C M := by
  obtain ⟨L, rt, dp, hk, hr, hg⟩ := h
  exact ⟨L, rt, dp, hk.keep hf h1 h2 h3 h4, hr, hg⟩
theorem KA.ne {w : World} {base kb : Nat} {v : Value} {n : Nat} {C : Nat → Nat} {M : Nat → Int} (h : KA w base kb v n C M) : v.ownBlock ≠ some kb := by
  obtain ⟨L, rt, dp, hk, hr, hg⟩ := h
  exact hk.ne
/-- Two knots' blocks: a knot's own block is never another's row. -/
theorem KA.apart {w : World} {base kb : Nat} {v : Value} {n : Nat} {C : Nat → Nat} {M : Nat → Int} {base' kb' : Nat} {v' : Value} {n' : Nat} {C' : Nat → Nat} {M' : Nat → Int} (h : KA w base kb v n C M) (h' : KA w base' kb' v' n' C' M') : v.ownBlock ≠ some kb' := by
  obtain ⟨L, rt, dp, hk, hr, hg⟩ := h
  obtain ⟨L', rt', dp', hk', hr', hg'⟩ := h'
  intro e
  rcases hk.own.2 with ⟨rfl, _⟩ | ⟨g, cap, cur, rfl, _, hgg, _⟩
  · simp [Value.ownBlock] at e
  · simp [Value.ownBlock] at e
    subst e
    rw [hk'.blk] at hgg
    simp at hgg
end Go.Proofs.Ytdopccbnnmaccaa.Kn
