/- What each call on a knot does to the classes and marks that it stands for. -/
import Derived.Test.YtdopccbnnmaccaaKt
namespace Go.Proofs.Ytdopccbnnmaccaa.Kn
open Go.RowKit
set_option linter.unusedVariables false
set_option linter.unusedSimpArgs false
set_option maxHeartbeats 1000000

/-- The knot at block kb stands for n things with the classes C and the marks M. -/
def KA (w : World) (base kb : Nat) (v : Value) (n : Nat) (C : Nat → Nat) (M : Nat → Int) : Prop :=
  ∃ L rt dp, KS w base kb v L ∧ Rep L n C M rt dp ∧ Good n C M

theorem ret_i {a b : Int} (h : a = b) : Ending.returned (.int .i64 a) = .returned (.int .i64 b) := by rw [h]
theorem ret_b {a b : Bool} (h : a = b) : Ending.returned (.bool a) = .returned (.bool b) := by rw [h]

theorem of_any {w : World} {base kb : Nat} {v : Value} {n : Nat} {C : Nat → Nat} {M : Nat → Int} (h : KA w base kb v n C M) (a : Int) :
    Calls Try.prog 11 #[.pointer (some ⟨kb, 0, none⟩), .int .i64 a] w fun e w' => e = .returned (.int .i64 (ofA n M a)) ∧ KA w' base kb v n C M ∧ Fr kb v.ownBlock w w' := by
  obtain ⟨L, rt, dp, hk, hr, hg⟩ := h
  have hl := hr.len
  by_cases ha : 0 ≤ a ∧ a < n
  · obtain ⟨i, rfl⟩ := Int.eq_ofNat_of_zero_le ha.1
    have hi : i < n := by omega
    obtain ⟨g, cap, rfl, hc1, hc2, hgk⟩ := hk.form (by omega)
    rw [hl] at hk hc1 ⊢
    have hu : cap ≤ 9223372036854775807 := by unfold maxLen at hc2; exact hc2
    have ht := top_in kb g cap base n i L C M rt dp w hi hk hr hc1 hu hgk
    have HR := Lib.hid hr
    have HL := Lib.hid hl
    have HG := Lib.hid hg
    have HE : Hid (ofA n M (i : Int) = M i) := by show ofA n M (i : Int) = M i; simp [ofA, hi]
    clear hr hl hg hk hc1 hc2 hu ha
    go_enter Try.func11, Try.ntmps11
    go_wp2_with (go_at_call 25; refine ht.mono ?_; rintro e w1 ⟨rfl, ⟨L1, hk1, hr1⟩, hf1⟩; have hm := hk1.mark (rt i) (by rw [hr1.len]; exact HR.out.rt_lt i hi); rw [hr1.mark i hi] at hm; replace hk1 := Lib.hid hk1; replace hr1 := Lib.hid hr1; replace hf1 := Lib.hid hf1)
    go_ret
    exact ⟨ret_i HE.out.symm, ⟨L1, rt, dp, hk1.out, hr1.out, HG.out⟩, hf1.out⟩
  · have ht := top_out hk a (by rw [hl]; exact ha)
    have HE : Hid (ofA n M a = 0) := by show ofA n M a = 0; simp [ofA, ha]
    have HK : Hid (KA w base kb v n C M) := Lib.hid ⟨L, rt, dp, hk, hr, hg⟩
    clear hr hl hg hk ha
    go_enter Try.func11, Try.ntmps11
    go_wp2_with (go_at_call 25; refine ht.mono ?_; rintro e w1 ⟨rfl, rfl⟩)
    go_ret
    exact ⟨ret_i HE.out.symm, HK.out, Fr.refl _ _ _⟩

theorem least_any {w : World} {base kb : Nat} {v : Value} {n : Nat} {C : Nat → Nat} {M : Nat → Int} (h : KA w base kb v n C M) (a : Int) :
    Calls Try.prog 12 #[.pointer (some ⟨kb, 0, none⟩), .int .i64 a] w fun e w' => e = .returned (.int .i64 (leastA n C a)) ∧ KA w' base kb v n C M ∧ Fr kb v.ownBlock w w' := by
  obtain ⟨L, rt, dp, hk, hr, hg⟩ := h
  have hl := hr.len
  by_cases ha : 0 ≤ a ∧ a < n
  · obtain ⟨i, rfl⟩ := Int.eq_ofNat_of_zero_le ha.1
    have hi : i < n := by omega
    obtain ⟨g, cap, rfl, hc1, hc2, hgk⟩ := hk.form (by omega)
    rw [hl] at hk hc1 ⊢
    have hu : cap ≤ 9223372036854775807 := by unfold maxLen at hc2; exact hc2
    have ht := top_in kb g cap base n i L C M rt dp w hi hk hr hc1 hu hgk
    have HR := Lib.hid hr
    have HL := Lib.hid hl
    have HG := Lib.hid hg
    have HE : Hid (leastA n C (i : Int) = C i) := by show leastA n C (i : Int) = C i; simp [leastA, hi]
    clear hr hl hg hk hc1 hc2 hu ha
    go_enter Try.func12, Try.ntmps12
    go_wp2_with (go_at_call 25; refine ht.mono ?_; rintro e w1 ⟨rfl, ⟨L1, hk1, hr1⟩, hf1⟩; have hm := hk1.least (rt i) (by rw [hr1.len]; exact HR.out.rt_lt i hi); rw [hr1.least i hi] at hm; replace hk1 := Lib.hid hk1; replace hr1 := Lib.hid hr1; replace hf1 := Lib.hid hf1)
    go_ret
    exact ⟨ret_i HE.out.symm, ⟨L1, rt, dp, hk1.out, hr1.out, HG.out⟩, hf1.out⟩
  · have ht := top_out hk a (by rw [hl]; exact ha)
    have HE : Hid (leastA n C a = -1) := by show leastA n C a = -1; simp [leastA, ha]
    have HK : Hid (KA w base kb v n C M) := Lib.hid ⟨L, rt, dp, hk, hr, hg⟩
    clear hr hl hg hk ha
    go_enter Try.func12, Try.ntmps12
    go_wp2_with (go_at_call 25; refine ht.mono ?_; rintro e w1 ⟨rfl, rfl⟩)
    go_ret
    exact ⟨ret_i HE.out.symm, HK.out, Fr.refl _ _ _⟩

def markN (n : Nat) (C : Nat → Nat) (M : Nat → Int) (a m : Int) : Nat → Int := if markOk n M a m = true then markM C M a m else M

theorem mark_any {w : World} {base kb : Nat} {v : Value} {n : Nat} {C : Nat → Nat} {M : Nat → Int} (h : KA w base kb v n C M) (a m : Int) :
    Calls Try.prog 17 #[.pointer (some ⟨kb, 0, none⟩), .int .i64 a, .int .i64 m] w fun e w' => e = .returned (.bool (markOk n M a m)) ∧ KA w' base kb v n C (markN n C M a m) ∧ Fr kb v.ownBlock w w' := by
  obtain ⟨L, rt, dp, hk, hr, hg⟩ := h
  have hl := hr.len
  by_cases ha : 0 ≤ a ∧ a < n
  · obtain ⟨i, rfl⟩ := Int.eq_ofNat_of_zero_le ha.1
    have hi : i < n := by omega
    obtain ⟨g, cap, rfl, hc1, hc2, hgk⟩ := hk.form (by omega)
    rw [hl] at hk hc1 ⊢
    have hu : cap ≤ 9223372036854775807 := by unfold maxLen at hc2; exact hc2
    have ht := top_in kb g cap base n i L C M rt dp w hi hk hr hc1 hu hgk
    have HR := Lib.hid hr
    have HL := Lib.hid hl
    have HG := Lib.hid hg
    have hnn := hg.nn i hi
    obtain ⟨mk, hmk⟩ : ∃ mk, M i = mk := ⟨_, rfl⟩
    rw [hmk] at hnn
    have HMK := Lib.hid hmk
    clear hr hl hg hk hc1 hc2 hu ha hmk
    by_cases hm0 : m ≤ 0
    · have dm : decide (m ≤ 0) = true := decide_eq_true hm0
      have HE : Hid (markOk n M (i : Int) m = false) := by show markOk n M (i : Int) m = false; simp [markOk]; omega
      clear hm0
      go_enter Try.func17, Try.ntmps17
      go_wp2_with (go_at_call 25; refine ht.mono ?_; rintro e w1 ⟨rfl, ⟨L1, hk1, hr1⟩, hf1⟩; replace hk1 := Lib.hid hk1; replace hr1 := Lib.hid hr1; replace hf1 := Lib.hid hf1)
      go_ret
      refine ⟨ret_b HE.out.symm, ?_, hf1.out⟩
      simp only [markN, HE.out]
      exact ⟨L1, rt, dp, hk1.out, hr1.out, HG.out⟩
    · have dm : decide (m ≤ 0) = false := decide_eq_false hm0
      have hmp : 0 < m := by omega
      by_cases hc : mk = 0 ∨ mk = m
      · have HE : Hid (markOk n M (i : Int) m = true) := by
          show markOk n M (i : Int) m = true
          have := HMK.out
          simp only [markOk, Int.toNat_natCast, decide_eq_true_eq]
          rw [this]; omega
        have fin : ∀ (w1 : World) (L1 : List Th), KS w1 base kb (.slice (some ⟨g, 0, none⟩) n cap) L1 → Rep L1 n C M rt dp → KA (w1.setCell ⟨g, rt i * 4 + 2, none⟩ (.int .i64 m)) base kb (.slice (some ⟨g, 0, none⟩) n cap) n C (markN n C M i m) := by
          intro w1 L1 hk1 hr1
          have hri := hr1.rt_lt i hi
          have hl1 := hr1.len
          simp only [markN, HE.out, if_true]
          exact ⟨_, rt, dp, hk1.set (rt i) 2 (.int .i64 m) { at_ L1 (rt i) with mark := m } (by omega) (by omega) rfl, hr1.setMark hi m, HG.out.setMark i hmp⟩
        replace fin := Lib.hid fin
        rcases hc with hc | hc
        · subst hc
          go_enter Try.func17, Try.ntmps17
          go_wp2_with (go_at_call 25; refine ht.mono ?_; rintro e w1 ⟨rfl, ⟨L1, hk1, hr1⟩, hf1⟩; have hm := hk1.mark (rt i) (by rw [hr1.len]; exact HR.out.rt_lt i hi); rw [hr1.mark i hi, HMK.out] at hm; have hz := hk1.free (rt i * 4 + 2); replace hk1 := Lib.hid hk1; replace hr1 := Lib.hid hr1; replace hf1 := Lib.hid hf1)
          go_ret
          exact ⟨ret_b HE.out.symm, fin.out _ _ hk1.out hr1.out, hf1.out.set_row _ _ _⟩
        · subst hc
          go_enter Try.func17, Try.ntmps17
          go_wp2_with (go_at_call 25; refine ht.mono ?_; rintro e w1 ⟨rfl, ⟨L1, hk1, hr1⟩, hf1⟩; have hm := hk1.mark (rt i) (by rw [hr1.len]; exact HR.out.rt_lt i hi); rw [hr1.mark i hi, HMK.out] at hm; have hz := hk1.free (rt i * 4 + 2); replace hk1 := Lib.hid hk1; replace hr1 := Lib.hid hr1; replace hf1 := Lib.hid hf1)
          go_ret
          exact ⟨ret_b HE.out.symm, fin.out _ _ hk1.out hr1.out, hf1.out.set_row _ _ _⟩
      · have HE : Hid (markOk n M (i : Int) m = false) := by
          show markOk n M (i : Int) m = false
          have := HMK.out
          simp only [markOk, Int.toNat_natCast, decide_eq_false_iff_not]
          rw [this]; omega
        have e1 : 0 < mk := by omega
        have e2 : (mk != m) = true := by simp; omega
        clear hc hm0
        go_enter Try.func17, Try.ntmps17
        go_wp2_with (go_at_call 25; refine ht.mono ?_; rintro e w1 ⟨rfl, ⟨L1, hk1, hr1⟩, hf1⟩; have hm := hk1.mark (rt i) (by rw [hr1.len]; exact HR.out.rt_lt i hi); rw [hr1.mark i hi, HMK.out] at hm; replace hk1 := Lib.hid hk1; replace hr1 := Lib.hid hr1; replace hf1 := Lib.hid hf1)
        go_ret
        refine ⟨ret_b HE.out.symm, ?_, hf1.out⟩
        simp only [markN, HE.out]
        exact ⟨L1, rt, dp, hk1.out, hr1.out, HG.out⟩
  · have ht := top_out hk a (by rw [hl]; exact ha)
    have HE : Hid (markOk n M a m = false) := by show markOk n M a m = false; simp [markOk]; omega
    have HK : Hid (KA w base kb v n C M) := Lib.hid ⟨L, rt, dp, hk, hr, hg⟩
    clear hr hl hg hk ha
    go_enter Try.func17, Try.ntmps17
    go_wp2_with (go_at_call 25; refine ht.mono ?_; rintro e w1 ⟨rfl, rfl⟩)
    go_ret
    refine ⟨ret_b HE.out.symm, ?_, Fr.refl _ _ _⟩
    simp only [markN, HE.out]
    exact HK.out
end Go.Proofs.Ytdopccbnnmaccaa.Kn
