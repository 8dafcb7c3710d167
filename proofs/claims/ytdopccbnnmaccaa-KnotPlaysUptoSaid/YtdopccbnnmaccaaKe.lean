/- What Tie does to the classes and marks. -/
import Derived.Test.YtdopccbnnmaccaaKd
import Derived.WalkLawsBesides
namespace Go.Proofs.Ytdopccbnnmaccaa.Kn
open Go.RowKit
set_option linter.unusedVariables false
set_option linter.unusedSimpArgs false
set_option maxHeartbeats 2000000

def tieNC (n : Nat) (C : Nat → Nat) (M : Nat → Int) (a b : Int) : Nat → Nat := if tieOk n M a b = true then tieC C a b else C
def tieNM (n : Nat) (C : Nat → Nat) (M : Nat → Int) (a b : Int) : Nat → Int := if tieOk n M a b = true then tieM C M a b else M

theorem tie_out {w : World} {base kb : Nat} {v : Value} {n : Nat} {C : Nat → Nat} {M : Nat → Int} (h : KA w base kb v n C M) (a b : Int) (hout : ¬ (0 ≤ a ∧ a < n ∧ 0 ≤ b ∧ b < n)) :
    Calls Try.prog 19 #[.pointer (some ⟨kb, 0, none⟩), .int .i64 a, .int .i64 b] w fun e w' => e = .returned (.bool false) ∧ KA w' base kb v n C M ∧ Fr kb v.ownBlock w w' := by
  obtain ⟨L, rt, dp, hk, hr, hg⟩ := h
  have hl := hr.len
  by_cases ha : 0 ≤ a ∧ a < n
  · have hb : ¬ (0 ≤ b ∧ b < n) := by omega
    obtain ⟨i, rfl⟩ := Int.eq_ofNat_of_zero_le ha.1
    have hi : i < n := by omega
    obtain ⟨g, cap, rfl, hc1, hc2, hgk⟩ := hk.form (by omega)
    rw [hl] at hk hc1 ⊢
    have hu : cap ≤ 9223372036854775807 := by unfold maxLen at hc2; exact hc2
    have ht := top_in kb g cap base n i L C M rt dp w hi hk hr hc1 hu hgk
    have HG := Lib.hid hg
    have ht2 := fun (w1 : World) (L1 : List Th) (hk1 : KS w1 base kb (.slice (some ⟨g, 0, none⟩) n cap) L1) (hr1 : Rep L1 n C M rt dp) => top_out hk1 b (by rw [hr1.len]; exact hb)
    clear hr hl hg hk hc1 hc2 hu ha hb hout
    go_enter Try.func19, Try.ntmps19
    go_wp2_with (first | (go_at_call 25; (with_reducible refine ht.mono ?_); rintro e w1 ⟨rfl, ⟨L1, hk1, hr1⟩, hf1⟩; replace ht2 := ht2 _ _ hk1 hr1; replace hk1 := Lib.hid hk1; replace hr1 := Lib.hid hr1; replace hf1 := Lib.hid hf1) | (go_at_call 25; (with_reducible refine ht2.mono ?_); rintro e w2 ⟨rfl, rfl⟩))
    go_ret
    exact ⟨rfl, ⟨L1, rt, dp, hk1.out, hr1.out, HG.out⟩, hf1.out⟩
  · have ht := top_out hk a (by rw [hl]; exact ha)
    by_cases hb : 0 ≤ b ∧ b < n
    · obtain ⟨j, rfl⟩ := Int.eq_ofNat_of_zero_le hb.1
      have hj : j < n := by omega
      obtain ⟨g, cap, rfl, hc1, hc2, hgk⟩ := hk.form (by omega)
      rw [hl] at hk hc1 ⊢
      have hu : cap ≤ 9223372036854775807 := by unfold maxLen at hc2; exact hc2
      have ht2 := top_in kb g cap base n j L C M rt dp w hj hk hr hc1 hu hgk
      have HG := Lib.hid hg
      clear hr hl hg hk hc1 hc2 hu ha hb hout
      go_enter Try.func19, Try.ntmps19
      go_wp2_with (first | (go_at_call 25; (with_reducible refine ht.mono ?_); rintro e w1 ⟨rfl, rfl⟩) | (go_at_call 25; (with_reducible refine ht2.mono ?_); rintro e w2 ⟨rfl, ⟨L1, hk1, hr1⟩, hf1⟩; replace hk1 := Lib.hid hk1; replace hr1 := Lib.hid hr1; replace hf1 := Lib.hid hf1))
      go_ret
      exact ⟨rfl, ⟨L1, rt, dp, hk1.out, hr1.out, HG.out⟩, hf1.out⟩
    · have ht2 := top_out hk b (by rw [hl]; exact hb)
      have HK : Hid (KA w base kb v n C M) := Lib.hid ⟨L, rt, dp, hk, hr, hg⟩
      clear hr hl hg hk ha hb hout
      go_enter Try.func19, Try.ntmps19
      go_wp2_with (first | (go_at_call 25; (with_reducible refine ht.mono ?_); rintro e w1 ⟨rfl, rfl⟩) | (go_at_call 25; (with_reducible refine ht2.mono ?_); rintro e w2 ⟨rfl, rfl⟩))
      go_ret
      exact ⟨rfl, HK.out, Fr.refl _ _ _⟩

theorem tie_same {w : World} {base kb : Nat} {v : Value} {n : Nat} {C : Nat → Nat} {M : Nat → Int} (h : KA w base kb v n C M) (i j : Nat) (hi : i < n) (hj : j < n) (hs : C i = C j) :
    Calls Try.prog 19 #[.pointer (some ⟨kb, 0, none⟩), .int .i64 i, .int .i64 j] w fun e w' => e = .returned (.bool true) ∧ KA w' base kb v n C M ∧ Fr kb v.ownBlock w w' := by
  obtain ⟨L, rt, dp, hk, hr, hg⟩ := h
  have hl := hr.len
  obtain ⟨g, cap, rfl, hc1, hc2, hgk⟩ := hk.form (by omega)
  rw [hl] at hk hc1 ⊢
  have hu : cap ≤ 9223372036854775807 := by unfold maxLen at hc2; exact hc2
  have ht := top_in kb g cap base n i L C M rt dp w hi hk hr hc1 hu hgk
  have ht2 := fun (w1 : World) (L1 : List Th) (hk1 : KS w1 base kb (.slice (some ⟨g, 0, none⟩) n cap) L1) (hr1 : Rep L1 n C M rt dp) => top_in kb g cap base n j L1 C M rt dp w1 hj hk1 hr1 hc1 hu hgk
  have HG := Lib.hid hg
  have e := (hr.same i j hi hj).mpr hs
  rw [← e] at ht2
  have hpe := ptr_same
  clear hr hl hg hk hc1 hc2 hu hs e
  go_enter Try.func19, Try.ntmps19
  go_wp2_with (first | (go_at_call 25; (with_reducible refine ht.mono ?_); rintro e w1 ⟨rfl, ⟨L1, hk1, hr1⟩, hf1⟩; replace ht2 := ht2 _ _ hk1 hr1; replace hk1 := Lib.hid hk1; replace hr1 := Lib.hid hr1; replace hf1 := Lib.hid hf1) | (go_at_call 25; (with_reducible refine ht2.mono ?_); rintro e w2 ⟨rfl, ⟨L2, hk2, hr2⟩, hf2⟩; replace hk2 := Lib.hid hk2; replace hr2 := Lib.hid hr2; replace hf2 := Lib.hid hf2))
  go_ret
  exact ⟨rfl, ⟨L2, rt, dp, hk2.out, hr2.out, HG.out⟩, hf1.out.trans' hf2.out⟩

theorem tie_clash {w : World} {base kb : Nat} {v : Value} {n : Nat} {C : Nat → Nat} {M : Nat → Int} (h : KA w base kb v n C M) (i j : Nat) (hi : i < n) (hj : j < n) (hs : ¬ C i = C j)
    (mx my : Int) (hmx : M i = mx) (hmy : M j = my) (m1 : 0 < mx) (m2 : 0 < my) (m3 : (mx != my) = true) :
    Calls Try.prog 19 #[.pointer (some ⟨kb, 0, none⟩), .int .i64 i, .int .i64 j] w fun e w' => e = .returned (.bool false) ∧ KA w' base kb v n C M ∧ Fr kb v.ownBlock w w' := by
  obtain ⟨L, rt, dp, hk, hr, hg⟩ := h
  have hl := hr.len
  obtain ⟨g, cap, rfl, hc1, hc2, hgk⟩ := hk.form (by omega)
  rw [hl] at hk hc1 ⊢
  have hu : cap ≤ 9223372036854775807 := by unfold maxLen at hc2; exact hc2
  have ht := top_in kb g cap base n i L C M rt dp w hi hk hr hc1 hu hgk
  have ht2 := fun (w1 : World) (L1 : List Th) (hk1 : KS w1 base kb (.slice (some ⟨g, 0, none⟩) n cap) L1) (hr1 : Rep L1 n C M rt dp) => top_in kb g cap base n j L1 C M rt dp w1 hj hk1 hr1 hc1 hu hgk
  have HG := Lib.hid hg
  have hne : ¬ rt i = rt j := fun q => hs ((hr.same i j hi hj).mp q)
  have hmk : ∀ (w2 : World) (L2 : List Th), KS w2 base kb (.slice (some ⟨g, 0, none⟩) n cap) L2 → Rep L2 n C M rt dp → w2.cell? ⟨g, rt i * 4 + 2, none⟩ = some (.int .i64 mx) ∧ w2.cell? ⟨g, rt j * 4 + 2, none⟩ = some (.int .i64 my) := by
    intro w2 L2 hk2 hr2
    have e1 := hk2.mark (rt i) (by rw [hr2.len]; exact hr2.rt_lt i hi)
    have e2 := hk2.mark (rt j) (by rw [hr2.len]; exact hr2.rt_lt j hj)
    rw [hr2.mark i hi, hmx] at e1
    rw [hr2.mark j hj, hmy] at e2
    exact ⟨e1, e2⟩
  generalize rt i = r1 at ht hmk hne
  generalize rt j = r2 at ht2 hmk hne
  have HN := Lib.hid hne
  replace hmk := Lib.hid hmk
  have d1 : decide (0 < mx) = true := decide_eq_true m1
  have d2 : decide (0 < my) = true := decide_eq_true m2
  clear hr hl hg hk hc1 hc2 hu hs hmx hmy hne
  go_enter Try.func19, Try.ntmps19
  go_wp2_with (first | (go_at_call 25; (with_reducible refine ht.mono ?_); rintro e w1 ⟨rfl, ⟨L1, hk1, hr1⟩, hf1⟩; replace ht2 := ht2 _ _ hk1 hr1; replace hk1 := Lib.hid hk1; replace hr1 := Lib.hid hr1; replace hf1 := Lib.hid hf1) | (go_at_call 25; (with_reducible refine ht2.mono ?_); rintro e w2 ⟨rfl, ⟨L2, hk2, hr2⟩, hf2⟩; have hpe := ptr_other hk2 r1 r2 HN.out; obtain ⟨c1, c2⟩ := hmk.out _ _ hk2 hr2; replace hk2 := Lib.hid hk2; replace hr2 := Lib.hid hr2; replace hf2 := Lib.hid hf2))
  go_quiet (fail)
  go_wp2
  go_ret
  exact ⟨rfl, ⟨L2, rt, dp, hk2.out.drewN _, hr2.out, HG.out⟩, (hf1.out.trans' hf2.out).drewN _⟩
end Go.Proofs.Ytdopccbnnmaccaa.Kn
