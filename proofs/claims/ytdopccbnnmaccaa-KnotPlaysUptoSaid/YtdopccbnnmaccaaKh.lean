/- One knot, and all that was there before it: the calls under one shape; that the program lives. -/
import Derived.Test.YtdopccbnnmaccaaKg
namespace Go.Proofs.Ytdopccbnnmaccaa.Kn
open Go.RowKit
set_option linter.unusedVariables false
set_option linter.unusedSimpArgs false
set_option maxHeartbeats 2000000

/-- The knot at kb stands for a state, and what lay below base is as it was in w0. -/
def KI (w0 : World) (base kb n : Nat) (C : Nat → Nat) (M : Nat → Int) (w : World) : Prop :=
  ∃ v, KA w base kb v n C M ∧ Below base w0 w ∧ base ≤ w.heap.size

section
variable {w0 w : World} {base kb n : Nat} {C : Nat → Nat} {M : Nat → Int}
theorem KA.fr_below {w' : World} {v : Value} (h : KA w base kb v n C M) (hB : base ≤ w.heap.size) (hf : Fr kb v.ownBlock w w') : Below base w w' :=
  hf.below h.lt.1 (fun g e => (h.own_lt g e).1) hB
theorem KI.step {w' : World} {v v' : Value} {n' : Nat} {C' : Nat → Nat} {M' : Nat → Int} (h : KA w base kb v n C M) (h2 : Below base w0 w) (h3 : base ≤ w.heap.size) (hk : KA w' base kb v' n' C' M') (hf : Fr kb v.ownBlock w w') : KI w0 base kb n' C' M' w' :=
  ⟨v', hk, h2.trans (h.fr_below h3 hf), Nat.le_trans h3 hf.size⟩
theorem ki_add (h : KI w0 base kb n C M w) (hn : n + 1 ≤ 4398046511104) : Calls Try.prog 15 #[.pointer (some ⟨kb, 0, none⟩)] w fun e w' => e = .returned (.int .i64 (n : Int)) ∧ KI w0 base kb (n + 1) (addC n C) (addM n M) w' := by
  obtain ⟨v, hk, h2, h3⟩ := h
  refine (add_any hk hn h3).mono ?_
  rintro e w' ⟨rfl, v', hk', hf, _⟩
  exact ⟨rfl, KI.step hk h2 h3 hk' hf⟩
theorem ki_of (h : KI w0 base kb n C M w) (a : Int) : Calls Try.prog 11 #[.pointer (some ⟨kb, 0, none⟩), .int .i64 a] w fun e w' => e = .returned (.int .i64 (ofA n M a)) ∧ KI w0 base kb n C M w' := by
  obtain ⟨v, hk, h2, h3⟩ := h
  refine (of_any hk a).mono ?_
  rintro e w' ⟨rfl, hk', hf⟩
  exact ⟨rfl, KI.step hk h2 h3 hk' hf⟩
theorem ki_least (h : KI w0 base kb n C M w) (a : Int) : Calls Try.prog 12 #[.pointer (some ⟨kb, 0, none⟩), .int .i64 a] w fun e w' => e = .returned (.int .i64 (leastA n C a)) ∧ KI w0 base kb n C M w' := by
  obtain ⟨v, hk, h2, h3⟩ := h
  refine (least_any hk a).mono ?_
  rintro e w' ⟨rfl, hk', hf⟩
  exact ⟨rfl, KI.step hk h2 h3 hk' hf⟩
theorem ki_alike (h : KI w0 base kb n C M w) (a b : Int) : Calls Try.prog 23 #[.pointer (some ⟨kb, 0, none⟩), .int .i64 a, .int .i64 b] w fun e w' => e = .returned (.bool (alikeA n C a b)) ∧ KI w0 base kb n C M w' := by
  obtain ⟨v, hk, h2, h3⟩ := h
  refine (alike_any hk a b).mono ?_
  rintro e w' ⟨rfl, hk', hf⟩
  exact ⟨rfl, KI.step hk h2 h3 hk' hf⟩
theorem ki_mark (h : KI w0 base kb n C M w) (a m : Int) : Calls Try.prog 17 #[.pointer (some ⟨kb, 0, none⟩), .int .i64 a, .int .i64 m] w fun e w' => e = .returned (.bool (markOk n M a m)) ∧ KI w0 base kb n C (markN n C M a m) w' := by
  obtain ⟨v, hk, h2, h3⟩ := h
  refine (mark_any hk a m).mono ?_
  rintro e w' ⟨rfl, hk', hf⟩
  exact ⟨rfl, KI.step hk h2 h3 hk' hf⟩
theorem ki_tie (h : KI w0 base kb n C M w) (a b : Int) : Calls Try.prog 19 #[.pointer (some ⟨kb, 0, none⟩), .int .i64 a, .int .i64 b] w fun e w' => e = .returned (.bool (tieOk n M a b)) ∧ KI w0 base kb n (tieNC n C M a b) (tieNM n C M a b) w' := by
  obtain ⟨v, hk, h2, h3⟩ := h
  refine (tie_any hk a b).mono ?_
  rintro e w' ⟨rfl, hk', hf⟩
  exact ⟨rfl, KI.step hk h2 h3 hk' hf⟩
theorem ki_len (h : KI w0 base kb n C M w) : Calls Try.prog 10 #[.pointer (some ⟨kb, 0, none⟩)] w fun e w' => e = .returned (.int .i64 (n : Int)) ∧ w = w' := by
  obtain ⟨v, hk, h2, h3⟩ := h
  exact hk.len_any
theorem KI.new (w : World) : KI w w.heap.size w.heap.size 0 (fun _ => 0) (fun _ => 0) (w.alloc (.cells #[.slice none 0 0] 43)) :=
  ⟨_, KA.new w _ (Nat.le_refl _), (Below.refl _ _).alloc (Nat.le_refl _) _, by simp⟩
end

/-! Three things. -/
abbrev z0 : Nat → Nat := fun _ => 0
abbrev m0 : Nat → Int := fun _ => 0
def C1 := addC 0 z0
def M1 := addM 0 m0
def C2 := addC 1 C1
def M2 := addM 1 M1
def C3 := addC 2 C2
def M3 := addM 2 M2
def C4 := tieNC 3 C3 M3 0 2
def M4 := tieNM 3 C3 M3 0 2
def M5 := markN 3 C4 M4 2 7
def M6 := markN 3 C4 M5 1 8
def C7 := tieNC 3 C4 M6 1 0
def M7 := tieNM 3 C4 M6 1 0
section
variable {w0 w : World} {base kb : Nat}
theorem l1 (h : KI w0 base kb 0 z0 m0 w) : Calls Try.prog 15 #[.pointer (some ⟨kb, 0, none⟩)] w fun e w' => e = .returned (.int .i64 0) ∧ KI w0 base kb 1 C1 M1 w' := ki_add h (by decide)
theorem l2 (h : KI w0 base kb 1 C1 M1 w) : Calls Try.prog 15 #[.pointer (some ⟨kb, 0, none⟩)] w fun e w' => e = .returned (.int .i64 1) ∧ KI w0 base kb 2 C2 M2 w' := ki_add h (by decide)
theorem l3 (h : KI w0 base kb 2 C2 M2 w) : Calls Try.prog 15 #[.pointer (some ⟨kb, 0, none⟩)] w fun e w' => e = .returned (.int .i64 2) ∧ KI w0 base kb 3 C3 M3 w' := ki_add h (by decide)
theorem l4 (h : KI w0 base kb 3 C3 M3 w) : Calls Try.prog 19 #[.pointer (some ⟨kb, 0, none⟩), .int .i64 0, .int .i64 2] w fun e w' => e = .returned (.bool true) ∧ KI w0 base kb 3 C4 M4 w' := by
  have := ki_tie h 0 2
  rwa [show tieOk 3 M3 0 2 = true by decide] at this
theorem l5 (h : KI w0 base kb 3 C4 M4 w) : Calls Try.prog 17 #[.pointer (some ⟨kb, 0, none⟩), .int .i64 2, .int .i64 7] w fun e w' => e = .returned (.bool true) ∧ KI w0 base kb 3 C4 M5 w' := by
  have := ki_mark h 2 7
  rwa [show markOk 3 M4 2 7 = true by decide] at this
theorem l6 (h : KI w0 base kb 3 C4 M5 w) : Calls Try.prog 11 #[.pointer (some ⟨kb, 0, none⟩), .int .i64 0] w fun e w' => e = .returned (.int .i64 7) ∧ KI w0 base kb 3 C4 M5 w' := by
  have := ki_of h 0
  rwa [show ofA 3 M5 0 = 7 by decide] at this
theorem l7 (h : KI w0 base kb 3 C4 M5 w) : Calls Try.prog 12 #[.pointer (some ⟨kb, 0, none⟩), .int .i64 2] w fun e w' => e = .returned (.int .i64 0) ∧ KI w0 base kb 3 C4 M5 w' := by
  have := ki_least h 2
  rwa [show leastA 3 C4 2 = 0 by decide] at this
theorem l8 (h : KI w0 base kb 3 C4 M5 w) : Calls Try.prog 17 #[.pointer (some ⟨kb, 0, none⟩), .int .i64 1, .int .i64 8] w fun e w' => e = .returned (.bool true) ∧ KI w0 base kb 3 C4 M6 w' := by
  have := ki_mark h 1 8
  rwa [show markOk 3 M5 1 8 = true by decide] at this
theorem l9 (h : KI w0 base kb 3 C4 M6 w) : Calls Try.prog 19 #[.pointer (some ⟨kb, 0, none⟩), .int .i64 1, .int .i64 0] w fun e w' => e = .returned (.bool false) ∧ KI w0 base kb 3 C7 M7 w' := by
  have := ki_tie h 1 0
  rwa [show tieOk 3 M6 1 0 = false by decide] at this
theorem l10 (h : KI w0 base kb 3 C7 M7 w) : Calls Try.prog 10 #[.pointer (some ⟨kb, 0, none⟩)] w fun e w' => e = .returned (.int .i64 3) ∧ w = w' := ki_len h
end

theorem lives_any (w : World) : Calls Try.prog 8 #[] w fun e w' => e = .returned (.bool true) ∧ Below w.heap.size w w' := by
  go_enter Try.func8, Try.ntmps8
  go_wp2_with (first | (go_at_call 9; (with_reducible refine (new_any _).mono ?_); rintro e w1 ⟨rfl, rfl⟩; have hk0 := Lib.hid (KI.new w)) | (go_at_call 15; (with_reducible refine (l1 hk0.out).mono ?_); rintro e w1 ⟨rfl, hk1⟩; replace hk1 := Lib.hid hk1; clear hk0) | (go_at_call 15; (with_reducible refine (l2 hk1.out).mono ?_); rintro e w2 ⟨rfl, hk2⟩; replace hk2 := Lib.hid hk2; clear hk1) | (go_at_call 15; (with_reducible refine (l3 hk2.out).mono ?_); rintro e w3 ⟨rfl, hk3⟩; replace hk3 := Lib.hid hk3; clear hk2) | (go_at_call 19; (with_reducible refine (l4 hk3.out).mono ?_); rintro e w4 ⟨rfl, hk4⟩; replace hk4 := Lib.hid hk4; clear hk3) | (go_at_call 17; (with_reducible refine (l5 hk4.out).mono ?_); rintro e w5 ⟨rfl, hk5⟩; replace hk5 := Lib.hid hk5; clear hk4) | (go_at_call 11; (with_reducible refine (l6 hk5.out).mono ?_); rintro e w6 ⟨rfl, hk6⟩; replace hk6 := Lib.hid hk6; clear hk5) | (go_at_call 12; (with_reducible refine (l7 hk6.out).mono ?_); rintro e w7 ⟨rfl, hk7⟩; replace hk7 := Lib.hid hk7; clear hk6) | (go_at_call 17; (with_reducible refine (l8 hk7.out).mono ?_); rintro e w8 ⟨rfl, hk8⟩; replace hk8 := Lib.hid hk8; clear hk7) | (go_at_call 19; (with_reducible refine (l9 hk8.out).mono ?_); rintro e w9 ⟨rfl, hk9⟩; replace hk9 := Lib.hid hk9; clear hk8) | (go_at_call 10; (with_reducible refine (l10 hk9.out).mono ?_); rintro e w10 ⟨rfl, rfl⟩))
  go_ret
  obtain ⟨v, _, hb, _⟩ := hk9.out
  exact ⟨rfl, hb⟩
end Go.Proofs.Ytdopccbnnmaccaa.Kn
