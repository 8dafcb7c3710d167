/- For any two numbers the law WordDivides answers true: quotient times divisor and remainder are the first number, with the remainder's sign and size as told; without any condition. -/
import Derived.Test.YtghncpmepaohiaaRows
import Derived.Test.YtghncpmepaohiaaWd
import Derived.Test.YtghncpmepaohiaaWr
import Derived.Test.YtghncpmepaohiaaWx
import Derived.WalkKit
import Derived.ProofKit
import Derived.OpenShut
import Derived.ShutString
import Derived.ChangeOld
import Derived.Below
import Derived.SizedLaws
import Derived.Deep.QuietTactic
import Derived.BigQuiet
namespace Go.Proofs.Ytghncpmepaohiaa.wordDivides
open Go.ChangeShapes Go.WideShapes Go.ChangeAt Go.RowKit
open Go.ChangeMaps (open_string shut_string)
set_option linter.unusedVariables false
open Go.Proofs.Ytghncpmepaohiaa.Wd
set_option maxHeartbeats 1000000
theorem blt {n : Int} (h : (Lit.int .i64 n).wf = true) : -9223372036854775808 ≤ n ∧ n < 9223372036854775808 := by
  have := bounds_i64 h
  omega

theorem quo_rem (a b : Int) (ha : -9223372036854775808 ≤ a ∧ a < 9223372036854775808) (h0 : ¬ b = 0) (hl : ¬ (b = -1 ∧ a = -9223372036854775808)) :
    wrap64 (wrap64 (divV a b * b) + remV a b) = a ∧ remV a b = a.tmod b := by
  have hlb : leastB a b = false := by
    unfold leastB
    rw [Bool.eq_false_iff]
    intro h
    simp at h
    exact hl ⟨h.2, h.1⟩
  have e1 := divV_norm a b ha h0 hlb
  have e2 := remV_norm a b ha h0 hlb
  refine ⟨?_, e2⟩
  rw [e1, e2]
  have e := Int.mul_tdiv_add_tmod a b
  have hw : ∀ x y : Int, ∃ k, wrap64 x * y = x * y + 18446744073709551616 * k := by
    intro x y
    refine ⟨-((x + 9223372036854775808) / 18446744073709551616) * y, ?_⟩
    have : wrap64 x = x + 18446744073709551616 * (-((x + 9223372036854775808) / 18446744073709551616)) := by unfold wrap64; omega
    rw [this, Int.add_mul, Int.mul_assoc]
  obtain ⟨k, hk⟩ := hw (a.tdiv b) b
  rw [hk, Int.mul_comm (a.tdiv b) b]
  generalize b * a.tdiv b = p at e ⊢
  unfold wrap64
  omega
theorem rem_neg (a b : Int) (h0 : ¬ b = 0) (ha : a < 0) : a.tmod b ≤ 0 ∧ -(b.natAbs : Int) < a.tmod b := by
  have e : a.tmod b = -((-a).tmod b) := by rw [Int.neg_tmod]; omega
  have h1 : 0 ≤ (-a).tmod b := Int.tmod_nonneg _ (by omega)
  have h2 := Int.natAbs_tmod (-a) b
  have h3 : (-a).natAbs % b.natAbs < b.natAbs := Nat.mod_lt _ (by omega)
  omega
theorem rem_pos (a b : Int) (h0 : ¬ b = 0) (ha : 0 ≤ a) : 0 ≤ a.tmod b ∧ a.tmod b < (b.natAbs : Int) ∧ a.tmod b ≤ a := by
  have h1 : 0 ≤ a.tmod b := Int.tmod_nonneg _ ha
  have h2 := Int.natAbs_tmod a b
  have h3 : a.natAbs % b.natAbs < b.natAbs := Nat.mod_lt _ (by omega)
  have h4 := Nat.mod_le a.natAbs b.natAbs
  omega
theorem walk_zero (a : Int) (w : World) : Calls Try.prog 4 #[.int .i64 a, .int .i64 0] w fun e w' => e = .returned (.bool true) ∧ Below w.heap.size w w' := by
  have hq := bin_div a 0
  have hr := bin_rem a 0
  have e1 : divV a 0 = 0 := by simp [divV, dvB]
  have e2 : remV a 0 = 0 := by simp [remV, dvB]
  rw [e1] at hq
  rw [e2] at hr
  clear e1 e2
  go_enter Try.func4, Try.ntmps4
  go_wp2_with (first | (go_at_call 9; refine (lives_any _).mono ?_; rintro e w1 ⟨rfl, hB1⟩) | (go_at_call 10; (with_reducible refine (hq _).mono ?_); rintro e w2 ⟨rfl, hB2⟩) | (go_at_call 10; (with_reducible refine (hr _).mono ?_); rintro e w3 ⟨rfl, hB3⟩))
  go_ret
  exact ⟨rfl, (hB1.trans hB2).trans hB3⟩
theorem walk_least (w : World) : Calls Try.prog 4 #[.int .i64 (-9223372036854775808), .int .i64 (-1)] w fun e w' => e = .returned (.bool true) ∧ Below w.heap.size w w' := by
  have hq := bin_div (-9223372036854775808) (-1)
  have hr := bin_rem (-9223372036854775808) (-1)
  have e1 : divV (-9223372036854775808) (-1) = 0 := by decide +kernel
  have e2 : remV (-9223372036854775808) (-1) = 0 := by decide +kernel
  rw [e1] at hq
  rw [e2] at hr
  clear e1 e2
  go_enter Try.func4, Try.ntmps4
  go_wp2_with (first | (go_at_call 9; refine (lives_any _).mono ?_; rintro e w1 ⟨rfl, hB1⟩) | (go_at_call 10; (with_reducible refine (hq _).mono ?_); rintro e w2 ⟨rfl, hB2⟩) | (go_at_call 10; (with_reducible refine (hr _).mono ?_); rintro e w3 ⟨rfl, hB3⟩))
  go_ret
  exact ⟨rfl, (hB1.trans hB2).trans hB3⟩
theorem walk_zp_o (a b q r : Int) (h0 : ¬ b = 0) (hl : decide (b = -1 ∧ a = -9223372036854775808) = false) (hb1 : (b == -1) = false) (hr0 : r = 0) (hb2 : 0 < b)
    (hq : ∀ w, Calls Try.prog 10 #[.string ⟨#[47]⟩, .int .i64 a, .int .i64 b] w fun e w' => e = .returned (.tuple #[.int .i64 q, .int .i64 0]) ∧ B w w')
    (hr : ∀ w, Calls Try.prog 10 #[.string ⟨#[37]⟩, .int .i64 a, .int .i64 b] w fun e w' => e = .returned (.tuple #[.int .i64 r, .int .i64 0]) ∧ B w w')
    (hs : ∀ w, Calls Try.prog 10 #[.string ⟨#[43]⟩, .int .i64 (wrap64 (q * b)), .int .i64 r] w fun e w' => e = .returned (.tuple #[.int .i64 a, .int .i64 0]) ∧ B w w') (w : World) :
    Calls Try.prog 4 #[.int .i64 a, .int .i64 b] w fun e w' => e = .returned (.bool true) ∧ Below w.heap.size w w' := by
  have hb : (b == 0) = false := by simp [h0]
  clear hl h0
  subst hr0
  go_enter Try.func4, Try.ntmps4
  go_wp2_with (first | (go_at_call 9; refine (lives_any _).mono ?_; rintro e w1 ⟨rfl, hB1⟩) | (go_at_call 10; (with_reducible refine (hq _).mono ?_); rintro e w2 ⟨rfl, hB2⟩) | (go_at_call 10; (with_reducible refine (hr _).mono ?_); rintro e w3 ⟨rfl, hB3⟩) | (go_at_call 10; (with_reducible refine (bin_mul _ _ _).mono ?_); rintro e w4 ⟨rfl, hB4⟩) | (go_at_call 10; (with_reducible refine (hs _).mono ?_); rintro e w5 ⟨rfl, hB5⟩))
  go_ret
  exact ⟨rfl, (((hB1.trans hB2).trans hB3).trans hB4).trans hB5⟩
theorem walk_zn_m (a b q r : Int) (h0 : ¬ b = 0) (hl : decide (b = -1 ∧ a = -9223372036854775808) = false) (hb1 : (b == -1) = true) (ha1 : (a == -9223372036854775808) = false) (hr0 : r = 0) (hb2 : b < 0)
    (hq : ∀ w, Calls Try.prog 10 #[.string ⟨#[47]⟩, .int .i64 a, .int .i64 b] w fun e w' => e = .returned (.tuple #[.int .i64 q, .int .i64 0]) ∧ B w w')
    (hr : ∀ w, Calls Try.prog 10 #[.string ⟨#[37]⟩, .int .i64 a, .int .i64 b] w fun e w' => e = .returned (.tuple #[.int .i64 r, .int .i64 0]) ∧ B w w')
    (hs : ∀ w, Calls Try.prog 10 #[.string ⟨#[43]⟩, .int .i64 (wrap64 (q * b)), .int .i64 r] w fun e w' => e = .returned (.tuple #[.int .i64 a, .int .i64 0]) ∧ B w w') (w : World) :
    Calls Try.prog 4 #[.int .i64 a, .int .i64 b] w fun e w' => e = .returned (.bool true) ∧ Below w.heap.size w w' := by
  have hb : (b == 0) = false := by simp [h0]
  clear hl h0
  subst hr0
  go_enter Try.func4, Try.ntmps4
  go_wp2_with (first | (go_at_call 9; refine (lives_any _).mono ?_; rintro e w1 ⟨rfl, hB1⟩) | (go_at_call 10; (with_reducible refine (hq _).mono ?_); rintro e w2 ⟨rfl, hB2⟩) | (go_at_call 10; (with_reducible refine (hr _).mono ?_); rintro e w3 ⟨rfl, hB3⟩) | (go_at_call 10; (with_reducible refine (bin_mul _ _ _).mono ?_); rintro e w4 ⟨rfl, hB4⟩) | (go_at_call 10; (with_reducible refine (hs _).mono ?_); rintro e w5 ⟨rfl, hB5⟩))
  go_ret
  exact ⟨rfl, (((hB1.trans hB2).trans hB3).trans hB4).trans hB5⟩
theorem walk_zn_o (a b q r : Int) (h0 : ¬ b = 0) (hl : decide (b = -1 ∧ a = -9223372036854775808) = false) (hb1 : (b == -1) = false) (hr0 : r = 0) (hb2 : b < 0)
    (hq : ∀ w, Calls Try.prog 10 #[.string ⟨#[47]⟩, .int .i64 a, .int .i64 b] w fun e w' => e = .returned (.tuple #[.int .i64 q, .int .i64 0]) ∧ B w w')
    (hr : ∀ w, Calls Try.prog 10 #[.string ⟨#[37]⟩, .int .i64 a, .int .i64 b] w fun e w' => e = .returned (.tuple #[.int .i64 r, .int .i64 0]) ∧ B w w')
    (hs : ∀ w, Calls Try.prog 10 #[.string ⟨#[43]⟩, .int .i64 (wrap64 (q * b)), .int .i64 r] w fun e w' => e = .returned (.tuple #[.int .i64 a, .int .i64 0]) ∧ B w w') (w : World) :
    Calls Try.prog 4 #[.int .i64 a, .int .i64 b] w fun e w' => e = .returned (.bool true) ∧ Below w.heap.size w w' := by
  have hb : (b == 0) = false := by simp [h0]
  clear hl h0
  subst hr0
  go_enter Try.func4, Try.ntmps4
  go_wp2_with (first | (go_at_call 9; refine (lives_any _).mono ?_; rintro e w1 ⟨rfl, hB1⟩) | (go_at_call 10; (with_reducible refine (hq _).mono ?_); rintro e w2 ⟨rfl, hB2⟩) | (go_at_call 10; (with_reducible refine (hr _).mono ?_); rintro e w3 ⟨rfl, hB3⟩) | (go_at_call 10; (with_reducible refine (bin_mul _ _ _).mono ?_); rintro e w4 ⟨rfl, hB4⟩) | (go_at_call 10; (with_reducible refine (hs _).mono ?_); rintro e w5 ⟨rfl, hB5⟩))
  go_ret
  exact ⟨rfl, (((hB1.trans hB2).trans hB3).trans hB4).trans hB5⟩
theorem walk_pp_o (a b q r : Int) (h0 : ¬ b = 0) (hl : decide (b = -1 ∧ a = -9223372036854775808) = false) (hb1 : (b == -1) = false) (hr0 : 0 < r) (ha0 : 0 < a) (hb2 : 0 < b) (hrb : r < b)
    (hq : ∀ w, Calls Try.prog 10 #[.string ⟨#[47]⟩, .int .i64 a, .int .i64 b] w fun e w' => e = .returned (.tuple #[.int .i64 q, .int .i64 0]) ∧ B w w')
    (hr : ∀ w, Calls Try.prog 10 #[.string ⟨#[37]⟩, .int .i64 a, .int .i64 b] w fun e w' => e = .returned (.tuple #[.int .i64 r, .int .i64 0]) ∧ B w w')
    (hs : ∀ w, Calls Try.prog 10 #[.string ⟨#[43]⟩, .int .i64 (wrap64 (q * b)), .int .i64 r] w fun e w' => e = .returned (.tuple #[.int .i64 a, .int .i64 0]) ∧ B w w') (w : World) :
    Calls Try.prog 4 #[.int .i64 a, .int .i64 b] w fun e w' => e = .returned (.bool true) ∧ Below w.heap.size w w' := by
  have hb : (b == 0) = false := by simp [h0]
  clear hl h0
  have hrz : (r == 0) = false := by simp; omega
  go_enter Try.func4, Try.ntmps4
  go_wp2_with (first | (go_at_call 9; refine (lives_any _).mono ?_; rintro e w1 ⟨rfl, hB1⟩) | (go_at_call 10; (with_reducible refine (hq _).mono ?_); rintro e w2 ⟨rfl, hB2⟩) | (go_at_call 10; (with_reducible refine (hr _).mono ?_); rintro e w3 ⟨rfl, hB3⟩) | (go_at_call 10; (with_reducible refine (bin_mul _ _ _).mono ?_); rintro e w4 ⟨rfl, hB4⟩) | (go_at_call 10; (with_reducible refine (hs _).mono ?_); rintro e w5 ⟨rfl, hB5⟩))
  go_ret
  exact ⟨rfl, (((hB1.trans hB2).trans hB3).trans hB4).trans hB5⟩
theorem walk_pn_m (a b q r : Int) (h0 : ¬ b = 0) (hl : decide (b = -1 ∧ a = -9223372036854775808) = false) (hb1 : (b == -1) = true) (ha1 : (a == -9223372036854775808) = false) (hr0 : 0 < r) (ha0 : 0 < a) (hb2 : b < 0) (hlo : -9223372036854775808 ≤ r) (hhi : r < 9223372036854775808) (hrb : r < -b)
    (hq : ∀ w, Calls Try.prog 10 #[.string ⟨#[47]⟩, .int .i64 a, .int .i64 b] w fun e w' => e = .returned (.tuple #[.int .i64 q, .int .i64 0]) ∧ B w w')
    (hr : ∀ w, Calls Try.prog 10 #[.string ⟨#[37]⟩, .int .i64 a, .int .i64 b] w fun e w' => e = .returned (.tuple #[.int .i64 r, .int .i64 0]) ∧ B w w')
    (hs : ∀ w, Calls Try.prog 10 #[.string ⟨#[43]⟩, .int .i64 (wrap64 (q * b)), .int .i64 r] w fun e w' => e = .returned (.tuple #[.int .i64 a, .int .i64 0]) ∧ B w w') (w : World) :
    Calls Try.prog 4 #[.int .i64 a, .int .i64 b] w fun e w' => e = .returned (.bool true) ∧ Below w.heap.size w w' := by
  have hb : (b == 0) = false := by simp [h0]
  clear hl h0
  have hrz : (r == 0) = false := by simp; omega
  go_enter Try.func4, Try.ntmps4
  go_wp2_with (first | (go_at_call 9; refine (lives_any _).mono ?_; rintro e w1 ⟨rfl, hB1⟩) | (go_at_call 10; (with_reducible refine (hq _).mono ?_); rintro e w2 ⟨rfl, hB2⟩) | (go_at_call 10; (with_reducible refine (hr _).mono ?_); rintro e w3 ⟨rfl, hB3⟩) | (go_at_call 10; (with_reducible refine (bin_mul _ _ _).mono ?_); rintro e w4 ⟨rfl, hB4⟩) | (go_at_call 10; (with_reducible refine (hs _).mono ?_); rintro e w5 ⟨rfl, hB5⟩))
  go_ret
  exact ⟨rfl, (((hB1.trans hB2).trans hB3).trans hB4).trans hB5⟩
theorem walk_pn_o (a b q r : Int) (h0 : ¬ b = 0) (hl : decide (b = -1 ∧ a = -9223372036854775808) = false) (hb1 : (b == -1) = false) (hr0 : 0 < r) (ha0 : 0 < a) (hb2 : b < 0) (hlo : -9223372036854775808 ≤ r) (hhi : r < 9223372036854775808) (hrb : r < -b)
    (hq : ∀ w, Calls Try.prog 10 #[.string ⟨#[47]⟩, .int .i64 a, .int .i64 b] w fun e w' => e = .returned (.tuple #[.int .i64 q, .int .i64 0]) ∧ B w w')
    (hr : ∀ w, Calls Try.prog 10 #[.string ⟨#[37]⟩, .int .i64 a, .int .i64 b] w fun e w' => e = .returned (.tuple #[.int .i64 r, .int .i64 0]) ∧ B w w')
    (hs : ∀ w, Calls Try.prog 10 #[.string ⟨#[43]⟩, .int .i64 (wrap64 (q * b)), .int .i64 r] w fun e w' => e = .returned (.tuple #[.int .i64 a, .int .i64 0]) ∧ B w w') (w : World) :
    Calls Try.prog 4 #[.int .i64 a, .int .i64 b] w fun e w' => e = .returned (.bool true) ∧ Below w.heap.size w w' := by
  have hb : (b == 0) = false := by simp [h0]
  clear hl h0
  have hrz : (r == 0) = false := by simp; omega
  go_enter Try.func4, Try.ntmps4
  go_wp2_with (first | (go_at_call 9; refine (lives_any _).mono ?_; rintro e w1 ⟨rfl, hB1⟩) | (go_at_call 10; (with_reducible refine (hq _).mono ?_); rintro e w2 ⟨rfl, hB2⟩) | (go_at_call 10; (with_reducible refine (hr _).mono ?_); rintro e w3 ⟨rfl, hB3⟩) | (go_at_call 10; (with_reducible refine (bin_mul _ _ _).mono ?_); rintro e w4 ⟨rfl, hB4⟩) | (go_at_call 10; (with_reducible refine (hs _).mono ?_); rintro e w5 ⟨rfl, hB5⟩))
  go_ret
  exact ⟨rfl, (((hB1.trans hB2).trans hB3).trans hB4).trans hB5⟩
theorem walk_np_o (a b q r : Int) (h0 : ¬ b = 0) (hl : decide (b = -1 ∧ a = -9223372036854775808) = false) (hb1 : (b == -1) = false) (hr0 : r < 0) (ha0 : a < 0) (hb2 : 0 < b) (hlo : -9223372036854775808 < r) (hrb : -r < b)
    (hq : ∀ w, Calls Try.prog 10 #[.string ⟨#[47]⟩, .int .i64 a, .int .i64 b] w fun e w' => e = .returned (.tuple #[.int .i64 q, .int .i64 0]) ∧ B w w')
    (hr : ∀ w, Calls Try.prog 10 #[.string ⟨#[37]⟩, .int .i64 a, .int .i64 b] w fun e w' => e = .returned (.tuple #[.int .i64 r, .int .i64 0]) ∧ B w w')
    (hs : ∀ w, Calls Try.prog 10 #[.string ⟨#[43]⟩, .int .i64 (wrap64 (q * b)), .int .i64 r] w fun e w' => e = .returned (.tuple #[.int .i64 a, .int .i64 0]) ∧ B w w') (w : World) :
    Calls Try.prog 4 #[.int .i64 a, .int .i64 b] w fun e w' => e = .returned (.bool true) ∧ Below w.heap.size w w' := by
  have hb : (b == 0) = false := by simp [h0]
  clear hl h0
  have hrz : (r == 0) = false := by simp; omega
  go_enter Try.func4, Try.ntmps4
  go_wp2_with (first | (go_at_call 9; refine (lives_any _).mono ?_; rintro e w1 ⟨rfl, hB1⟩) | (go_at_call 10; (with_reducible refine (hq _).mono ?_); rintro e w2 ⟨rfl, hB2⟩) | (go_at_call 10; (with_reducible refine (hr _).mono ?_); rintro e w3 ⟨rfl, hB3⟩) | (go_at_call 10; (with_reducible refine (bin_mul _ _ _).mono ?_); rintro e w4 ⟨rfl, hB4⟩) | (go_at_call 10; (with_reducible refine (hs _).mono ?_); rintro e w5 ⟨rfl, hB5⟩))
  go_ret
  exact ⟨rfl, (((hB1.trans hB2).trans hB3).trans hB4).trans hB5⟩
theorem walk_nn_m (a b q r : Int) (h0 : ¬ b = 0) (hl : decide (b = -1 ∧ a = -9223372036854775808) = false) (hb1 : (b == -1) = true) (ha1 : (a == -9223372036854775808) = false) (hr0 : r < 0) (ha0 : a < 0) (hb2 : b < 0) (hrb : b < r)
    (hq : ∀ w, Calls Try.prog 10 #[.string ⟨#[47]⟩, .int .i64 a, .int .i64 b] w fun e w' => e = .returned (.tuple #[.int .i64 q, .int .i64 0]) ∧ B w w')
    (hr : ∀ w, Calls Try.prog 10 #[.string ⟨#[37]⟩, .int .i64 a, .int .i64 b] w fun e w' => e = .returned (.tuple #[.int .i64 r, .int .i64 0]) ∧ B w w')
    (hs : ∀ w, Calls Try.prog 10 #[.string ⟨#[43]⟩, .int .i64 (wrap64 (q * b)), .int .i64 r] w fun e w' => e = .returned (.tuple #[.int .i64 a, .int .i64 0]) ∧ B w w') (w : World) :
    Calls Try.prog 4 #[.int .i64 a, .int .i64 b] w fun e w' => e = .returned (.bool true) ∧ Below w.heap.size w w' := by
  have hb : (b == 0) = false := by simp [h0]
  clear hl h0
  have hrz : (r == 0) = false := by simp; omega
  go_enter Try.func4, Try.ntmps4
  go_wp2_with (first | (go_at_call 9; refine (lives_any _).mono ?_; rintro e w1 ⟨rfl, hB1⟩) | (go_at_call 10; (with_reducible refine (hq _).mono ?_); rintro e w2 ⟨rfl, hB2⟩) | (go_at_call 10; (with_reducible refine (hr _).mono ?_); rintro e w3 ⟨rfl, hB3⟩) | (go_at_call 10; (with_reducible refine (bin_mul _ _ _).mono ?_); rintro e w4 ⟨rfl, hB4⟩) | (go_at_call 10; (with_reducible refine (hs _).mono ?_); rintro e w5 ⟨rfl, hB5⟩))
  go_ret
  exact ⟨rfl, (((hB1.trans hB2).trans hB3).trans hB4).trans hB5⟩
theorem walk_nn_o (a b q r : Int) (h0 : ¬ b = 0) (hl : decide (b = -1 ∧ a = -9223372036854775808) = false) (hb1 : (b == -1) = false) (hr0 : r < 0) (ha0 : a < 0) (hb2 : b < 0) (hrb : b < r)
    (hq : ∀ w, Calls Try.prog 10 #[.string ⟨#[47]⟩, .int .i64 a, .int .i64 b] w fun e w' => e = .returned (.tuple #[.int .i64 q, .int .i64 0]) ∧ B w w')
    (hr : ∀ w, Calls Try.prog 10 #[.string ⟨#[37]⟩, .int .i64 a, .int .i64 b] w fun e w' => e = .returned (.tuple #[.int .i64 r, .int .i64 0]) ∧ B w w')
    (hs : ∀ w, Calls Try.prog 10 #[.string ⟨#[43]⟩, .int .i64 (wrap64 (q * b)), .int .i64 r] w fun e w' => e = .returned (.tuple #[.int .i64 a, .int .i64 0]) ∧ B w w') (w : World) :
    Calls Try.prog 4 #[.int .i64 a, .int .i64 b] w fun e w' => e = .returned (.bool true) ∧ Below w.heap.size w w' := by
  have hb : (b == 0) = false := by simp [h0]
  clear hl h0
  have hrz : (r == 0) = false := by simp; omega
  go_enter Try.func4, Try.ntmps4
  go_wp2_with (first | (go_at_call 9; refine (lives_any _).mono ?_; rintro e w1 ⟨rfl, hB1⟩) | (go_at_call 10; (with_reducible refine (hq _).mono ?_); rintro e w2 ⟨rfl, hB2⟩) | (go_at_call 10; (with_reducible refine (hr _).mono ?_); rintro e w3 ⟨rfl, hB3⟩) | (go_at_call 10; (with_reducible refine (bin_mul _ _ _).mono ?_); rintro e w4 ⟨rfl, hB4⟩) | (go_at_call 10; (with_reducible refine (hs _).mono ?_); rintro e w5 ⟨rfl, hB5⟩))
  go_ret
  exact ⟨rfl, (((hB1.trans hB2).trans hB3).trans hB4).trans hB5⟩
theorem walk (a0 a1 : Int) (w0 : (Lit.int .i64 a0).wf = true) (w1 : (Lit.int .i64 a1).wf = true) (w : World) :
    Calls Try.prog 4 #[.int .i64 a0, .int .i64 a1] w fun e w' => e = .returned (.bool true) ∧ Below w.heap.size w w' := by
  have ha := blt w0
  have hb := blt w1
  by_cases h0 : a1 = 0
  · subst h0
    exact walk_zero a0 w
  · by_cases hl : a1 = -1 ∧ a0 = -9223372036854775808
    · obtain ⟨rfl, rfl⟩ := hl
      exact walk_least w
    · obtain ⟨e1, e2⟩ := quo_rem a0 a1 ha h0 hl
      have hq := bin_div a0 a1
      have hr := bin_rem a0 a1
      have hs := bin_add (wrap64 (divV a0 a1 * a1)) (remV a0 a1)
      rw [e1] at hs
      have hd := decide_eq_false hl
      have hn := rem_neg a0 a1 h0
      have hp := rem_pos a0 a1 h0
      rw [← e2] at hn hp
      generalize divV a0 a1 = q at hq hs
      generalize remV a0 a1 = r at hr hs hn hp
      clear e1 e2
      by_cases hb1 : a1 = -1
      · have ha1 : (a0 == -9223372036854775808) = false := by
          simp; intro h; exact hl ⟨hb1, h⟩
        rcases Int.lt_trichotomy r 0 with h | h | h
        · rcases Int.lt_or_le a0 0 with g | g
          · have := hn g
            exact walk_nn_m a0 a1 q r h0 hd (by simp [hb1]) ha1 h g (by omega) (by omega) hq hr hs w
          · have := hp g; omega
        · exact walk_zn_m a0 a1 q r h0 hd (by simp [hb1]) ha1 h (by omega) hq hr hs w
        · rcases Int.lt_or_le a0 0 with g | g
          · have := hn g; omega
          · have := hp g
            exact walk_pn_m a0 a1 q r h0 hd (by simp [hb1]) ha1 h (by omega) (by omega) (by omega) (by omega) (by omega) hq hr hs w
      · have hb2 : (a1 == -1) = false := by simp [hb1]
        rcases Int.lt_or_le a1 0 with s | s
        · rcases Int.lt_trichotomy r 0 with h | h | h
          · rcases Int.lt_or_le a0 0 with g | g
            · have := hn g
              exact walk_nn_o a0 a1 q r h0 hd hb2 h g (by omega) (by omega) hq hr hs w
            · have := hp g; omega
          · exact walk_zn_o a0 a1 q r h0 hd hb2 h (by omega) hq hr hs w
          · rcases Int.lt_or_le a0 0 with g | g
            · have := hn g; omega
            · have := hp g
              exact walk_pn_o a0 a1 q r h0 hd hb2 h (by omega) (by omega) (by omega) (by omega) (by omega) hq hr hs w
        · rcases Int.lt_trichotomy r 0 with h | h | h
          · rcases Int.lt_or_le a0 0 with g | g
            · have := hn g
              exact walk_np_o a0 a1 q r h0 hd hb2 h g (by omega) (by omega) (by omega) hq hr hs w
            · have := hp g; omega
          · exact walk_zp_o a0 a1 q r h0 hd hb2 h (by omega) hq hr hs w
          · rcases Int.lt_or_le a0 0 with g | g
            · have := hn g; omega
            · have := hp g
              exact walk_pp_o a0 a1 q r h0 hd hb2 h (by omega) (by omega) (by omega) hq hr hs w

theorem own : ownKnob Try.prog.godebug = none := by kernel_rfl
set_option maxRecDepth 100000 in
theorem lifted (os : Os) (started : os.Started) (H : Type) (enc : TypeId × Value → H) :
    ReturnsInHanded {} Try.checked os 4 .any (Rows.wordDividesSpec.pre6 enc Try.prog Try.f4 Rows.wordDividesRow.domain false) (Rows.wordDividesSpec.post enc Try.prog Try.f4 false true false false) := by
  refine returnsInHanded_of_change_sized (C := Try.checked) own started (by kernel_rfl) Try.func4
    (ChangeSpec.witness6 (enc := enc) (C := Try.checked) false ⟨#[], #[.int .i64 0, .int .i64 0], []⟩ 8 (by kernel_rfl) (by kernel_rfl) (by kernel_rfl) (by kernel_rfl)) ?_
  intro W base args ds gs before hval0 hW hcnd hsz0 _
  have hsz : (DataW.weightsEach Try.prog (Try.f4.params.toList ++ Rows.wordDividesSpec.plain.varTypes Try.prog) (ds ++ gs)).all (· ≤ reachBytes) = true := hsz0
  have hval : ∀ (j : Nat) t v, Try.f4.params[j]? = some t → args[j]? = some v → Value.okWide Try.prog W .any base t v := hval0
  have hW' := hW
  obtain ⟨p, q, hA0, hV, rfl, hfz, hnd⟩ := hW
  have hA : DataW.TrodAll enc Try.prog W 0 (fun _ => true) true Try.f4.params.toList args.toList ds p := hA0
  rw [Try.params4] at hA hval hsz
  obtain ⟨v0, vs0, d0, ds0, p0, q0, hargs, rfl, rfl, h0, r0⟩ := trodAll_cons hA
  obtain ⟨v1, vs1, d1, ds1, p1, q1, rfl, rfl, rfl, h1, r1⟩ := trodAll_cons r0
  obtain ⟨rfl, rfl, rfl⟩ := trodAll_nil r1
  obtain rfl : args = #[v0, v1] := by cases args; simp_all
  obtain ⟨rfl, rfl⟩ := trodVars_none hV
  obtain ⟨a0, rfl, rfl, rfl, w0⟩ := open_int Try.underlying2 (hval 0 2 v0 rfl rfl) h0
  obtain ⟨a1, rfl, rfl, rfl, w1⟩ := open_int Try.underlying2 (hval 1 2 v1 rfl rfl) h1
  clear hA0 hval0 hsz0 hsz
  refine (walk a0 a1 w0 w1 W).mono fun e W' ⟨he, bel⟩ => ?_
  subst he
  exact ⟨_, rfl, _, _, _, [], _, [], hW', trodAll_mk1 (shut_bool Try.underlying4 _), (trodAll_cons_mk (shut_int Try.underlying2 w0) (trodAll_cons_mk (shut_int Try.underlying2 w1) trodAll_mk0)), rfl, bel.frame _, fun h => by cases h⟩
theorem over : Rows.wordDividesRow.holds Try.pinned (OpenSpec.ofChange Rows.wordDividesSpec) :=
  OpenClaim.holds_of_wide 4 Try.f4 rfl rfl rfl rfl rfl rfl rfl ⟨rfl, rfl, rfl, rfl, rfl⟩ rfl rfl rfl rfl rfl (by kernel_rfl) Try.func4 (by kernel_rfl)
    (of_decide_eq_true (by kernel_rfl)) (by unfold Func.isWrapper; first | (rw [if_pos (by decide +kernel)]; kernel_rfl) | (rw [if_neg (by decide +kernel)]; exact ⟨rfl, rfl⟩))
    (fun os started H enc _ => lifted os started H enc)
theorem proved : Rows.WordDividesSaid := over
#print axioms proved
end Go.Proofs.Ytghncpmepaohiaa.wordDivides
namespace Go.Proofs.Ytghncpmepaohiaa
/-- The row, under a short name, for the claim. -/
theorem wordDivides_holds : Rows.WordDividesSaid := wordDivides.proved
end Go.Proofs.Ytghncpmepaohiaa
