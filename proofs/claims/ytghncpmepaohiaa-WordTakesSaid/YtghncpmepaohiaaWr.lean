/- Contracts of penduleref04: what the reference makes of any two values, or of one. -/
import Derived.Test.YtghncpmepaohiaaWd
import Derived.Laws.Bits64
import Derived.Laws.BitsAllLaws
import Derived.LoopTactic
import Derived.Lib.Hide
import Derived.Test.YtghncpmepaohiaaWx
namespace Go.Proofs.Ytghncpmepaohiaa.Wd
open Go.RowKit
set_option linter.unusedVariables false
set_option linter.unusedSimpArgs false
set_option maxHeartbeats 1000000

/-! Plain facts on 64-bit words. -/
theorem mod_step (b : Int) (hb : 0 ≤ b) (k : Nat) : b % 2 ^ (k + 1) = b % 2 ^ k + 2 ^ k * ((b / 2 ^ k) % 2) := by
  obtain ⟨n, rfl⟩ := Int.eq_ofNat_of_zero_le hb
  have := Nat.mod_pow_succ (x := n) (b := 2) (k := k)
  exact_mod_cast this
theorem tmod_two (b : Int) (hb : 0 ≤ b) (k : Nat) : (b / 2 ^ k).tmod 2 = (b / 2 ^ k) % 2 :=
  Int.tmod_eq_emod_of_nonneg (Int.ediv_nonneg hb (Int.le_of_lt (Int.pow_pos (by decide))))
theorem prod_yes (a b : Int) (hb : 0 ≤ b) (k : Nat) (h : ((b / 2 ^ k).tmod 2 == 1) = true) :
    IntKind.u64.wrap (a * (b % 2 ^ k) % 18446744073709551616 + IntKind.u64.wrap (a * 2 ^ k)) = a * (b % 2 ^ (k + 1)) % 18446744073709551616 := by
  rw [tmod_two b hb] at h
  have h1 : (b / 2 ^ k) % 2 = 1 := by simpa using h
  rw [mod_step b hb, h1, IntKind.wrap_u64, IntKind.wrap_u64, Int.mul_one, Int.mul_add]
  omega
theorem prod_no (a b : Int) (hb : 0 ≤ b) (k : Nat) (h : ((b / 2 ^ k).tmod 2 == 1) = false) :
    a * (b % 2 ^ k) % 18446744073709551616 = a * (b % 2 ^ (k + 1)) % 18446744073709551616 := by
  rw [tmod_two b hb] at h
  have h1 : (b / 2 ^ k) % 2 = 0 := by
    have : ¬ (b / 2 ^ k) % 2 = 1 := by simpa using h
    omega
  rw [mod_step b hb, h1, Int.mul_zero, Int.add_zero]

theorem rtruth_any (c : Bool) (w : World) : Calls Try.prog 23 #[.bool c] w fun e w' => e = .returned (.int .i64 (tr c)) ∧ w = w' := by
  cases c <;> (go_enter Try.func23, Try.ntmps23; go_wp2; go_ret; exact ⟨rfl, rfl⟩)

theorem product_any (a b : Int) (ha : 0 ≤ a) (hb : 0 ≤ b) (ha1 : a < 18446744073709551616) (hb1 : b < 18446744073709551616) (w : World) : Calls Try.prog 19 #[.int .u64 a, .int .u64 b] w fun e w' => e = .returned (.int .u64 ((a * b) % 18446744073709551616)) ∧ w = w' := by
  have H1 : Hid (a < 18446744073709551616) := ha1
  have H2 : Hid (b < 18446744073709551616) := hb1
  clear ha1 hb1
  go_enter Try.func19, Try.ntmps19
  go_wp2
  go_loop [5, 6] (fun n i => ∃ k : Nat, k ≤ 64 ∧ i = .int .i64 k ∧ n = .int .u64 ((a * (b % 2 ^ k)) % 18446744073709551616)) (fun _ i => 64 - (intOf i).toNat)
  case atStart => exact ⟨0, by omega, rfl, by simp⟩
  case round =>
    obtain ⟨k, hk, rfl, rfl⟩ := hrel
    by_cases hlt : k < 64
    · go_wp2
      · go_round
        case rel => exact ⟨k + 1, by omega, by go_num, by rw [prod_yes a b hb k (by assumption)]⟩
        case measure => simp [intOf]; omega
      · go_round
        case rel => exact ⟨k + 1, by omega, by go_num, by rw [prod_no a b hb k (by assumption)]⟩
        case measure => simp [intOf]; omega
    · go_wp2
      go_ret
      obtain rfl : k = 64 := by omega
      have e : b % 2 ^ 64 = b := Int.emod_eq_of_lt hb H2.out
      exact ⟨ret_i (by rw [e]), rfl⟩

theorem max_xor (n : Int) (h0 : 0 ≤ n) (h1 : n < 18446744073709551616) : bits BinOp.xor IntKind.u64 IntKind.u64.max n = 18446744073709551615 - n := by
  obtain ⟨a, rfl⟩ := Int.eq_ofNat_of_zero_le h0
  have e : IntKind.u64.max = 18446744073709551615 := by decide
  show IntKind.u64.wrap ((BitVec.ofInt 64 IntKind.u64.max ^^^ BitVec.ofInt 64 (a : Int)).toNat : Int) = _
  have h1 : BitVec.ofInt 64 IntKind.u64.max = BitVec.allOnes 64 := by rw [e]; decide
  rw [h1, BitVec.allOnes_xor, BitVec.toNat_not, IntKind.wrap_u64]
  have : (BitVec.ofInt 64 (a : Int)).toNat = a := by
    rw [BitVec.ofInt_natCast, BitVec.toNat_ofNat]; exact Nat.mod_eq_of_lt (by omega)
  rw [this]
  omega
theorem neg_u64 (n : Int) (h0 : 0 ≤ n) (h1 : n < 18446744073709551616) : wrap64 (IntKind.u64.wrap (bits BinOp.xor IntKind.u64 IntKind.u64.max n + 1)) = wrap64 (-n) := by
  rw [max_xor n h0 h1, IntKind.wrap_u64]
  unfold wrap64
  omega
theorem signed_minus (n : Int) (h0 : 0 ≤ n) (h1 : n < 18446744073709551616) (w : World) : Calls Try.prog 21 #[.int .u64 n, .bool true] w fun e w' => e = .returned (.int .i64 (wrap64 (-n))) ∧ w = w' := by
  have H1 : Hid (n < 18446744073709551616) := h1
  clear h1
  go_enter Try.func21, Try.ntmps21
  go_wp2
  go_ret
  exact ⟨ret_i (neg_u64 n h0 H1.out), rfl⟩
theorem signed_plus (n : Int) (w : World) : Calls Try.prog 21 #[.int .u64 n, .bool false] w fun e w' => e = .returned (.int .i64 (wrap64 n)) ∧ w = w' := by
  go_enter Try.func21, Try.ntmps21
  go_wp2
  go_ret
  exact ⟨rfl, rfl⟩
theorem size_minus (n : Int) (h0 : n < 0) (h1 : -9223372036854775808 ≤ n) (w : World) : Calls Try.prog 22 #[.int .i64 n] w fun e w' => e = .returned (.int .u64 (-n)) ∧ w = w' := by
  have H1 : Hid (-9223372036854775808 ≤ n) := h1
  clear h1
  go_enter Try.func22, Try.ntmps22
  go_wp2
  go_ret
  refine ⟨ret_i ?_, rfl⟩
  have h1 := H1.out
  have e : IntKind.u64.wrap n = n + 18446744073709551616 := by rw [IntKind.wrap_u64]; omega
  rw [e, max_xor _ (by omega) (by omega), IntKind.wrap_u64]
  omega
theorem size_plus (n : Int) (h0 : 0 ≤ n) (h1 : n < 9223372036854775808) (w : World) : Calls Try.prog 22 #[.int .i64 n] w fun e w' => e = .returned (.int .u64 n) ∧ w = w' := by
  have H1 : Hid (n < 9223372036854775808) := h1
  clear h1
  go_enter Try.func22, Try.ntmps22
  go_wp2
  go_ret
  refine ⟨ret_i ?_, rfl⟩
  have h1 := H1.out
  first | rfl | (rw [IntKind.wrap_u64]; omega)
/-- Is it the least number by -1? -/
def leastB (a b : Int) : Bool := a == -9223372036854775808 && b == -1
theorem least_any (a b : Int) (h0 : -9223372036854775808 ≤ a) (h1 : a < 9223372036854775808) (w : World) : Calls Try.prog 20 #[.int .i64 a, .int .i64 b] w fun e w' => e = .returned (.bool (leastB a b)) ∧ w = w' := by
  by_cases h : a = -9223372036854775808
  · have h2 : (IntKind.u64.wrap a == 9223372036854775808) = true := by subst h; decide
    have H : Hid (leastB a b = (b == -1)) := by show leastB a b = _; simp [leastB, h]
    clear h h0 h1
    go_enter Try.func20, Try.ntmps20
    go_wp2
    go_ret
    exact ⟨ret_b H.out.symm, rfl⟩
  · have h2 : (IntKind.u64.wrap a == 9223372036854775808) = false := by rw [IntKind.wrap_u64]; simp; omega
    have H : Hid (leastB a b = false) := by show leastB a b = _; simp [leastB, h]
    clear h h0 h1
    go_enter Try.func20, Try.ntmps20
    go_wp2
    go_ret
    exact ⟨ret_b H.out.symm, rfl⟩

theorem ret_t {a b c : Int} (h : a = b) : Ending.returned (.tuple #[.int .i64 a, .int .i64 c]) = .returned (.tuple #[.int .i64 b, .int .i64 c]) := by rw [h]

theorem rbin_add (a b : Int) (w : World) : Calls Try.prog 11 #[.string ⟨#[43]⟩, .int .i64 a, .int .i64 b] w fun e w' => e = .returned (.tuple #[.int .i64 (wrap64 (a + b)), .int .i64 0]) ∧ w = w' := by
  go_enter Try.func11, Try.ntmps11
  go_wp2
  go_ret2
  refine ⟨ret_t ?_, rfl⟩
  simp only [IntKind.wrap_u64]; unfold wrap64; omega
theorem rbin_sub (a b : Int) (w : World) : Calls Try.prog 11 #[.string ⟨#[45]⟩, .int .i64 a, .int .i64 b] w fun e w' => e = .returned (.tuple #[.int .i64 (wrap64 (a - b)), .int .i64 0]) ∧ w = w' := by
  go_enter Try.func11, Try.ntmps11
  go_wp2
  go_ret2
  refine ⟨ret_t ?_, rfl⟩
  simp only [IntKind.wrap_u64]; unfold wrap64; omega
theorem u64_lo (a : Int) : 0 ≤ IntKind.u64.wrap a := by rw [IntKind.wrap_u64]; omega
theorem u64_hi (a : Int) : IntKind.u64.wrap a < 18446744073709551616 := by rw [IntKind.wrap_u64]; omega
theorem rbin_mul (a b : Int) (w : World) : Calls Try.prog 11 #[.string ⟨#[42]⟩, .int .i64 a, .int .i64 b] w fun e w' => e = .returned (.tuple #[.int .i64 (wrap64 (a * b)), .int .i64 0]) ∧ w = w' := by
  go_enter Try.func11, Try.ntmps11
  go_wp2_with (go_at_call 19; refine (product_any _ _ (u64_lo _) (u64_lo _) (u64_hi _) (u64_hi _) _).mono ?_; rintro e w' ⟨rfl, rfl⟩)
  go_ret2
  refine ⟨ret_t ?_, rfl⟩
  rw [IntKind.wrap_u64, IntKind.wrap_u64, ← Int.mul_emod]
  unfold wrap64; omega
theorem rbin_lt (a b : Int) (ha : -9223372036854775808 ≤ a ∧ a < 9223372036854775808) (hb : -9223372036854775808 ≤ b ∧ b < 9223372036854775808) (w : World) : Calls Try.prog 11 #[.string ⟨#[60]⟩, .int .i64 a, .int .i64 b] w fun e w' => e = .returned (.tuple #[.int .i64 (tr (decide (a < b))), .int .i64 0]) ∧ w = w' := by
  have HA := Lib.hid ha
  have HB := Lib.hid hb
  clear ha hb
  go_enter Try.func11, Try.ntmps11
  go_wp2_with (go_at_call 23; refine (rtruth_any _ _).mono ?_; rintro e w' ⟨rfl, rfl⟩)
  go_ret2
  refine ⟨ret_t ?_, rfl⟩
  rw [top_xor a HA.out.1 HA.out.2, top_xor b HB.out.1 HB.out.2]
  congr 1
  simp
theorem rbin_le (a b : Int) (ha : -9223372036854775808 ≤ a ∧ a < 9223372036854775808) (hb : -9223372036854775808 ≤ b ∧ b < 9223372036854775808) (w : World) : Calls Try.prog 11 #[.string ⟨#[60, 61]⟩, .int .i64 a, .int .i64 b] w fun e w' => e = .returned (.tuple #[.int .i64 (tr (decide (a ≤ b))), .int .i64 0]) ∧ w = w' := by
  have HA := Lib.hid ha
  have HB := Lib.hid hb
  clear ha hb
  go_enter Try.func11, Try.ntmps11
  go_wp2_with (go_at_call 23; refine (rtruth_any _ _).mono ?_; rintro e w' ⟨rfl, rfl⟩)
  go_ret2
  refine ⟨ret_t ?_, rfl⟩
  rw [top_xor a HA.out.1 HA.out.2, top_xor b HB.out.1 HB.out.2]
  congr 1
  simp
theorem rbin_eq (a b : Int) (ha : -9223372036854775808 ≤ a ∧ a < 9223372036854775808) (hb : -9223372036854775808 ≤ b ∧ b < 9223372036854775808) (w : World) : Calls Try.prog 11 #[.string ⟨#[61]⟩, .int .i64 a, .int .i64 b] w fun e w' => e = .returned (.tuple #[.int .i64 (tr (a == b)), .int .i64 0]) ∧ w = w' := by
  have HA := Lib.hid ha
  have HB := Lib.hid hb
  clear ha hb
  go_enter Try.func11, Try.ntmps11
  go_wp2_with (go_at_call 23; refine (rtruth_any _ _).mono ?_; rintro e w' ⟨rfl, rfl⟩)
  go_ret2
  refine ⟨ret_t ?_, rfl⟩
  rw [xor_zero a b HA.out HB.out]
theorem rbin_ne (a b : Int) (ha : -9223372036854775808 ≤ a ∧ a < 9223372036854775808) (hb : -9223372036854775808 ≤ b ∧ b < 9223372036854775808) (w : World) : Calls Try.prog 11 #[.string ⟨#[60, 62]⟩, .int .i64 a, .int .i64 b] w fun e w' => e = .returned (.tuple #[.int .i64 (tr (a != b)), .int .i64 0]) ∧ w = w' := by
  have HA := Lib.hid ha
  have HB := Lib.hid hb
  clear ha hb
  go_enter Try.func11, Try.ntmps11
  go_wp2_with (go_at_call 23; refine (rtruth_any _ _).mono ?_; rintro e w' ⟨rfl, rfl⟩)
  go_ret2
  refine ⟨ret_t ?_, rfl⟩
  have := xor_zero a b HA.out HB.out
  simp only [bne, this]
theorem rbin_and (a b : Int) (w : World) : Calls Try.prog 11 #[.string ⟨#[97, 110, 100]⟩, .int .i64 a, .int .i64 b] w fun e w' => e = .returned (.tuple #[.int .i64 (tr (andB a b)), .int .i64 0]) ∧ w = w' := by
  by_cases h : a = 0
  · subst h
    go_enter Try.func11, Try.ntmps11
    go_wp2_with (go_at_call 23; refine (rtruth_any _ _).mono ?_; rintro e w' ⟨rfl, rfl⟩)
    go_ret2
    refine ⟨ret_t ?_, rfl⟩
    simp [andB]
  · go_enter Try.func11, Try.ntmps11
    go_wp2_with (go_at_call 23; refine (rtruth_any _ _).mono ?_; rintro e w' ⟨rfl, rfl⟩)
    go_ret2
    refine ⟨ret_t ?_, rfl⟩
    simp [andB, h]
theorem rbin_or (a b : Int) (w : World) : Calls Try.prog 11 #[.string ⟨#[111, 114]⟩, .int .i64 a, .int .i64 b] w fun e w' => e = .returned (.tuple #[.int .i64 (tr (a != 0 || b != 0)), .int .i64 0]) ∧ w = w' := by
  by_cases h : a = 0
  · subst h
    go_enter Try.func11, Try.ntmps11
    go_wp2_with (go_at_call 23; refine (rtruth_any _ _).mono ?_; rintro e w' ⟨rfl, rfl⟩)
    go_ret2
    refine ⟨ret_t ?_, rfl⟩
    rfl
  · go_enter Try.func11, Try.ntmps11
    go_wp2_with (go_at_call 23; refine (rtruth_any _ _).mono ?_; rintro e w' ⟨rfl, rfl⟩)
    go_ret2
    refine ⟨ret_t ?_, rfl⟩
    have e : (a != 0 || b != 0) = true := by simp [h]
    rw [e]
theorem rbin_none (s : ByteArray) (h : NoOp s) (a b : Int) (w : World) : Calls Try.prog 11 #[.string s, .int .i64 a, .int .i64 b] w fun e w' => e = .returned (.tuple #[.int .i64 0, .int .i64 10]) ∧ w = w' := by
  obtain ⟨hadd, hsub, hmul, hdiv, hrem, hlt, hle, heq, hne, hand, hor⟩ := h
  go_enter Try.func11, Try.ntmps11
  go_wp2
  go_ret2
  exact ⟨rfl, rfl⟩

theorem wrap_plus (x : Int) : wrap64 (IntKind.u64.wrap x) = wrap64 x := by rw [IntKind.wrap_u64]; unfold wrap64; omega
theorem wrap_minus (x : Int) : wrap64 (-(IntKind.u64.wrap (-x))) = wrap64 x := by rw [IntKind.wrap_u64]; unfold wrap64; omega
theorem dv_norm (a b : Int) (ha : -9223372036854775808 ≤ a ∧ a < 9223372036854775808) (h0 : ¬ b = 0) (hl : leastB a b = false) : dvB a b = true ∨ (b = -1 ∧ a = 0) := by
  unfold dvB
  by_cases h1 : b = -1
  · subst h1
    have h2 : ¬ a = -9223372036854775808 := by intro h; subst h; simp [leastB] at hl
    by_cases h3 : a = 0
    · exact Or.inr ⟨rfl, h3⟩
    · left
      have : ¬ a = wrap64 (-a) := by unfold wrap64; omega
      simp [this]
  · left; simp [h0, h1]
theorem divV_norm (a b : Int) (ha : -9223372036854775808 ≤ a ∧ a < 9223372036854775808) (h0 : ¬ b = 0) (hl : leastB a b = false) : divV a b = wrap64 (a.tdiv b) := by
  rcases dv_norm a b ha h0 hl with h | ⟨rfl, rfl⟩
  · simp [divV, h]
  · decide +kernel
theorem remV_norm (a b : Int) (ha : -9223372036854775808 ≤ a ∧ a < 9223372036854775808) (h0 : ¬ b = 0) (hl : leastB a b = false) : remV a b = a.tmod b := by
  rcases dv_norm a b ha h0 hl with h | ⟨rfl, rfl⟩
  · simp [remV, h]
  · decide +kernel
theorem tmod_neg_bounds (a b : Int) (ha : -9223372036854775808 ≤ a) (h : a < 0) : 0 ≤ -a.tmod b ∧ -a.tmod b ≤ 9223372036854775808 := by
  have e : a.tmod b = -((-a).tmod b) := by rw [Int.neg_tmod]; omega
  have h1 : 0 ≤ (-a).tmod b := Int.tmod_nonneg _ (by omega)
  have h2 := Int.natAbs_tmod (-a) b
  have h3 := Nat.mod_le (-a).natAbs b.natAbs
  omega
theorem rbin_div (a b : Int) (ha : -9223372036854775808 ≤ a ∧ a < 9223372036854775808) (hb : -9223372036854775808 ≤ b ∧ b < 9223372036854775808) (w : World) : Calls Try.prog 11 #[.string ⟨#[47]⟩, .int .i64 a, .int .i64 b] w fun e w' => e = .returned (.tuple #[.int .i64 (divV a b), .int .i64 0]) ∧ w = w' := by
  by_cases h0 : b = 0
  · subst h0
    clear ha hb
    go_enter Try.func11, Try.ntmps11
    go_wp2
    go_ret2
    exact ⟨ret_t (by simp [divV, dvB]), rfl⟩
  · have hl := least_any a b ha.1 ha.2
    by_cases h1 : leastB a b = true
    · rw [h1] at hl
      have H : Hid (divV a b = 0) := by simp [leastB] at h1; obtain ⟨rfl, rfl⟩ := h1; show divV _ _ = 0; decide +kernel
      clear ha hb h1
      have h1 : (b == 0) = false := by simp [h0]
      go_enter Try.func11, Try.ntmps11
      go_wp2_with (go_at_call 20; refine (hl _).mono ?_; rintro e w' ⟨rfl, rfl⟩)
      go_ret2
      exact ⟨ret_t H.out.symm, rfl⟩
    · simp only [Bool.not_eq_true] at h1
      rw [h1] at hl
      have HA := Lib.hid ha
      have HB := Lib.hid hb
      have HV := Lib.hid (divV_norm a b ha h0 h1)
      clear ha hb h1
      have h1 : (b == 0) = false := by simp [h0]
      have case_nn : ∀ (sa : a < 0) (sb : b < 0), Calls Try.prog 11 #[.string ⟨#[47]⟩, .int .i64 a, .int .i64 b] w fun e w' => e = .returned (.tuple #[.int .i64 (divV a b), .int .i64 0]) ∧ w = w' := by
        intro sa sb
        have da : decide (a < 0) = true := decide_eq_true (by omega)
        have db : decide (b < 0) = true := decide_eq_true (by omega)
        go_enter Try.func11, Try.ntmps11
        go_wp2_with (first | (go_at_call 20; refine (hl _).mono ?_; rintro e w' ⟨rfl, rfl⟩) | (go_at_call 21; refine (signed_plus _ _).mono ?_; rintro e w' ⟨rfl, rfl⟩) | (go_at_call 22; (with_reducible refine (size_minus a sa HA.out.1 _).mono ?_); rintro e w' ⟨rfl, rfl⟩) | (go_at_call 22; (with_reducible refine (size_minus b sb HB.out.1 _).mono ?_); rintro e w' ⟨rfl, rfl⟩))
        go_ret2
        refine ⟨ret_t ?_, rfl⟩
        rw [HV.out, wrap_plus]
      have case_np : ∀ (sa : a < 0) (sb : 0 ≤ b), Calls Try.prog 11 #[.string ⟨#[47]⟩, .int .i64 a, .int .i64 b] w fun e w' => e = .returned (.tuple #[.int .i64 (divV a b), .int .i64 0]) ∧ w = w' := by
        intro sa sb
        have da : decide (a < 0) = true := decide_eq_true (by omega)
        have db : decide (b < 0) = false := decide_eq_false (by omega)
        go_enter Try.func11, Try.ntmps11
        go_wp2_with (first | (go_at_call 20; refine (hl _).mono ?_; rintro e w' ⟨rfl, rfl⟩) | (go_at_call 21; refine (signed_minus _ (u64_lo _) (u64_hi _) _).mono ?_; rintro e w' ⟨rfl, rfl⟩) | (go_at_call 22; (with_reducible refine (size_minus a sa HA.out.1 _).mono ?_); rintro e w' ⟨rfl, rfl⟩) | (go_at_call 22; (with_reducible refine (size_plus b sb HB.out.2 _).mono ?_); rintro e w' ⟨rfl, rfl⟩))
        go_ret2
        refine ⟨ret_t ?_, rfl⟩
        rw [HV.out, wrap_minus]
      have case_pn : ∀ (sa : 0 ≤ a) (sb : b < 0), Calls Try.prog 11 #[.string ⟨#[47]⟩, .int .i64 a, .int .i64 b] w fun e w' => e = .returned (.tuple #[.int .i64 (divV a b), .int .i64 0]) ∧ w = w' := by
        intro sa sb
        have da : decide (a < 0) = false := decide_eq_false (by omega)
        have db : decide (b < 0) = true := decide_eq_true (by omega)
        go_enter Try.func11, Try.ntmps11
        go_wp2_with (first | (go_at_call 20; refine (hl _).mono ?_; rintro e w' ⟨rfl, rfl⟩) | (go_at_call 21; refine (signed_minus _ (u64_lo _) (u64_hi _) _).mono ?_; rintro e w' ⟨rfl, rfl⟩) | (go_at_call 22; (with_reducible refine (size_plus a sa HA.out.2 _).mono ?_); rintro e w' ⟨rfl, rfl⟩) | (go_at_call 22; (with_reducible refine (size_minus b sb HB.out.1 _).mono ?_); rintro e w' ⟨rfl, rfl⟩))
        go_ret2
        refine ⟨ret_t ?_, rfl⟩
        rw [HV.out, wrap_minus]
      have case_pp : ∀ (sa : 0 ≤ a) (sb : 0 ≤ b), Calls Try.prog 11 #[.string ⟨#[47]⟩, .int .i64 a, .int .i64 b] w fun e w' => e = .returned (.tuple #[.int .i64 (divV a b), .int .i64 0]) ∧ w = w' := by
        intro sa sb
        have da : decide (a < 0) = false := decide_eq_false (by omega)
        have db : decide (b < 0) = false := decide_eq_false (by omega)
        go_enter Try.func11, Try.ntmps11
        go_wp2_with (first | (go_at_call 20; refine (hl _).mono ?_; rintro e w' ⟨rfl, rfl⟩) | (go_at_call 21; refine (signed_plus _ _).mono ?_; rintro e w' ⟨rfl, rfl⟩) | (go_at_call 22; (with_reducible refine (size_plus a sa HA.out.2 _).mono ?_); rintro e w' ⟨rfl, rfl⟩) | (go_at_call 22; (with_reducible refine (size_plus b sb HB.out.2 _).mono ?_); rintro e w' ⟨rfl, rfl⟩))
        go_ret2
        refine ⟨ret_t ?_, rfl⟩
        rw [HV.out, wrap_plus]
      rcases Int.lt_or_le a 0 with sa | sa <;> rcases Int.lt_or_le b 0 with sb | sb
      · exact case_nn sa sb
      · exact case_np sa sb
      · exact case_pn sa sb
      · exact case_pp sa sb
theorem rbin_rem (a b : Int) (ha : -9223372036854775808 ≤ a ∧ a < 9223372036854775808) (hb : -9223372036854775808 ≤ b ∧ b < 9223372036854775808) (w : World) : Calls Try.prog 11 #[.string ⟨#[37]⟩, .int .i64 a, .int .i64 b] w fun e w' => e = .returned (.tuple #[.int .i64 (remV a b), .int .i64 0]) ∧ w = w' := by
  by_cases h0 : b = 0
  · subst h0
    clear ha hb
    go_enter Try.func11, Try.ntmps11
    go_wp2
    go_ret2
    exact ⟨ret_t (by simp [remV, dvB]), rfl⟩
  · have hl := least_any a b ha.1 ha.2
    by_cases h1 : leastB a b = true
    · rw [h1] at hl
      have H : Hid (remV a b = 0) := by simp [leastB] at h1; obtain ⟨rfl, rfl⟩ := h1; show remV _ _ = 0; decide +kernel
      clear ha hb h1
      have h1 : (b == 0) = false := by simp [h0]
      go_enter Try.func11, Try.ntmps11
      go_wp2_with (go_at_call 20; refine (hl _).mono ?_; rintro e w' ⟨rfl, rfl⟩)
      go_ret2
      exact ⟨ret_t H.out.symm, rfl⟩
    · simp only [Bool.not_eq_true] at h1
      rw [h1] at hl
      have HA := Lib.hid ha
      have HB := Lib.hid hb
      have HV := Lib.hid (remV_norm a b ha h0 h1)
      clear ha hb h1
      have h1 : (b == 0) = false := by simp [h0]
      have case_nn : ∀ (sa : a < 0) (sb : b < 0), Calls Try.prog 11 #[.string ⟨#[37]⟩, .int .i64 a, .int .i64 b] w fun e w' => e = .returned (.tuple #[.int .i64 (remV a b), .int .i64 0]) ∧ w = w' := by
        intro sa sb
        have da : decide (a < 0) = true := decide_eq_true (by omega)
        have db : decide (b < 0) = true := decide_eq_true (by omega)
        have HT := Lib.hid (tmod_neg_bounds a b HA.out.1 sa)
        go_enter Try.func11, Try.ntmps11
        go_wp2_with (first | (go_at_call 20; refine (hl _).mono ?_; rintro e w' ⟨rfl, rfl⟩) | (go_at_call 21; refine (signed_minus _ HT.out.1 (Int.lt_of_le_of_lt HT.out.2 (by decide)) _).mono ?_; rintro e w' ⟨rfl, rfl⟩) | (go_at_call 22; (with_reducible refine (size_minus a sa HA.out.1 _).mono ?_); rintro e w' ⟨rfl, rfl⟩) | (go_at_call 22; (with_reducible refine (size_minus b sb HB.out.1 _).mono ?_); rintro e w' ⟨rfl, rfl⟩))
        go_ret2
        refine ⟨ret_t ?_, rfl⟩
        have := HT.out; rw [HV.out]; unfold wrap64; omega
      have case_np : ∀ (sa : a < 0) (sb : 0 ≤ b), Calls Try.prog 11 #[.string ⟨#[37]⟩, .int .i64 a, .int .i64 b] w fun e w' => e = .returned (.tuple #[.int .i64 (remV a b), .int .i64 0]) ∧ w = w' := by
        intro sa sb
        have da : decide (a < 0) = true := decide_eq_true (by omega)
        have db : decide (b < 0) = false := decide_eq_false (by omega)
        have HT := Lib.hid (tmod_neg_bounds a b HA.out.1 sa)
        go_enter Try.func11, Try.ntmps11
        go_wp2_with (first | (go_at_call 20; refine (hl _).mono ?_; rintro e w' ⟨rfl, rfl⟩) | (go_at_call 21; refine (signed_minus _ HT.out.1 (Int.lt_of_le_of_lt HT.out.2 (by decide)) _).mono ?_; rintro e w' ⟨rfl, rfl⟩) | (go_at_call 22; (with_reducible refine (size_minus a sa HA.out.1 _).mono ?_); rintro e w' ⟨rfl, rfl⟩) | (go_at_call 22; (with_reducible refine (size_plus b sb HB.out.2 _).mono ?_); rintro e w' ⟨rfl, rfl⟩))
        go_ret2
        refine ⟨ret_t ?_, rfl⟩
        have := HT.out; rw [HV.out]; unfold wrap64; omega
      have case_pn : ∀ (sa : 0 ≤ a) (sb : b < 0), Calls Try.prog 11 #[.string ⟨#[37]⟩, .int .i64 a, .int .i64 b] w fun e w' => e = .returned (.tuple #[.int .i64 (remV a b), .int .i64 0]) ∧ w = w' := by
        intro sa sb
        have da : decide (a < 0) = false := decide_eq_false (by omega)
        have db : decide (b < 0) = true := decide_eq_true (by omega)
        go_enter Try.func11, Try.ntmps11
        go_wp2_with (first | (go_at_call 20; refine (hl _).mono ?_; rintro e w' ⟨rfl, rfl⟩) | (go_at_call 21; refine (signed_plus _ _).mono ?_; rintro e w' ⟨rfl, rfl⟩) | (go_at_call 22; (with_reducible refine (size_plus a sa HA.out.2 _).mono ?_); rintro e w' ⟨rfl, rfl⟩) | (go_at_call 22; (with_reducible refine (size_minus b sb HB.out.1 _).mono ?_); rintro e w' ⟨rfl, rfl⟩))
        go_ret2
        refine ⟨ret_t ?_, rfl⟩
        have e1 := Int.tmod_eq_emod_of_nonneg (b := b) sa; have e2 := Int.emod_nonneg a h0; have e3 := Int.emod_lt a h0; have := HB.out; rw [HV.out]; unfold wrap64; omega
      have case_pp : ∀ (sa : 0 ≤ a) (sb : 0 ≤ b), Calls Try.prog 11 #[.string ⟨#[37]⟩, .int .i64 a, .int .i64 b] w fun e w' => e = .returned (.tuple #[.int .i64 (remV a b), .int .i64 0]) ∧ w = w' := by
        intro sa sb
        have da : decide (a < 0) = false := decide_eq_false (by omega)
        have db : decide (b < 0) = false := decide_eq_false (by omega)
        go_enter Try.func11, Try.ntmps11
        go_wp2_with (first | (go_at_call 20; refine (hl _).mono ?_; rintro e w' ⟨rfl, rfl⟩) | (go_at_call 21; refine (signed_plus _ _).mono ?_; rintro e w' ⟨rfl, rfl⟩) | (go_at_call 22; (with_reducible refine (size_plus a sa HA.out.2 _).mono ?_); rintro e w' ⟨rfl, rfl⟩) | (go_at_call 22; (with_reducible refine (size_plus b sb HB.out.2 _).mono ?_); rintro e w' ⟨rfl, rfl⟩))
        go_ret2
        refine ⟨ret_t ?_, rfl⟩
        have e1 := Int.tmod_eq_emod_of_nonneg (b := b) sa; have e2 := Int.emod_nonneg a h0; have e3 := Int.emod_lt a h0; have := HB.out; rw [HV.out]; unfold wrap64; omega
      rcases Int.lt_or_le a 0 with sa | sa <;> rcases Int.lt_or_le b 0 with sb | sb
      · exact case_nn sa sb
      · exact case_np sa sb
      · exact case_pn sa sb
      · exact case_pp sa sb

theorem run_neg (a : Int) (w : World) (ha : -9223372036854775808 ≤ a ∧ a < 9223372036854775808) : Calls Try.prog 13 #[.string ⟨#[45]⟩, .int .i64 a] w fun e w' => e = .returned (.tuple #[.int .i64 (wrap64 (-a)), .int .i64 0]) ∧ w = w' := by
  have HA := Lib.hid ha
  clear ha
  go_enter Try.func13, Try.ntmps13
  go_wp2_with (go_at_call 21; refine (signed_minus _ (u64_lo _) (u64_hi _) _).mono ?_; rintro e w' ⟨rfl, rfl⟩)
  go_ret2
  refine ⟨ret_t ?_, rfl⟩
  rw [IntKind.wrap_u64]; unfold wrap64; omega
theorem run_not (a : Int) (w : World) : Calls Try.prog 13 #[.string ⟨#[110, 111, 116]⟩, .int .i64 a] w fun e w' => e = .returned (.tuple #[.int .i64 (tr (a == 0)), .int .i64 0]) ∧ w = w' := by
  go_enter Try.func13, Try.ntmps13
  go_wp2_with (go_at_call 23; refine (rtruth_any _ _).mono ?_; rintro e w' ⟨rfl, rfl⟩)
  go_ret2
  exact ⟨rfl, rfl⟩
theorem run_none (s : ByteArray) (h1 : (s.toList == ([45] : List UInt8)) = false) (h2 : (s.toList == ([110, 111, 116] : List UInt8)) = false) (a : Int) (w : World) : Calls Try.prog 13 #[.string s, .int .i64 a] w fun e w' => e = .returned (.tuple #[.int .i64 0, .int .i64 10]) ∧ w = w' := by
  go_enter Try.func13, Try.ntmps13
  go_wp2
  go_ret2
  exact ⟨rfl, rfl⟩
end Go.Proofs.Ytghncpmepaohiaa.Wd
