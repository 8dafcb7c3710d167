/- Facts on 64-bit words for the comparisons. -/
import Derived.Test.YtghncpmepaohiaaWd
import Derived.Laws.Bits64
import Derived.Laws.BitsAllLaws
namespace Go.Proofs.Ytghncpmepaohiaa.Wd
theorem xor_top_lt (n : Nat) (h : n < 2 ^ 63) : n ^^^ 2 ^ 63 = 2 ^ 63 + n := by
  apply Nat.eq_of_testBit_eq
  intro j
  rw [Nat.testBit_xor]
  rcases Nat.lt_trichotomy j 63 with hj | hj | hj
  · rw [Nat.testBit_two_pow_add_gt hj, Nat.testBit_two_pow_of_ne (by omega)]; simp
  · subst hj
    rw [Nat.testBit_two_pow_add_eq, Nat.testBit_two_pow_self]; simp
  · have h1 : n < 2 ^ j := Nat.lt_trans h (Nat.pow_lt_pow_right (by decide) hj)
    have h2 : 2 ^ 63 + n < 2 ^ j := by
      have : (2:Nat) ^ 64 ≤ 2 ^ j := Nat.pow_le_pow_right (by decide) hj
      have e : (2:Nat) ^ 64 = 2 ^ 63 + 2 ^ 63 := by decide
      omega
    rw [Nat.testBit_lt_two_pow h1, Nat.testBit_lt_two_pow h2, Nat.testBit_two_pow_of_ne (by omega)]; rfl
theorem xor_top_ge (m : Nat) (h : m < 2 ^ 63) : (2 ^ 63 + m) ^^^ 2 ^ 63 = m := by
  rw [← xor_top_lt m h, Nat.xor_assoc, Nat.xor_self, Nat.xor_zero]
theorem top_xor (a : Int) (h0 : -9223372036854775808 ≤ a) (h1 : a < 9223372036854775808) : bits BinOp.xor IntKind.u64 (IntKind.u64.wrap a) 9223372036854775808 = a + 9223372036854775808 := by
  rw [IntKind.wrap_u64]
  by_cases h : 0 ≤ a
  · obtain ⟨n, rfl⟩ := Int.eq_ofNat_of_zero_le h
    have e : ((n : Int) % 18446744073709551616) = ((n : Nat) : Int) := by omega
    have := bits_xor_u64_nat n 9223372036854775808 (by omega) (by omega)
    rw [e]
    refine this.trans ?_
    have hx := xor_top_lt n (by omega)
    have e2 : (2:Nat) ^ 63 = 9223372036854775808 := by decide
    rw [e2] at hx
    rw [hx]
    omega
  · obtain ⟨m, hm⟩ := Int.eq_ofNat_of_zero_le (show 0 ≤ a + 9223372036854775808 by omega)
    have e : (a % 18446744073709551616) = ((9223372036854775808 + m : Nat) : Int) := by omega
    have := bits_xor_u64_nat (9223372036854775808 + m) 9223372036854775808 (by omega) (by omega)
    rw [e]
    refine this.trans ?_
    have hx := xor_top_ge m (by omega)
    have e2 : (2:Nat) ^ 63 = 9223372036854775808 := by decide
    rw [e2] at hx
    rw [hx]
    omega
theorem xor_zero (a b : Int) (ha : -9223372036854775808 ≤ a ∧ a < 9223372036854775808) (hb : -9223372036854775808 ≤ b ∧ b < 9223372036854775808) :
    (bits BinOp.xor IntKind.u64 (IntKind.u64.wrap a) (IntKind.u64.wrap b) == 0) = (a == b) := by
  have ea : IntKind.u64.wrap a = (((a % 18446744073709551616).toNat : Nat) : Int) := by rw [IntKind.wrap_u64]; omega
  have eb : IntKind.u64.wrap b = (((b % 18446744073709551616).toNat : Nat) : Int) := by rw [IntKind.wrap_u64]; omega
  rw [ea, eb, bits_xor_u64_nat _ _ (by omega) (by omega), Bool.eq_iff_iff]
  simp only [beq_iff_eq]
  constructor
  · intro h
    have h' := Int.natCast_eq_zero.mp h
    generalize hx : (a % 18446744073709551616).toNat = x at h'
    generalize hy : (b % 18446744073709551616).toNat = y at h'
    have : x = y := by
      have e : (x ^^^ y) ^^^ y = y := by rw [h', Nat.zero_xor]
      rwa [Nat.xor_assoc, Nat.xor_self, Nat.xor_zero] at e
    omega
  · rintro rfl
    rw [Nat.xor_self]; rfl
theorem or_zero (a b : Int) (ha : -9223372036854775808 ≤ a ∧ a < 9223372036854775808) (hb : -9223372036854775808 ≤ b ∧ b < 9223372036854775808) :
    orB a b = (a != 0 || b != 0) := by
  have key : bits BinOp.or IntKind.i64 a b = 0 ↔ a = 0 ∧ b = 0 := by
    have hz : ∀ x : Int, -9223372036854775808 ≤ x → x < 9223372036854775808 → BitVec.ofInt 64 x = 0#64 → x = 0 := by
      intro x h0 h1 h
      have := congrArg BitVec.toInt h
      rw [BitVec.toInt_ofInt] at this
      simp [Int.bmod] at this
      omega
    have e : bits BinOp.or IntKind.i64 a b = IntKind.i64.wrap ((BitVec.ofInt 64 a ||| BitVec.ofInt 64 b).toNat : Int) := rfl
    rw [e]
    constructor
    · intro h
      have h2 : (BitVec.ofInt 64 a ||| BitVec.ofInt 64 b) = 0#64 := by
        apply BitVec.eq_of_toNat_eq
        have hl := (BitVec.ofInt 64 a ||| BitVec.ofInt 64 b).isLt
        generalize (BitVec.ofInt 64 a ||| BitVec.ofInt 64 b).toNat = t at h hl ⊢
        simp [IntKind.wrap, IntKind.bits, IntKind.signed] at h
        show t = 0
        omega
      have h3 := BitVec.or_eq_zero_iff.mp h2
      exact ⟨hz a ha.1 ha.2 h3.1, hz b hb.1 hb.2 h3.2⟩
    · rintro ⟨rfl, rfl⟩
      decide
  unfold orB
  rw [Bool.eq_iff_iff]
  simp only [bne_iff_ne, Bool.or_eq_true, ne_eq]
  rw [key]
  omega
end Go.Proofs.Ytghncpmepaohiaa.Wd
