/- For any three numbers the law WordRing answers true: sums and products of the program hang on no order, a difference added again is what it was; without any condition. -/
import Derived.Test.YtghncpmepaohiaaRows
import Derived.Test.YtghncpmepaohiaaWd
import Derived.Test.YtghncpmepaohiaaWr
import Derived.Test.YtghncpmepaohiaaWx
import Derived.WalkKit
import Derived.ProofKit
import Derived.OpenShut
import Derived.ShutString
import Derived.ChangeOld
import Derived.Below
import Derived.SizedLaws
import Derived.Deep.QuietTactic
import Derived.BigQuiet
namespace Go.Proofs.Ytghncpmepaohiaa.wordRing
open Go.ChangeShapes Go.WideShapes Go.ChangeAt Go.RowKit
open Go.ChangeMaps (open_string shut_string)
set_option linter.unusedVariables false
open Go.Proofs.Ytghncpmepaohiaa.Wd
set_option maxHeartbeats 1000000
theorem blt {n : Int} (h : (Lit.int .i64 n).wf = true) : -9223372036854775808 ≤ n ∧ n < 9223372036854775808 := by
  have := bounds_i64 h
  omega

theorem add_any (a b : Int) (w : World) : Calls Try.prog 14 #[.int .i64 a, .int .i64 b] w fun e w' => e = .returned (.int .i64 (wrap64 (a + b))) ∧ B w w' := by
  go_enter Try.func14, Try.ntmps14
  go_wp2_with (go_at_call 10; refine (bin_add _ _ _).mono ?_; rintro e w1 ⟨rfl, hB1⟩)
  go_ret
  exact ⟨rfl, hB1⟩
theorem mul_any (a b : Int) (w : World) : Calls Try.prog 15 #[.int .i64 a, .int .i64 b] w fun e w' => e = .returned (.int .i64 (wrap64 (a * b))) ∧ B w w' := by
  go_enter Try.func15, Try.ntmps15
  go_wp2_with (go_at_call 10; refine (bin_mul _ _ _).mono ?_; rintro e w1 ⟨rfl, hB1⟩)
  go_ret
  exact ⟨rfl, hB1⟩
theorem w_eq (x : Int) : ∃ k, wrap64 x = x + 18446744073709551616 * k :=
  ⟨-((x + 9223372036854775808) / 18446744073709551616), by unfold wrap64; omega⟩
theorem w_shift (x k : Int) : wrap64 (x + 18446744073709551616 * k) = wrap64 x := by unfold wrap64; omega
theorem w_add_l (x y : Int) : wrap64 (wrap64 x + y) = wrap64 (x + y) := by unfold wrap64; omega
theorem w_add_r (x y : Int) : wrap64 (x + wrap64 y) = wrap64 (x + y) := by unfold wrap64; omega
theorem w_mul_l (x y : Int) : wrap64 (wrap64 x * y) = wrap64 (x * y) := by
  obtain ⟨k, hk⟩ := w_eq x
  rw [hk, Int.add_mul, Int.mul_assoc, w_shift]
theorem w_mul_r (x y : Int) : wrap64 (x * wrap64 y) = wrap64 (x * y) := by
  rw [Int.mul_comm, w_mul_l, Int.mul_comm]
/-- A sum and a product as opaque words: the walk does not look inside. -/
def sm (a b : Int) : Int := wrap64 (a + b)
def pr (a b : Int) : Int := wrap64 (a * b)
def df (a b : Int) : Int := wrap64 (a - b)
def ng (a : Int) : Int := wrap64 (-a)
theorem add_s (a b : Int) (w : World) : Calls Try.prog 14 #[.int .i64 a, .int .i64 b] w fun e w' => e = .returned (.int .i64 (sm a b)) ∧ B w w' := add_any a b w
theorem mul_s (a b : Int) (w : World) : Calls Try.prog 15 #[.int .i64 a, .int .i64 b] w fun e w' => e = .returned (.int .i64 (pr a b)) ∧ B w w' := mul_any a b w
theorem sub_s (a b : Int) (w : World) : Calls Try.prog 10 #[.string ⟨#[45]⟩, .int .i64 a, .int .i64 b] w fun e w' => e = .returned (.tuple #[.int .i64 (df a b), .int .i64 0]) ∧ B w w' := bin_sub a b w
theorem neg_s (a : Int) (w : World) : Calls Try.prog 12 #[.string ⟨#[45]⟩, .int .i64 a] w fun e w' => e = .returned (.tuple #[.int .i64 (ng a), .int .i64 0]) ∧ w = w' := un_neg a w
theorem beq_of {a b : Int} (h : a = b) : (a == b) = true := by simp [h]
theorem walk (a b c : Int) (w0 : (Lit.int .i64 a).wf = true) (w1 : (Lit.int .i64 b).wf = true) (w2 : (Lit.int .i64 c).wf = true) (w : World) :
    Calls Try.prog 6 #[.int .i64 a, .int .i64 b, .int .i64 c] w fun e w' => e = .returned (.bool true) ∧ Below w.heap.size w w' := by
  have ha := blt w0
  have f1 : (sm a b == sm b a) = true := beq_of (by simp only [sm, Int.add_comm])
  have f2 : (sm (sm a b) c == sm a (sm b c)) = true := beq_of (by simp only [sm]; rw [w_add_l, w_add_r, Int.add_assoc])
  have f3 : (pr a b == pr b a) = true := beq_of (by simp only [pr, Int.mul_comm])
  have f4 : (pr (pr a b) c == pr a (pr b c)) = true := beq_of (by simp only [pr]; rw [w_mul_l, w_mul_r, Int.mul_assoc])
  have f5 : (pr a (sm b c) == sm (pr a b) (pr a c)) = true := beq_of (by simp only [pr, sm]; rw [w_mul_r, w_add_l, w_add_r, Int.mul_add])
  have f6 : (sm (df a b) b == a) = true := beq_of (by simp only [sm, df]; unfold wrap64; omega)
  have f7 : (ng a == df 0 a) = true := beq_of (by simp only [ng, df]; unfold wrap64; omega)
  have f8 : (sm (ng a) a == 0) = true := beq_of (by simp only [sm, ng]; unfold wrap64; omega)
  clear ha w0 w1 w2
  go_enter Try.func6, Try.ntmps6
  go_wp2_with (first | (go_at_call 9; refine (lives_any _).mono ?_; rintro e w1 ⟨rfl, hB1⟩; replace hB1 := Lib.hid hB1) | (go_at_call 14; (with_reducible refine (add_s _ _ _).mono ?_); rintro e w1 ⟨rfl, hB1⟩; replace hB1 := Lib.hid hB1) | (go_at_call 15; (with_reducible refine (mul_s _ _ _).mono ?_); rintro e w1 ⟨rfl, hB1⟩; replace hB1 := Lib.hid hB1) | (go_at_call 10; (with_reducible refine (sub_s _ _ _).mono ?_); rintro e w1 ⟨rfl, hB1⟩; replace hB1 := Lib.hid hB1) | (go_at_call 12; (with_reducible refine (neg_s _ _).mono ?_); rintro e w1 ⟨rfl, rfl⟩))
  go_ret
  exact ⟨rfl, by
    repeat (first | exact B.refl _ | exact Hid.out ‹_› | refine B.trans ?_ (Hid.out ‹_›))⟩

theorem own : ownKnob Try.prog.godebug = none := by kernel_rfl
set_option maxRecDepth 100000 in
theorem lifted (os : Os) (started : os.Started) (H : Type) (enc : TypeId × Value → H) :
    ReturnsInHanded {} Try.checked os 6 .any (Rows.wordRingSpec.pre6 enc Try.prog Try.f6 Rows.wordRingRow.domain false) (Rows.wordRingSpec.post enc Try.prog Try.f6 false true false false) := by
  refine returnsInHanded_of_change_sized (C := Try.checked) own started (by kernel_rfl) Try.func6
    (ChangeSpec.witness6 (enc := enc) (C := Try.checked) false ⟨#[], #[.int .i64 0, .int .i64 0, .int .i64 0], []⟩ 8 (by kernel_rfl) (by kernel_rfl) (by kernel_rfl) (by kernel_rfl)) ?_
  intro W base args ds gs before hval0 hW hcnd hsz0 _
  have hsz : (DataW.weightsEach Try.prog (Try.f6.params.toList ++ Rows.wordRingSpec.plain.varTypes Try.prog) (ds ++ gs)).all (· ≤ reachBytes) = true := hsz0
  have hval : ∀ (j : Nat) t v, Try.f6.params[j]? = some t → args[j]? = some v → Value.okWide Try.prog W .any base t v := hval0
  have hW' := hW
  obtain ⟨p, q, hA0, hV, rfl, hfz, hnd⟩ := hW
  have hA : DataW.TrodAll enc Try.prog W 0 (fun _ => true) true Try.f6.params.toList args.toList ds p := hA0
  rw [Try.params6] at hA hval hsz
  obtain ⟨v0, vs0, d0, ds0, p0, q0, hargs, rfl, rfl, h0, r0⟩ := trodAll_cons hA
  obtain ⟨v1, vs1, d1, ds1, p1, q1, rfl, rfl, rfl, h1, r1⟩ := trodAll_cons r0
  obtain ⟨v2, vs2, d2, ds2, p2, q2, rfl, rfl, rfl, h2, r2⟩ := trodAll_cons r1
  obtain ⟨rfl, rfl, rfl⟩ := trodAll_nil r2
  obtain rfl : args = #[v0, v1, v2] := by cases args; simp_all
  obtain ⟨rfl, rfl⟩ := trodVars_none hV
  obtain ⟨a0, rfl, rfl, rfl, w0⟩ := open_int Try.underlying2 (hval 0 2 v0 rfl rfl) h0
  obtain ⟨a1, rfl, rfl, rfl, w1⟩ := open_int Try.underlying2 (hval 1 2 v1 rfl rfl) h1
  obtain ⟨a2, rfl, rfl, rfl, w2⟩ := open_int Try.underlying2 (hval 2 2 v2 rfl rfl) h2
  clear hA0 hval0 hsz0 hsz
  refine (walk a0 a1 a2 w0 w1 w2 W).mono fun e W' ⟨he, bel⟩ => ?_
  subst he
  exact ⟨_, rfl, _, _, _, [], _, [], hW', trodAll_mk1 (shut_bool Try.underlying4 _), (trodAll_cons_mk (shut_int Try.underlying2 w0) (trodAll_cons_mk (shut_int Try.underlying2 w1) (trodAll_cons_mk (shut_int Try.underlying2 w2) trodAll_mk0))), rfl, bel.frame _, fun h => by cases h⟩
theorem over : Rows.wordRingRow.holds Try.pinned (OpenSpec.ofChange Rows.wordRingSpec) :=
  OpenClaim.holds_of_wide 6 Try.f6 rfl rfl rfl rfl rfl rfl rfl ⟨rfl, rfl, rfl, rfl, rfl⟩ rfl rfl rfl rfl rfl (by kernel_rfl) Try.func6 (by kernel_rfl)
    (of_decide_eq_true (by kernel_rfl)) (by unfold Func.isWrapper; first | (rw [if_pos (by decide +kernel)]; kernel_rfl) | (rw [if_neg (by decide +kernel)]; exact ⟨rfl, rfl⟩))
    (fun os started H enc _ => lifted os started H enc)
theorem proved : Rows.WordRingSaid := over
#print axioms proved
end Go.Proofs.Ytghncpmepaohiaa.wordRing
namespace Go.Proofs.Ytghncpmepaohiaa
/-- The row, under a short name, for the claim. -/
theorem wordRing_holds : Rows.WordRingSaid := wordRing.proved
end Go.Proofs.Ytghncpmepaohiaa
