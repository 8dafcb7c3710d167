/- For any two numbers the law WordOrder answers true: just one of less, the same, the other way round holds, and the other comparisons fit; without any condition. -/
import Derived.Test.YtghncpmepaohiaaRows
import Derived.Test.YtghncpmepaohiaaWd
import Derived.Test.YtghncpmepaohiaaWr
import Derived.Test.YtghncpmepaohiaaWx
import Derived.WalkKit
import Derived.ProofKit
import Derived.OpenShut
import Derived.ShutString
import Derived.ChangeOld
import Derived.Below
import Derived.SizedLaws
import Derived.Deep.QuietTactic
import Derived.BigQuiet
namespace Go.Proofs.Ytghncpmepaohiaa.wordOrder
open Go.ChangeShapes Go.WideShapes Go.ChangeAt Go.RowKit
open Go.ChangeMaps (open_string shut_string)
set_option linter.unusedVariables false
open Go.Proofs.Ytghncpmepaohiaa.Wd
set_option maxHeartbeats 1000000
theorem blt {n : Int} (h : (Lit.int .i64 n).wf = true) : -9223372036854775808 ≤ n ∧ n < 9223372036854775808 := by
  have := bounds_i64 h
  omega

theorem orB00 : orB 0 0 = false := by decide +kernel
theorem orB10 : orB 1 0 = true := by decide +kernel
theorem orB01 : orB 0 1 = true := by decide +kernel
theorem walk_lt (a b : Int) (h : a < b) (w : World) :
    Calls Try.prog 7 #[.int .i64 a, .int .i64 b] w fun e w' => e = .returned (.bool true) ∧ Below w.heap.size w w' := by
  have h1 := bin_lt a b
  have h2 := bin_lt b a
  have h3 := bin_eq a b
  have h4 := bin_le a b
  have h5 := bin_ne a b
  have h6 := bin_or 1 0
  have h7 := un_not 0
  have h8 := bin_and 1 0
  have e1 : tr (decide (a < b)) = 1 := by simp [tr]; omega
  have e2 : tr (decide (b < a)) = 0 := by simp [tr]; omega
  have e3 : tr (a == b) = 0 := by simp [tr]; omega
  have e4 : tr (decide (a ≤ b)) = 1 := by simp [tr]; omega
  have e5 : tr (a != b) = 1 := by simp [tr]; omega
  have e6 : tr (orB 1 0) = 1 := by decide +kernel
  have e7 : tr ((0 : Int) == 0) = 1 := by decide
  have e8 : tr (andB 1 0) = 0 := by decide
  rw [e1] at h1
  rw [e2] at h2
  rw [e3] at h3
  rw [e4] at h4
  rw [e5] at h5
  rw [e6] at h6
  rw [e7] at h7
  rw [e8] at h8
  clear e1 e2 e3 e4 e5 e6 e7 e8 h
  go_enter Try.func7, Try.ntmps7
  go_wp2_with (first | (go_at_call 9; refine (lives_any _).mono ?_; rintro e w1 ⟨rfl, hB1⟩; replace hB1 := Lib.hid hB1) | (go_at_call 12; (with_reducible refine (h7 _).mono ?_); rintro e w1 ⟨rfl, rfl⟩) | (go_at_call 10; (with_reducible refine (h1 _).mono ?_); rintro e w1 ⟨rfl, hB1⟩; replace hB1 := Lib.hid hB1) | (go_at_call 10; (with_reducible refine (h2 _).mono ?_); rintro e w1 ⟨rfl, hB1⟩; replace hB1 := Lib.hid hB1) | (go_at_call 10; (with_reducible refine (h3 _).mono ?_); rintro e w1 ⟨rfl, hB1⟩; replace hB1 := Lib.hid hB1) | (go_at_call 10; (with_reducible refine (h4 _).mono ?_); rintro e w1 ⟨rfl, hB1⟩; replace hB1 := Lib.hid hB1) | (go_at_call 10; (with_reducible refine (h5 _).mono ?_); rintro e w1 ⟨rfl, hB1⟩; replace hB1 := Lib.hid hB1) | (go_at_call 10; (with_reducible refine (h6 _).mono ?_); rintro e w1 ⟨rfl, hB1⟩; replace hB1 := Lib.hid hB1) | (go_at_call 10; (with_reducible refine (h8 _).mono ?_); rintro e w1 ⟨rfl, hB1⟩; replace hB1 := Lib.hid hB1))
  go_ret
  exact ⟨rfl, by
    repeat (first | exact B.refl _ | exact Hid.out ‹_› | refine B.trans ?_ (Hid.out ‹_›))⟩
theorem walk_eq (a b : Int) (h : a = b) (w : World) :
    Calls Try.prog 7 #[.int .i64 a, .int .i64 b] w fun e w' => e = .returned (.bool true) ∧ Below w.heap.size w w' := by
  have h1 := bin_lt a b
  have h2 := bin_lt b a
  have h3 := bin_eq a b
  have h4 := bin_le a b
  have h5 := bin_ne a b
  have h6 := bin_or 0 1
  have h7 := un_not 1
  have h8 := bin_and 0 0
  have e1 : tr (decide (a < b)) = 0 := by simp [tr]; omega
  have e2 : tr (decide (b < a)) = 0 := by simp [tr]; omega
  have e3 : tr (a == b) = 1 := by simp [tr]; omega
  have e4 : tr (decide (a ≤ b)) = 1 := by simp [tr]; omega
  have e5 : tr (a != b) = 0 := by simp [tr]; omega
  have e6 : tr (orB 0 1) = 1 := by decide +kernel
  have e7 : tr ((1 : Int) == 0) = 0 := by decide
  have e8 : tr (andB 0 0) = 0 := by decide
  rw [e1] at h1
  rw [e2] at h2
  rw [e3] at h3
  rw [e4] at h4
  rw [e5] at h5
  rw [e6] at h6
  rw [e7] at h7
  rw [e8] at h8
  clear e1 e2 e3 e4 e5 e6 e7 e8 h
  go_enter Try.func7, Try.ntmps7
  go_wp2_with (first | (go_at_call 9; refine (lives_any _).mono ?_; rintro e w1 ⟨rfl, hB1⟩; replace hB1 := Lib.hid hB1) | (go_at_call 12; (with_reducible refine (h7 _).mono ?_); rintro e w1 ⟨rfl, rfl⟩) | (go_at_call 10; (with_reducible refine (h1 _).mono ?_); rintro e w1 ⟨rfl, hB1⟩; replace hB1 := Lib.hid hB1) | (go_at_call 10; (with_reducible refine (h2 _).mono ?_); rintro e w1 ⟨rfl, hB1⟩; replace hB1 := Lib.hid hB1) | (go_at_call 10; (with_reducible refine (h3 _).mono ?_); rintro e w1 ⟨rfl, hB1⟩; replace hB1 := Lib.hid hB1) | (go_at_call 10; (with_reducible refine (h4 _).mono ?_); rintro e w1 ⟨rfl, hB1⟩; replace hB1 := Lib.hid hB1) | (go_at_call 10; (with_reducible refine (h5 _).mono ?_); rintro e w1 ⟨rfl, hB1⟩; replace hB1 := Lib.hid hB1) | (go_at_call 10; (with_reducible refine (h6 _).mono ?_); rintro e w1 ⟨rfl, hB1⟩; replace hB1 := Lib.hid hB1) | (go_at_call 10; (with_reducible refine (h8 _).mono ?_); rintro e w1 ⟨rfl, hB1⟩; replace hB1 := Lib.hid hB1))
  go_ret
  exact ⟨rfl, by
    repeat (first | exact B.refl _ | exact Hid.out ‹_› | refine B.trans ?_ (Hid.out ‹_›))⟩
theorem walk_gt (a b : Int) (h : b < a) (w : World) :
    Calls Try.prog 7 #[.int .i64 a, .int .i64 b] w fun e w' => e = .returned (.bool true) ∧ Below w.heap.size w w' := by
  have h1 := bin_lt a b
  have h2 := bin_lt b a
  have h3 := bin_eq a b
  have h4 := bin_le a b
  have h5 := bin_ne a b
  have h6 := bin_or 0 0
  have h7 := un_not 0
  have h8 := bin_and 0 1
  have e1 : tr (decide (a < b)) = 0 := by simp [tr]; omega
  have e2 : tr (decide (b < a)) = 1 := by simp [tr]; omega
  have e3 : tr (a == b) = 0 := by simp [tr]; omega
  have e4 : tr (decide (a ≤ b)) = 0 := by simp [tr]; omega
  have e5 : tr (a != b) = 1 := by simp [tr]; omega
  have e6 : tr (orB 0 0) = 0 := by decide +kernel
  have e7 : tr ((0 : Int) == 0) = 1 := by decide
  have e8 : tr (andB 0 1) = 0 := by decide
  rw [e1] at h1
  rw [e2] at h2
  rw [e3] at h3
  rw [e4] at h4
  rw [e5] at h5
  rw [e6] at h6
  rw [e7] at h7
  rw [e8] at h8
  clear e1 e2 e3 e4 e5 e6 e7 e8 h
  go_enter Try.func7, Try.ntmps7
  go_wp2_with (first | (go_at_call 9; refine (lives_any _).mono ?_; rintro e w1 ⟨rfl, hB1⟩; replace hB1 := Lib.hid hB1) | (go_at_call 12; (with_reducible refine (h7 _).mono ?_); rintro e w1 ⟨rfl, rfl⟩) | (go_at_call 10; (with_reducible refine (h1 _).mono ?_); rintro e w1 ⟨rfl, hB1⟩; replace hB1 := Lib.hid hB1) | (go_at_call 10; (with_reducible refine (h2 _).mono ?_); rintro e w1 ⟨rfl, hB1⟩; replace hB1 := Lib.hid hB1) | (go_at_call 10; (with_reducible refine (h3 _).mono ?_); rintro e w1 ⟨rfl, hB1⟩; replace hB1 := Lib.hid hB1) | (go_at_call 10; (with_reducible refine (h4 _).mono ?_); rintro e w1 ⟨rfl, hB1⟩; replace hB1 := Lib.hid hB1) | (go_at_call 10; (with_reducible refine (h5 _).mono ?_); rintro e w1 ⟨rfl, hB1⟩; replace hB1 := Lib.hid hB1) | (go_at_call 10; (with_reducible refine (h6 _).mono ?_); rintro e w1 ⟨rfl, hB1⟩; replace hB1 := Lib.hid hB1) | (go_at_call 10; (with_reducible refine (h8 _).mono ?_); rintro e w1 ⟨rfl, hB1⟩; replace hB1 := Lib.hid hB1))
  go_ret
  exact ⟨rfl, by
    repeat (first | exact B.refl _ | exact Hid.out ‹_› | refine B.trans ?_ (Hid.out ‹_›))⟩
theorem walk (a b : Int) (w0 : (Lit.int .i64 a).wf = true) (w1 : (Lit.int .i64 b).wf = true) (w : World) :
    Calls Try.prog 7 #[.int .i64 a, .int .i64 b] w fun e w' => e = .returned (.bool true) ∧ Below w.heap.size w w' := by
  rcases Int.lt_trichotomy a b with h | h | h
  · exact walk_lt a b h w
  · exact walk_eq a b h w
  · exact walk_gt a b h w

theorem own : ownKnob Try.prog.godebug = none := by kernel_rfl
set_option maxRecDepth 100000 in
theorem lifted (os : Os) (started : os.Started) (H : Type) (enc : TypeId × Value → H) :
    ReturnsInHanded {} Try.checked os 7 .any (Rows.wordOrderSpec.pre6 enc Try.prog Try.f7 Rows.wordOrderRow.domain false) (Rows.wordOrderSpec.post enc Try.prog Try.f7 false true false false) := by
  refine returnsInHanded_of_change_sized (C := Try.checked) own started (by kernel_rfl) Try.func7
    (ChangeSpec.witness6 (enc := enc) (C := Try.checked) false ⟨#[], #[.int .i64 0, .int .i64 0], []⟩ 8 (by kernel_rfl) (by kernel_rfl) (by kernel_rfl) (by kernel_rfl)) ?_
  intro W base args ds gs before hval0 hW hcnd hsz0 _
  have hsz : (DataW.weightsEach Try.prog (Try.f7.params.toList ++ Rows.wordOrderSpec.plain.varTypes Try.prog) (ds ++ gs)).all (· ≤ reachBytes) = true := hsz0
  have hval : ∀ (j : Nat) t v, Try.f7.params[j]? = some t → args[j]? = some v → Value.okWide Try.prog W .any base t v := hval0
  have hW' := hW
  obtain ⟨p, q, hA0, hV, rfl, hfz, hnd⟩ := hW
  have hA : DataW.TrodAll enc Try.prog W 0 (fun _ => true) true Try.f7.params.toList args.toList ds p := hA0
  rw [Try.params7] at hA hval hsz
  obtain ⟨v0, vs0, d0, ds0, p0, q0, hargs, rfl, rfl, h0, r0⟩ := trodAll_cons hA
  obtain ⟨v1, vs1, d1, ds1, p1, q1, rfl, rfl, rfl, h1, r1⟩ := trodAll_cons r0
  obtain ⟨rfl, rfl, rfl⟩ := trodAll_nil r1
  obtain rfl : args = #[v0, v1] := by cases args; simp_all
  obtain ⟨rfl, rfl⟩ := trodVars_none hV
  obtain ⟨a0, rfl, rfl, rfl, w0⟩ := open_int Try.underlying2 (hval 0 2 v0 rfl rfl) h0
  obtain ⟨a1, rfl, rfl, rfl, w1⟩ := open_int Try.underlying2 (hval 1 2 v1 rfl rfl) h1
  clear hA0 hval0 hsz0 hsz
  refine (walk a0 a1 w0 w1 W).mono fun e W' ⟨he, bel⟩ => ?_
  subst he
  exact ⟨_, rfl, _, _, _, [], _, [], hW', trodAll_mk1 (shut_bool Try.underlying4 _), (trodAll_cons_mk (shut_int Try.underlying2 w0) (trodAll_cons_mk (shut_int Try.underlying2 w1) trodAll_mk0)), rfl, bel.frame _, fun h => by cases h⟩
theorem over : Rows.wordOrderRow.holds Try.pinned (OpenSpec.ofChange Rows.wordOrderSpec) :=
  OpenClaim.holds_of_wide 7 Try.f7 rfl rfl rfl rfl rfl rfl rfl ⟨rfl, rfl, rfl, rfl, rfl⟩ rfl rfl rfl rfl rfl (by kernel_rfl) Try.func7 (by kernel_rfl)
    (of_decide_eq_true (by kernel_rfl)) (by unfold Func.isWrapper; first | (rw [if_pos (by decide +kernel)]; kernel_rfl) | (rw [if_neg (by decide +kernel)]; exact ⟨rfl, rfl⟩))
    (fun os started H enc _ => lifted os started H enc)
theorem proved : Rows.WordOrderSaid := over
#print axioms proved
end Go.Proofs.Ytghncpmepaohiaa.wordOrder
namespace Go.Proofs.Ytghncpmepaohiaa
/-- The row, under a short name, for the claim. -/
theorem wordOrder_holds : Rows.WordOrderSaid := wordOrder.proved
end Go.Proofs.Ytghncpmepaohiaa
