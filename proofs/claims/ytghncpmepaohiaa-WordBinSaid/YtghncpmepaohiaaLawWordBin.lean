/- For every name and any two values, the program's word.Bin and the reference make the same value and the same error: the law WordBin answers true, without any condition. -/
import Derived.Test.YtghncpmepaohiaaRows
import Derived.Test.YtghncpmepaohiaaWd
import Derived.Test.YtghncpmepaohiaaWr
import Derived.Test.YtghncpmepaohiaaWx
import Derived.WalkKit
import Derived.ProofKit
import Derived.OpenShut
import Derived.ShutString
import Derived.ChangeOld
import Derived.Below
import Derived.SizedLaws
import Derived.Deep.QuietTactic
import Derived.BigQuiet
namespace Go.Proofs.Ytghncpmepaohiaa.wordBin
open Go.ChangeShapes Go.WideShapes Go.ChangeAt Go.RowKit
open Go.ChangeMaps (open_string shut_string)
set_option linter.unusedVariables false
open Go.Proofs.Ytghncpmepaohiaa.Wd
set_option maxHeartbeats 1000000
theorem blt {n : Int} (h : (Lit.int .i64 n).wf = true) : -9223372036854775808 ≤ n ∧ n < 9223372036854775808 := by
  have := bounds_i64 h
  omega

theorem walk_add (a1 a2 : Int) (h1 : Hid (-9223372036854775808 ≤ a1 ∧ a1 < 9223372036854775808)) (h2 : Hid (-9223372036854775808 ≤ a2 ∧ a2 < 9223372036854775808)) (w : World) :
    Calls Try.prog 3 #[.string ⟨#[43]⟩, .int .i64 a1, .int .i64 a2] w fun e w' => e = .returned (.bool true) ∧ Below w.heap.size w w' := by
  have hb := bin_add a1 a2
  go_enter Try.func3, Try.ntmps3
  go_wp2_with (first | (go_at_call 9; refine (lives_any _).mono ?_; rintro e w1 ⟨rfl, hB1⟩) | (go_at_call 10; (with_reducible refine (hb _).mono ?_); rintro e w2 ⟨rfl, hB2⟩) | (go_at_call 11; (with_reducible refine (rbin_add _ _ _).mono ?_); rintro e w3 ⟨rfl, rfl⟩))
  go_ret
  exact ⟨rfl, hB1.trans hB2⟩
theorem walk_sub (a1 a2 : Int) (h1 : Hid (-9223372036854775808 ≤ a1 ∧ a1 < 9223372036854775808)) (h2 : Hid (-9223372036854775808 ≤ a2 ∧ a2 < 9223372036854775808)) (w : World) :
    Calls Try.prog 3 #[.string ⟨#[45]⟩, .int .i64 a1, .int .i64 a2] w fun e w' => e = .returned (.bool true) ∧ Below w.heap.size w w' := by
  have hb := bin_sub a1 a2
  go_enter Try.func3, Try.ntmps3
  go_wp2_with (first | (go_at_call 9; refine (lives_any _).mono ?_; rintro e w1 ⟨rfl, hB1⟩) | (go_at_call 10; (with_reducible refine (hb _).mono ?_); rintro e w2 ⟨rfl, hB2⟩) | (go_at_call 11; (with_reducible refine (rbin_sub _ _ _).mono ?_); rintro e w3 ⟨rfl, rfl⟩))
  go_ret
  exact ⟨rfl, hB1.trans hB2⟩
theorem walk_mul (a1 a2 : Int) (h1 : Hid (-9223372036854775808 ≤ a1 ∧ a1 < 9223372036854775808)) (h2 : Hid (-9223372036854775808 ≤ a2 ∧ a2 < 9223372036854775808)) (w : World) :
    Calls Try.prog 3 #[.string ⟨#[42]⟩, .int .i64 a1, .int .i64 a2] w fun e w' => e = .returned (.bool true) ∧ Below w.heap.size w w' := by
  have hb := bin_mul a1 a2
  go_enter Try.func3, Try.ntmps3
  go_wp2_with (first | (go_at_call 9; refine (lives_any _).mono ?_; rintro e w1 ⟨rfl, hB1⟩) | (go_at_call 10; (with_reducible refine (hb _).mono ?_); rintro e w2 ⟨rfl, hB2⟩) | (go_at_call 11; (with_reducible refine (rbin_mul _ _ _).mono ?_); rintro e w3 ⟨rfl, rfl⟩))
  go_ret
  exact ⟨rfl, hB1.trans hB2⟩
theorem walk_div (a1 a2 : Int) (h1 : Hid (-9223372036854775808 ≤ a1 ∧ a1 < 9223372036854775808)) (h2 : Hid (-9223372036854775808 ≤ a2 ∧ a2 < 9223372036854775808)) (w : World) :
    Calls Try.prog 3 #[.string ⟨#[47]⟩, .int .i64 a1, .int .i64 a2] w fun e w' => e = .returned (.bool true) ∧ Below w.heap.size w w' := by
  have hb := bin_div a1 a2
  go_enter Try.func3, Try.ntmps3
  go_wp2_with (first | (go_at_call 9; refine (lives_any _).mono ?_; rintro e w1 ⟨rfl, hB1⟩) | (go_at_call 10; (with_reducible refine (hb _).mono ?_); rintro e w2 ⟨rfl, hB2⟩) | (go_at_call 11; (with_reducible refine (rbin_div _ _ h1.out h2.out _).mono ?_); rintro e w3 ⟨rfl, rfl⟩))
  go_ret
  exact ⟨rfl, hB1.trans hB2⟩
theorem walk_rem (a1 a2 : Int) (h1 : Hid (-9223372036854775808 ≤ a1 ∧ a1 < 9223372036854775808)) (h2 : Hid (-9223372036854775808 ≤ a2 ∧ a2 < 9223372036854775808)) (w : World) :
    Calls Try.prog 3 #[.string ⟨#[37]⟩, .int .i64 a1, .int .i64 a2] w fun e w' => e = .returned (.bool true) ∧ Below w.heap.size w w' := by
  have hb := bin_rem a1 a2
  go_enter Try.func3, Try.ntmps3
  go_wp2_with (first | (go_at_call 9; refine (lives_any _).mono ?_; rintro e w1 ⟨rfl, hB1⟩) | (go_at_call 10; (with_reducible refine (hb _).mono ?_); rintro e w2 ⟨rfl, hB2⟩) | (go_at_call 11; (with_reducible refine (rbin_rem _ _ h1.out h2.out _).mono ?_); rintro e w3 ⟨rfl, rfl⟩))
  go_ret
  exact ⟨rfl, hB1.trans hB2⟩
theorem walk_lt (a1 a2 : Int) (h1 : Hid (-9223372036854775808 ≤ a1 ∧ a1 < 9223372036854775808)) (h2 : Hid (-9223372036854775808 ≤ a2 ∧ a2 < 9223372036854775808)) (w : World) :
    Calls Try.prog 3 #[.string ⟨#[60]⟩, .int .i64 a1, .int .i64 a2] w fun e w' => e = .returned (.bool true) ∧ Below w.heap.size w w' := by
  have hb := bin_lt a1 a2
  go_enter Try.func3, Try.ntmps3
  go_wp2_with (first | (go_at_call 9; refine (lives_any _).mono ?_; rintro e w1 ⟨rfl, hB1⟩) | (go_at_call 10; (with_reducible refine (hb _).mono ?_); rintro e w2 ⟨rfl, hB2⟩) | (go_at_call 11; (with_reducible refine (rbin_lt _ _ h1.out h2.out _).mono ?_); rintro e w3 ⟨rfl, rfl⟩))
  go_ret
  exact ⟨rfl, hB1.trans hB2⟩
theorem walk_le (a1 a2 : Int) (h1 : Hid (-9223372036854775808 ≤ a1 ∧ a1 < 9223372036854775808)) (h2 : Hid (-9223372036854775808 ≤ a2 ∧ a2 < 9223372036854775808)) (w : World) :
    Calls Try.prog 3 #[.string ⟨#[60, 61]⟩, .int .i64 a1, .int .i64 a2] w fun e w' => e = .returned (.bool true) ∧ Below w.heap.size w w' := by
  have hb := bin_le a1 a2
  go_enter Try.func3, Try.ntmps3
  go_wp2_with (first | (go_at_call 9; refine (lives_any _).mono ?_; rintro e w1 ⟨rfl, hB1⟩) | (go_at_call 10; (with_reducible refine (hb _).mono ?_); rintro e w2 ⟨rfl, hB2⟩) | (go_at_call 11; (with_reducible refine (rbin_le _ _ h1.out h2.out _).mono ?_); rintro e w3 ⟨rfl, rfl⟩))
  go_ret
  exact ⟨rfl, hB1.trans hB2⟩
theorem walk_eq (a1 a2 : Int) (h1 : Hid (-9223372036854775808 ≤ a1 ∧ a1 < 9223372036854775808)) (h2 : Hid (-9223372036854775808 ≤ a2 ∧ a2 < 9223372036854775808)) (w : World) :
    Calls Try.prog 3 #[.string ⟨#[61]⟩, .int .i64 a1, .int .i64 a2] w fun e w' => e = .returned (.bool true) ∧ Below w.heap.size w w' := by
  have hb := bin_eq a1 a2
  go_enter Try.func3, Try.ntmps3
  go_wp2_with (first | (go_at_call 9; refine (lives_any _).mono ?_; rintro e w1 ⟨rfl, hB1⟩) | (go_at_call 10; (with_reducible refine (hb _).mono ?_); rintro e w2 ⟨rfl, hB2⟩) | (go_at_call 11; (with_reducible refine (rbin_eq _ _ h1.out h2.out _).mono ?_); rintro e w3 ⟨rfl, rfl⟩))
  go_ret
  exact ⟨rfl, hB1.trans hB2⟩
theorem walk_ne (a1 a2 : Int) (h1 : Hid (-9223372036854775808 ≤ a1 ∧ a1 < 9223372036854775808)) (h2 : Hid (-9223372036854775808 ≤ a2 ∧ a2 < 9223372036854775808)) (w : World) :
    Calls Try.prog 3 #[.string ⟨#[60, 62]⟩, .int .i64 a1, .int .i64 a2] w fun e w' => e = .returned (.bool true) ∧ Below w.heap.size w w' := by
  have hb := bin_ne a1 a2
  go_enter Try.func3, Try.ntmps3
  go_wp2_with (first | (go_at_call 9; refine (lives_any _).mono ?_; rintro e w1 ⟨rfl, hB1⟩) | (go_at_call 10; (with_reducible refine (hb _).mono ?_); rintro e w2 ⟨rfl, hB2⟩) | (go_at_call 11; (with_reducible refine (rbin_ne _ _ h1.out h2.out _).mono ?_); rintro e w3 ⟨rfl, rfl⟩))
  go_ret
  exact ⟨rfl, hB1.trans hB2⟩
theorem walk_and (a1 a2 : Int) (h1 : Hid (-9223372036854775808 ≤ a1 ∧ a1 < 9223372036854775808)) (h2 : Hid (-9223372036854775808 ≤ a2 ∧ a2 < 9223372036854775808)) (w : World) :
    Calls Try.prog 3 #[.string ⟨#[97, 110, 100]⟩, .int .i64 a1, .int .i64 a2] w fun e w' => e = .returned (.bool true) ∧ Below w.heap.size w w' := by
  have hb := bin_and a1 a2
  go_enter Try.func3, Try.ntmps3
  go_wp2_with (first | (go_at_call 9; refine (lives_any _).mono ?_; rintro e w1 ⟨rfl, hB1⟩) | (go_at_call 10; (with_reducible refine (hb _).mono ?_); rintro e w2 ⟨rfl, hB2⟩) | (go_at_call 11; (with_reducible refine (rbin_and _ _ _).mono ?_); rintro e w3 ⟨rfl, rfl⟩))
  go_ret
  exact ⟨rfl, hB1.trans hB2⟩
theorem walk_or (a1 a2 : Int) (h1 : Hid (-9223372036854775808 ≤ a1 ∧ a1 < 9223372036854775808)) (h2 : Hid (-9223372036854775808 ≤ a2 ∧ a2 < 9223372036854775808)) (w : World) :
    Calls Try.prog 3 #[.string ⟨#[111, 114]⟩, .int .i64 a1, .int .i64 a2] w fun e w' => e = .returned (.bool true) ∧ Below w.heap.size w w' := by
  have hb := bin_or a1 a2
  rw [or_zero a1 a2 h1.out h2.out] at hb
  go_enter Try.func3, Try.ntmps3
  go_wp2_with (first | (go_at_call 9; refine (lives_any _).mono ?_; rintro e w1 ⟨rfl, hB1⟩) | (go_at_call 10; (with_reducible refine (hb _).mono ?_); rintro e w2 ⟨rfl, hB2⟩) | (go_at_call 11; (with_reducible refine (rbin_or _ _ _).mono ?_); rintro e w3 ⟨rfl, rfl⟩))
  go_ret
  exact ⟨rfl, hB1.trans hB2⟩
theorem walk_none (s : ByteArray) (h : Hid (NoOp s)) (a1 a2 : Int) (w : World) :
    Calls Try.prog 3 #[.string s, .int .i64 a1, .int .i64 a2] w fun e w' => e = .returned (.bool true) ∧ Below w.heap.size w w' := by
  go_enter Try.func3, Try.ntmps3
  go_wp2_with (first | (go_at_call 9; refine (lives_any _).mono ?_; rintro e w1 ⟨rfl, hB1⟩) | (go_at_call 10; (with_reducible refine (bin_none _ h.out _ _ _).mono ?_); rintro e w2 ⟨rfl, hB2⟩) | (go_at_call 11; (with_reducible refine (rbin_none _ h.out _ _ _).mono ?_); rintro e w3 ⟨rfl, rfl⟩))
  go_ret
  exact ⟨rfl, hB1.trans hB2⟩
theorem walk (s : ByteArray) (a1 a2 : Int) (w0 : s.size ≤ 140737488351232) (w1 : (Lit.int .i64 a1).wf = true) (w2 : (Lit.int .i64 a2).wf = true) (w : World) :
    Calls Try.prog 3 #[.string s, .int .i64 a1, .int .i64 a2] w fun e w' => e = .returned (.bool true) ∧ Below w.heap.size w w' := by
  have h1 := Lib.hid (blt w1)
  have h2 := Lib.hid (blt w2)
  rcases op_cases s with rfl | rfl | rfl | rfl | rfl | rfl | rfl | rfl | rfl | rfl | rfl | h
  · exact walk_add a1 a2 h1 h2 w
  · exact walk_sub a1 a2 h1 h2 w
  · exact walk_mul a1 a2 h1 h2 w
  · exact walk_div a1 a2 h1 h2 w
  · exact walk_rem a1 a2 h1 h2 w
  · exact walk_lt a1 a2 h1 h2 w
  · exact walk_le a1 a2 h1 h2 w
  · exact walk_eq a1 a2 h1 h2 w
  · exact walk_ne a1 a2 h1 h2 w
  · exact walk_and a1 a2 h1 h2 w
  · exact walk_or a1 a2 h1 h2 w
  · exact walk_none s (Lib.hid h) a1 a2 w

theorem own : ownKnob Try.prog.godebug = none := by kernel_rfl
set_option maxRecDepth 100000 in
theorem lifted (os : Os) (started : os.Started) (H : Type) (enc : TypeId × Value → H) :
    ReturnsInHanded {} Try.checked os 3 .any (Rows.wordBinSpec.pre6 enc Try.prog Try.f3 Rows.wordBinRow.domain false) (Rows.wordBinSpec.post enc Try.prog Try.f3 false true false false) := by
  refine returnsInHanded_of_change_sized (C := Try.checked) own started (by kernel_rfl) Try.func3
    (ChangeSpec.witness6 (enc := enc) (C := Try.checked) false ⟨#[], #[.string ByteArray.empty, .int .i64 0, .int .i64 0], []⟩ 8 (by kernel_rfl) (by kernel_rfl) (by kernel_rfl) (by kernel_rfl)) ?_
  intro W base args ds gs before hval0 hW hcnd hsz0 _
  have hsz : (DataW.weightsEach Try.prog (Try.f3.params.toList ++ Rows.wordBinSpec.plain.varTypes Try.prog) (ds ++ gs)).all (· ≤ reachBytes) = true := hsz0
  have hval : ∀ (j : Nat) t v, Try.f3.params[j]? = some t → args[j]? = some v → Value.okWide Try.prog W .any base t v := hval0
  have hW' := hW
  obtain ⟨p, q, hA0, hV, rfl, hfz, hnd⟩ := hW
  have hA : DataW.TrodAll enc Try.prog W 0 (fun _ => true) true Try.f3.params.toList args.toList ds p := hA0
  rw [Try.params3] at hA hval hsz
  obtain ⟨v0, vs0, d0, ds0, p0, q0, hargs, rfl, rfl, h0, r0⟩ := trodAll_cons hA
  obtain ⟨v1, vs1, d1, ds1, p1, q1, rfl, rfl, rfl, h1, r1⟩ := trodAll_cons r0
  obtain ⟨v2, vs2, d2, ds2, p2, q2, rfl, rfl, rfl, h2, r2⟩ := trodAll_cons r1
  obtain ⟨rfl, rfl, rfl⟩ := trodAll_nil r2
  obtain rfl : args = #[v0, v1, v2] := by cases args; simp_all
  obtain ⟨rfl, rfl⟩ := trodVars_none hV
  obtain ⟨a0, rfl, rfl, rfl, y0⟩ := open_string Try.underlying9 (hval 0 9 v0 rfl rfl) h0
  have w0 : a0.size ≤ 140737488351232 := by
    have z := sized_string hsz (j := 0) (t := 9) rfl rfl
    rw [Array.length_toList] at z
    exact z
  obtain ⟨a1, rfl, rfl, rfl, w1⟩ := open_int Try.underlying2 (hval 1 2 v1 rfl rfl) h1
  obtain ⟨a2, rfl, rfl, rfl, w2⟩ := open_int Try.underlying2 (hval 2 2 v2 rfl rfl) h2
  clear hA0 hval0 hsz0 hsz
  refine (walk a0 a1 a2 w0 w1 w2 W).mono fun e W' ⟨he, bel⟩ => ?_
  subst he
  exact ⟨_, rfl, _, _, _, [], _, [], hW', trodAll_mk1 (shut_bool Try.underlying4 _), (trodAll_cons_mk (shut_string Try.underlying9 y0) (trodAll_cons_mk (shut_int Try.underlying2 w1) (trodAll_cons_mk (shut_int Try.underlying2 w2) trodAll_mk0))), rfl, bel.frame _, fun h => by cases h⟩
theorem over : Rows.wordBinRow.holds Try.pinned (OpenSpec.ofChange Rows.wordBinSpec) :=
  OpenClaim.holds_of_wide 3 Try.f3 rfl rfl rfl rfl rfl rfl rfl ⟨rfl, rfl, rfl, rfl, rfl⟩ rfl rfl rfl rfl rfl (by kernel_rfl) Try.func3 (by kernel_rfl)
    (of_decide_eq_true (by kernel_rfl)) (by unfold Func.isWrapper; first | (rw [if_pos (by decide +kernel)]; kernel_rfl) | (rw [if_neg (by decide +kernel)]; exact ⟨rfl, rfl⟩))
    (fun os started H enc _ => lifted os started H enc)
theorem proved : Rows.WordBinSaid := over
#print axioms proved
end Go.Proofs.Ytghncpmepaohiaa.wordBin
namespace Go.Proofs.Ytghncpmepaohiaa
/-- The row, under a short name, for the claim. -/
theorem wordBin_holds : Rows.WordBinSaid := wordBin.proved
end Go.Proofs.Ytghncpmepaohiaa
