/- For every name and any number of operands, the program's word.Takes and the reference tell the same types, and there is one just where there is the operator: the law WordTakes answers true, without any condition. -/
import Derived.Test.YtghncpmepaohiaaRows
import Derived.Test.YtghncpmepaohiaaWd
import Derived.Test.YtghncpmepaohiaaWr
import Derived.Test.YtghncpmepaohiaaWx
import Derived.WalkKit
import Derived.ProofKit
import Derived.OpenShut
import Derived.ShutString
import Derived.ChangeOld
import Derived.Below
import Derived.SizedLaws
import Derived.Deep.QuietTactic
import Derived.BigQuiet
namespace Go.Proofs.Ytghncpmepaohiaa.wordTakes
open Go.ChangeShapes Go.WideShapes Go.ChangeAt Go.RowKit
open Go.ChangeMaps (open_string shut_string)
set_option linter.unusedVariables false
open Go.Proofs.Ytghncpmepaohiaa.Wd
set_option maxHeartbeats 1000000
theorem blt {n : Int} (h : (Lit.int .i64 n).wf = true) : -9223372036854775808 ≤ n ∧ n < 9223372036854775808 := by
  have := bounds_i64 h
  omega

theorem t1_neg (w : World) : Calls Try.prog 16 #[.string ⟨#[45]⟩, .int .i64 1] w fun e w' => e = .returned (.tuple #[.int .i64 1, .int .i64 1, .bool true]) ∧ w = w' := by
  go_enter Try.func16, Try.ntmps16
  go_wp2
  go_ret3
  exact ⟨rfl, rfl⟩
theorem t1_not (w : World) : Calls Try.prog 16 #[.string ⟨#[110, 111, 116]⟩, .int .i64 1] w fun e w' => e = .returned (.tuple #[.int .i64 2, .int .i64 2, .bool true]) ∧ w = w' := by
  go_enter Try.func16, Try.ntmps16
  go_wp2
  go_ret3
  exact ⟨rfl, rfl⟩
theorem t1_none (s : ByteArray) (h1 : (s.toList == ([45] : List UInt8)) = false) (h2 : (s.toList == ([110, 111, 116] : List UInt8)) = false) (w : World) : Calls Try.prog 16 #[.string s, .int .i64 1] w fun e w' => e = .returned (.tuple #[.int .i64 0, .int .i64 0, .bool false]) ∧ w = w' := by
  go_enter Try.func16, Try.ntmps16
  go_wp2
  go_ret3
  exact ⟨rfl, rfl⟩
theorem tn (s : ByteArray) (n : Int) (h1 : (n == 1) = false) (h2 : (n == 2) = false) (w : World) : Calls Try.prog 16 #[.string s, .int .i64 n] w fun e w' => e = .returned (.tuple #[.int .i64 0, .int .i64 0, .bool false]) ∧ w = w' := by
  have h3 : (n != 2) = true := by simpa using h2
  go_enter Try.func16, Try.ntmps16
  go_wp2
  go_ret3
  exact ⟨rfl, rfl⟩
theorem r1_neg (w : World) : Calls Try.prog 17 #[.string ⟨#[45]⟩, .int .i64 1] w fun e w' => e = .returned (.tuple #[.int .i64 1, .int .i64 1, .bool true]) ∧ w = w' := by
  go_enter Try.func17, Try.ntmps17
  go_wp2
  go_ret3
  exact ⟨rfl, rfl⟩
theorem r1_not (w : World) : Calls Try.prog 17 #[.string ⟨#[110, 111, 116]⟩, .int .i64 1] w fun e w' => e = .returned (.tuple #[.int .i64 2, .int .i64 2, .bool true]) ∧ w = w' := by
  go_enter Try.func17, Try.ntmps17
  go_wp2
  go_ret3
  exact ⟨rfl, rfl⟩
theorem r1_none (s : ByteArray) (h1 : (s.toList == ([45] : List UInt8)) = false) (h2 : (s.toList == ([110, 111, 116] : List UInt8)) = false) (w : World) : Calls Try.prog 17 #[.string s, .int .i64 1] w fun e w' => e = .returned (.tuple #[.int .i64 0, .int .i64 0, .bool false]) ∧ w = w' := by
  go_enter Try.func17, Try.ntmps17
  go_wp2
  go_ret3
  exact ⟨rfl, rfl⟩
theorem rn (s : ByteArray) (n : Int) (h1 : (n == 1) = false) (h2 : (n == 2) = false) (w : World) : Calls Try.prog 17 #[.string s, .int .i64 n] w fun e w' => e = .returned (.tuple #[.int .i64 0, .int .i64 0, .bool false]) ∧ w = w' := by
  have h3 : (n != 2) = true := by simpa using h2
  go_enter Try.func17, Try.ntmps17
  go_wp2
  go_ret3
  exact ⟨rfl, rfl⟩
theorem r2_add (w : World) : Calls Try.prog 17 #[.string ⟨#[43]⟩, .int .i64 2] w fun e w' => e = .returned (.tuple #[.int .i64 1, .int .i64 1, .bool true]) ∧ w = w' := by
  go_enter Try.func17, Try.ntmps17
  go_wp2
  go_ret3
  exact ⟨rfl, rfl⟩
theorem r2_sub (w : World) : Calls Try.prog 17 #[.string ⟨#[45]⟩, .int .i64 2] w fun e w' => e = .returned (.tuple #[.int .i64 1, .int .i64 1, .bool true]) ∧ w = w' := by
  go_enter Try.func17, Try.ntmps17
  go_wp2
  go_ret3
  exact ⟨rfl, rfl⟩
theorem r2_mul (w : World) : Calls Try.prog 17 #[.string ⟨#[42]⟩, .int .i64 2] w fun e w' => e = .returned (.tuple #[.int .i64 1, .int .i64 1, .bool true]) ∧ w = w' := by
  go_enter Try.func17, Try.ntmps17
  go_wp2
  go_ret3
  exact ⟨rfl, rfl⟩
theorem r2_div (w : World) : Calls Try.prog 17 #[.string ⟨#[47]⟩, .int .i64 2] w fun e w' => e = .returned (.tuple #[.int .i64 1, .int .i64 1, .bool true]) ∧ w = w' := by
  go_enter Try.func17, Try.ntmps17
  go_wp2
  go_ret3
  exact ⟨rfl, rfl⟩
theorem r2_rem (w : World) : Calls Try.prog 17 #[.string ⟨#[37]⟩, .int .i64 2] w fun e w' => e = .returned (.tuple #[.int .i64 1, .int .i64 1, .bool true]) ∧ w = w' := by
  go_enter Try.func17, Try.ntmps17
  go_wp2
  go_ret3
  exact ⟨rfl, rfl⟩
theorem r2_lt (w : World) : Calls Try.prog 17 #[.string ⟨#[60]⟩, .int .i64 2] w fun e w' => e = .returned (.tuple #[.int .i64 1, .int .i64 2, .bool true]) ∧ w = w' := by
  go_enter Try.func17, Try.ntmps17
  go_wp2
  go_ret3
  exact ⟨rfl, rfl⟩
theorem r2_le (w : World) : Calls Try.prog 17 #[.string ⟨#[60, 61]⟩, .int .i64 2] w fun e w' => e = .returned (.tuple #[.int .i64 1, .int .i64 2, .bool true]) ∧ w = w' := by
  go_enter Try.func17, Try.ntmps17
  go_wp2
  go_ret3
  exact ⟨rfl, rfl⟩
theorem r2_eq (w : World) : Calls Try.prog 17 #[.string ⟨#[61]⟩, .int .i64 2] w fun e w' => e = .returned (.tuple #[.int .i64 0, .int .i64 2, .bool true]) ∧ w = w' := by
  go_enter Try.func17, Try.ntmps17
  go_wp2
  go_ret3
  exact ⟨rfl, rfl⟩
theorem r2_ne (w : World) : Calls Try.prog 17 #[.string ⟨#[60, 62]⟩, .int .i64 2] w fun e w' => e = .returned (.tuple #[.int .i64 0, .int .i64 2, .bool true]) ∧ w = w' := by
  go_enter Try.func17, Try.ntmps17
  go_wp2
  go_ret3
  exact ⟨rfl, rfl⟩
theorem r2_and (w : World) : Calls Try.prog 17 #[.string ⟨#[97, 110, 100]⟩, .int .i64 2] w fun e w' => e = .returned (.tuple #[.int .i64 2, .int .i64 2, .bool true]) ∧ w = w' := by
  go_enter Try.func17, Try.ntmps17
  go_wp2
  go_ret3
  exact ⟨rfl, rfl⟩
theorem r2_or (w : World) : Calls Try.prog 17 #[.string ⟨#[111, 114]⟩, .int .i64 2] w fun e w' => e = .returned (.tuple #[.int .i64 2, .int .i64 2, .bool true]) ∧ w = w' := by
  go_enter Try.func17, Try.ntmps17
  go_wp2
  go_ret3
  exact ⟨rfl, rfl⟩
theorem r2_none (s : ByteArray) (h : NoOp s) (w : World) : Calls Try.prog 17 #[.string s, .int .i64 2] w fun e w' => e = .returned (.tuple #[.int .i64 0, .int .i64 0, .bool false]) ∧ w = w' := by
  obtain ⟨hadd, hsub, hmul, hdiv, hrem, hlt, hle, heq, hne, hand, hor⟩ := h
  go_enter Try.func17, Try.ntmps17
  go_wp2
  go_ret3
  exact ⟨rfl, rfl⟩
theorem bin_ex (s : ByteArray) (a b : Int) : ∃ v e : Int, ∀ w, Calls Try.prog 10 #[.string s, .int .i64 a, .int .i64 b] w fun x w' => x = .returned (.tuple #[.int .i64 v, .int .i64 e]) ∧ B w w' := by
  rcases op_cases s with rfl | rfl | rfl | rfl | rfl | rfl | rfl | rfl | rfl | rfl | rfl | h
  · exact ⟨_, _, bin_add a b⟩
  · exact ⟨_, _, bin_sub a b⟩
  · exact ⟨_, _, bin_mul a b⟩
  · exact ⟨_, _, bin_div a b⟩
  · exact ⟨_, _, bin_rem a b⟩
  · exact ⟨_, _, bin_lt a b⟩
  · exact ⟨_, _, bin_le a b⟩
  · exact ⟨_, _, bin_eq a b⟩
  · exact ⟨_, _, bin_ne a b⟩
  · exact ⟨_, _, bin_and a b⟩
  · exact ⟨_, _, bin_or a b⟩
  · exact ⟨_, _, bin_none s h a b⟩
theorem un_ex (s : ByteArray) (a : Int) : ∃ v e : Int, ∀ w, Calls Try.prog 12 #[.string s, .int .i64 a] w fun x w' => x = .returned (.tuple #[.int .i64 v, .int .i64 e]) ∧ w = w' := by
  by_cases h1 : s.toList = ([45] : List UInt8)
  · obtain rfl := ba_eq s _ h1
    exact ⟨_, _, un_neg a⟩
  · by_cases h2 : s.toList = ([110, 111, 116] : List UInt8)
    · obtain rfl := ba_eq s _ h2
      exact ⟨_, _, un_not a⟩
    · exact ⟨_, _, un_none s (beq_eq_false_iff_ne.mpr h1) (beq_eq_false_iff_ne.mpr h2) a⟩
theorem core_one (s : ByteArray)  (x y v u : Int) (e f : Int) (k : Bool)
    (ht : ∀ w, Calls Try.prog 16 #[.string s, .int .i64 1] w fun x' w' => x' = .returned (.tuple #[.int .i64 x, .int .i64 y, .bool k]) ∧ B w w')
    (hr : ∀ w, Calls Try.prog 17 #[.string s, .int .i64 1] w fun x' w' => x' = .returned (.tuple #[.int .i64 x, .int .i64 y, .bool k]) ∧ w = w')
    (hu : ∀ w, Calls Try.prog 12 #[.string s, .int .i64 1] w fun x' w' => x' = .returned (.tuple #[.int .i64 u, .int .i64 e]) ∧ w = w')
    (hb : ∀ w, Calls Try.prog 10 #[.string s, .int .i64 1, .int .i64 1] w fun x' w' => x' = .returned (.tuple #[.int .i64 v, .int .i64 f]) ∧ B w w')
    (hk : (k == (e == 0)) = true) (w : World) : Calls Try.prog 8 #[.string s, .int .i64 1] w fun e w' => e = .returned (.bool true) ∧ Below w.heap.size w w' := by
  go_enter Try.func8, Try.ntmps8
  go_wp2_with (first | (go_at_call 9; refine (lives_any _).mono ?_; rintro e w1 ⟨rfl, hB1⟩; replace hB1 := Lib.hid hB1) | (go_at_call 16; (with_reducible refine (ht _).mono ?_); rintro e w1 ⟨rfl, hB1⟩; replace hB1 := Lib.hid hB1) | (go_at_call 17; (with_reducible refine (hr _).mono ?_); rintro e w1 ⟨rfl, rfl⟩) | (go_at_call 12; (with_reducible refine (hu _).mono ?_); rintro e w1 ⟨rfl, rfl⟩) | (go_at_call 10; (with_reducible refine (hb _).mono ?_); rintro e w1 ⟨rfl, hB1⟩; replace hB1 := Lib.hid hB1))
  go_ret
  exact ⟨rfl, by
    repeat (first | exact B.refl _ | exact Hid.out ‹_› | refine B.trans ?_ (Hid.out ‹_›))⟩
theorem core_two (s : ByteArray)  (x y v u : Int) (e f : Int) (k : Bool)
    (ht : ∀ w, Calls Try.prog 16 #[.string s, .int .i64 2] w fun x' w' => x' = .returned (.tuple #[.int .i64 x, .int .i64 y, .bool k]) ∧ B w w')
    (hr : ∀ w, Calls Try.prog 17 #[.string s, .int .i64 2] w fun x' w' => x' = .returned (.tuple #[.int .i64 x, .int .i64 y, .bool k]) ∧ w = w')
    (hu : ∀ w, Calls Try.prog 12 #[.string s, .int .i64 1] w fun x' w' => x' = .returned (.tuple #[.int .i64 u, .int .i64 e]) ∧ w = w')
    (hb : ∀ w, Calls Try.prog 10 #[.string s, .int .i64 1, .int .i64 1] w fun x' w' => x' = .returned (.tuple #[.int .i64 v, .int .i64 f]) ∧ B w w')
    (hk : (k == (f == 0)) = true) (w : World) : Calls Try.prog 8 #[.string s, .int .i64 2] w fun e w' => e = .returned (.bool true) ∧ Below w.heap.size w w' := by
  go_enter Try.func8, Try.ntmps8
  go_wp2_with (first | (go_at_call 9; refine (lives_any _).mono ?_; rintro e w1 ⟨rfl, hB1⟩; replace hB1 := Lib.hid hB1) | (go_at_call 16; (with_reducible refine (ht _).mono ?_); rintro e w1 ⟨rfl, hB1⟩; replace hB1 := Lib.hid hB1) | (go_at_call 17; (with_reducible refine (hr _).mono ?_); rintro e w1 ⟨rfl, rfl⟩) | (go_at_call 12; (with_reducible refine (hu _).mono ?_); rintro e w1 ⟨rfl, rfl⟩) | (go_at_call 10; (with_reducible refine (hb _).mono ?_); rintro e w1 ⟨rfl, hB1⟩; replace hB1 := Lib.hid hB1))
  go_ret
  exact ⟨rfl, by
    repeat (first | exact B.refl _ | exact Hid.out ‹_› | refine B.trans ?_ (Hid.out ‹_›))⟩
theorem core_else (s : ByteArray) (n : Int) (h1 : (n == 1) = false) (h2 : (n == 2) = false) (x y v u : Int) (e f : Int) (k : Bool)
    (ht : ∀ w, Calls Try.prog 16 #[.string s, .int .i64 n] w fun x' w' => x' = .returned (.tuple #[.int .i64 x, .int .i64 y, .bool k]) ∧ B w w')
    (hr : ∀ w, Calls Try.prog 17 #[.string s, .int .i64 n] w fun x' w' => x' = .returned (.tuple #[.int .i64 x, .int .i64 y, .bool k]) ∧ w = w')
    (hu : ∀ w, Calls Try.prog 12 #[.string s, .int .i64 1] w fun x' w' => x' = .returned (.tuple #[.int .i64 u, .int .i64 e]) ∧ w = w')
    (hb : ∀ w, Calls Try.prog 10 #[.string s, .int .i64 1, .int .i64 1] w fun x' w' => x' = .returned (.tuple #[.int .i64 v, .int .i64 f]) ∧ B w w')
     (w : World) : Calls Try.prog 8 #[.string s, .int .i64 n] w fun e w' => e = .returned (.bool true) ∧ Below w.heap.size w w' := by
  have h3 : (n != 1) = true := by simpa using h1
  have h4 : (n != 2) = true := by simpa using h2
  go_enter Try.func8, Try.ntmps8
  go_wp2_with (first | (go_at_call 9; refine (lives_any _).mono ?_; rintro e w1 ⟨rfl, hB1⟩; replace hB1 := Lib.hid hB1) | (go_at_call 16; (with_reducible refine (ht _).mono ?_); rintro e w1 ⟨rfl, hB1⟩; replace hB1 := Lib.hid hB1) | (go_at_call 17; (with_reducible refine (hr _).mono ?_); rintro e w1 ⟨rfl, rfl⟩) | (go_at_call 12; (with_reducible refine (hu _).mono ?_); rintro e w1 ⟨rfl, rfl⟩) | (go_at_call 10; (with_reducible refine (hb _).mono ?_); rintro e w1 ⟨rfl, hB1⟩; replace hB1 := Lib.hid hB1))
  go_ret
  exact ⟨rfl, by
    repeat (first | exact B.refl _ | exact Hid.out ‹_› | refine B.trans ?_ (Hid.out ‹_›))⟩
theorem bq (P : Ending → Prop) {x : FuncId} {args : Array Value} (h : ∀ w, Calls Try.prog x args w fun e w' => P e ∧ w = w') : ∀ w, Calls Try.prog x args w fun e w' => P e ∧ B w w' := by
  intro w
  refine (h w).mono ?_
  rintro e w' ⟨h1, rfl⟩
  exact ⟨h1, B.refl _⟩
theorem walk (s : ByteArray) (n : Int) (w0 : s.size ≤ 140737488351232) (w1 : (Lit.int .i64 n).wf = true) (w : World) :
    Calls Try.prog 8 #[.string s, .int .i64 n] w fun e w' => e = .returned (.bool true) ∧ Below w.heap.size w w' := by
  obtain ⟨v, f, hb⟩ := bin_ex s 1 1
  obtain ⟨u, e, hu⟩ := un_ex s 1
  by_cases h1 : n = 1
  · subst h1
    by_cases g1 : s.toList = ([45] : List UInt8)
    · obtain rfl := ba_eq s _ g1
      exact core_one _ 1 1 v _ 0 f true (bq _ t1_neg) r1_neg (un_neg 1) hb (by decide) w
    · by_cases g2 : s.toList = ([110, 111, 116] : List UInt8)
      · obtain rfl := ba_eq s _ g2
        exact core_one _ 2 2 v _ 0 f true (bq _ t1_not) r1_not (un_not 1) hb (by decide) w
      · have q1 := beq_eq_false_iff_ne.mpr g1
        have q2 := beq_eq_false_iff_ne.mpr g2
        exact core_one _ 0 0 v _ 10 f false (bq _ (t1_none s q1 q2)) (r1_none s q1 q2) (un_none s q1 q2 1) hb (by decide) w
  · by_cases h2 : n = 2
    · subst h2
      rcases op_cases s with rfl | rfl | rfl | rfl | rfl | rfl | rfl | rfl | rfl | rfl | rfl | h
      · exact core_two _ 1 1 _ u e 0 true takes_add r2_add hu (bin_add 1 1) (by decide) w
      · exact core_two _ 1 1 _ u e 0 true takes_sub r2_sub hu (bin_sub 1 1) (by decide) w
      · exact core_two _ 1 1 _ u e 0 true takes_mul r2_mul hu (bin_mul 1 1) (by decide) w
      · exact core_two _ 1 1 _ u e 0 true takes_div r2_div hu (bin_div 1 1) (by decide) w
      · exact core_two _ 1 1 _ u e 0 true takes_rem r2_rem hu (bin_rem 1 1) (by decide) w
      · exact core_two _ 1 2 _ u e 0 true takes_lt r2_lt hu (bin_lt 1 1) (by decide) w
      · exact core_two _ 1 2 _ u e 0 true takes_le r2_le hu (bin_le 1 1) (by decide) w
      · exact core_two _ 0 2 _ u e 0 true takes_eq r2_eq hu (bin_eq 1 1) (by decide) w
      · exact core_two _ 0 2 _ u e 0 true takes_ne r2_ne hu (bin_ne 1 1) (by decide) w
      · exact core_two _ 2 2 _ u e 0 true takes_and r2_and hu (bin_and 1 1) (by decide) w
      · exact core_two _ 2 2 _ u e 0 true takes_or r2_or hu (bin_or 1 1) (by decide) w
      · exact core_two _ 0 0 _ u e 10 false (takes_none s h) (r2_none s h) hu (bin_none s h 1 1) (by decide) w
    · have q1 : (n == 1) = false := by simp [h1]
      have q2 : (n == 2) = false := by simp [h2]
      exact core_else s n q1 q2 0 0 v u e f false (bq _ (tn s n q1 q2)) (rn s n q1 q2) hu hb w

theorem own : ownKnob Try.prog.godebug = none := by kernel_rfl
set_option maxRecDepth 100000 in
theorem lifted (os : Os) (started : os.Started) (H : Type) (enc : TypeId × Value → H) :
    ReturnsInHanded {} Try.checked os 8 .any (Rows.wordTakesSpec.pre6 enc Try.prog Try.f8 Rows.wordTakesRow.domain false) (Rows.wordTakesSpec.post enc Try.prog Try.f8 false true false false) := by
  refine returnsInHanded_of_change_sized (C := Try.checked) own started (by kernel_rfl) Try.func8
    (ChangeSpec.witness6 (enc := enc) (C := Try.checked) false ⟨#[], #[.string ByteArray.empty, .int .i64 0], []⟩ 8 (by kernel_rfl) (by kernel_rfl) (by kernel_rfl) (by kernel_rfl)) ?_
  intro W base args ds gs before hval0 hW hcnd hsz0 _
  have hsz : (DataW.weightsEach Try.prog (Try.f8.params.toList ++ Rows.wordTakesSpec.plain.varTypes Try.prog) (ds ++ gs)).all (· ≤ reachBytes) = true := hsz0
  have hval : ∀ (j : Nat) t v, Try.f8.params[j]? = some t → args[j]? = some v → Value.okWide Try.prog W .any base t v := hval0
  have hW' := hW
  obtain ⟨p, q, hA0, hV, rfl, hfz, hnd⟩ := hW
  have hA : DataW.TrodAll enc Try.prog W 0 (fun _ => true) true Try.f8.params.toList args.toList ds p := hA0
  rw [Try.params8] at hA hval hsz
  obtain ⟨v0, vs0, d0, ds0, p0, q0, hargs, rfl, rfl, h0, r0⟩ := trodAll_cons hA
  obtain ⟨v1, vs1, d1, ds1, p1, q1, rfl, rfl, rfl, h1, r1⟩ := trodAll_cons r0
  obtain ⟨rfl, rfl, rfl⟩ := trodAll_nil r1
  obtain rfl : args = #[v0, v1] := by cases args; simp_all
  obtain ⟨rfl, rfl⟩ := trodVars_none hV
  obtain ⟨a0, rfl, rfl, rfl, y0⟩ := open_string Try.underlying9 (hval 0 9 v0 rfl rfl) h0
  have w0 : a0.size ≤ 140737488351232 := by
    have z := sized_string hsz (j := 0) (t := 9) rfl rfl
    rw [Array.length_toList] at z
    exact z
  obtain ⟨a1, rfl, rfl, rfl, w1⟩ := open_int Try.underlying3 (hval 1 3 v1 rfl rfl) h1
  clear hA0 hval0 hsz0 hsz
  refine (walk a0 a1 w0 w1 W).mono fun e W' ⟨he, bel⟩ => ?_
  subst he
  exact ⟨_, rfl, _, _, _, [], _, [], hW', trodAll_mk1 (shut_bool Try.underlying4 _), (trodAll_cons_mk (shut_string Try.underlying9 y0) (trodAll_cons_mk (shut_int Try.underlying3 w1) trodAll_mk0)), rfl, bel.frame _, fun h => by cases h⟩
theorem over : Rows.wordTakesRow.holds Try.pinned (OpenSpec.ofChange Rows.wordTakesSpec) :=
  OpenClaim.holds_of_wide 8 Try.f8 rfl rfl rfl rfl rfl rfl rfl ⟨rfl, rfl, rfl, rfl, rfl⟩ rfl rfl rfl rfl rfl (by kernel_rfl) Try.func8 (by kernel_rfl)
    (of_decide_eq_true (by kernel_rfl)) (by unfold Func.isWrapper; first | (rw [if_pos (by decide +kernel)]; kernel_rfl) | (rw [if_neg (by decide +kernel)]; exact ⟨rfl, rfl⟩))
    (fun os started H enc _ => lifted os started H enc)
theorem proved : Rows.WordTakesSaid := over
#print axioms proved
end Go.Proofs.Ytghncpmepaohiaa.wordTakes
namespace Go.Proofs.Ytghncpmepaohiaa
/-- The row, under a short name, for the claim. -/
theorem wordTakes_holds : Rows.WordTakesSaid := wordTakes.proved
end Go.Proofs.Ytghncpmepaohiaa
