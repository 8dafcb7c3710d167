/- Contracts of the packages word and penduleref04: what each operator makes of any two values. -/
import Derived.Test.YtghncpmepaohiaaProg
import Derived.WalkKit
import Derived.ProofKit
import Derived.OpenShut
import Derived.Below
import Derived.KernelRfl
import Derived.Laws.EntriesVeiled
import Derived.Deep.QuietTactic
import Derived.BigQuiet
namespace Go.Proofs.Ytghncpmepaohiaa.Wd
open Go.RowKit
set_option linter.unusedVariables false
set_option linter.unusedSimpArgs false
set_option maxHeartbeats 1000000

abbrev fn (n : Nat) : Value := .func (Fn.func n) #[] #[]
abbrev opv (f : Value) (t g : Int) : Value := .agg #[f, .int .i64 t, .int .i64 g]
abbrev opc (f : Value) (t g : Int) : Obj := .cells #[f, .int .i64 t, .int .i64 g] 37
abbrev clo (n : Nat) : Value := .func (Fn.func 39) #[] #[.pointer (some ⟨n, 0, none⟩)]

/-- A truth as a number. -/
def tr (c : Bool) : Int := if c = true then 1 else 0
def dvB (a b : Int) : Bool := b != 0 && (b != -1 || a != wrap64 (-a))
def divV (a b : Int) : Int := if dvB a b = true then wrap64 (a.tdiv b) else 0
def remV (a b : Int) : Int := if dvB a b = true then a.tmod b else 0
def andB (a b : Int) : Bool := a != 0 && b != 0
def orB (a b : Int) : Bool := bits BinOp.or IntKind.i64 a b != 0

/-- The world has at most new blocks. -/
def B (w w' : World) : Prop := Below w.heap.size w w'
theorem B.refl (w : World) : B w w := Below.refl _ _
theorem B.trans {a b c : World} (h : B a b) (k : B b c) : B a c := Below.trans h (k.mono h.size)
theorem B.alloc {a b : World} (h : B a b) (o : Obj) : B a (b.alloc o) := Below.alloc h h.size o
theorem B.drew {a b : World} (h : B a b) : B a b.drew := Below.drew h

theorem B.drewN {a : World} (n : Nat) : ∀ {b : World}, B a b → B a (b.drewN n) := by
  induction n with
  | zero => exact fun h => h
  | succ n ih => intro b h; rw [← World.drew_drewN]; exact (ih h).drew

theorem ret_i {k : IntKind} {a b : Int} (h : a = b) : Ending.returned (.int k a) = .returned (.int k b) := by rw [h]
theorem ret_b {a b : Bool} (h : a = b) : Ending.returned (.bool a) = .returned (.bool b) := by rw [h]

theorem eqf (n : Nat) (c : Array Value) (w : World) : (binOp BinOp.eql 30 (.func (Fn.func n) #[] c) .nilFunc).run Try.prog w = .ok (.bool false) w := by kernel_rfl
theorem eqn (w : World) : (binOp BinOp.eql 30 .nilFunc .nilFunc).run Try.prog w = .ok (.bool true) w := by kernel_rfl
theorem nef (n : Nat) (c : Array Value) (w : World) : (binOp BinOp.neq 30 (.func (Fn.func n) #[] c) .nilFunc).run Try.prog w = .ok (.bool true) w := by kernel_rfl
theorem nen (w : World) : (binOp BinOp.neq 30 .nilFunc .nilFunc).run Try.prog w = .ok (.bool false) w := by kernel_rfl

theorem truth_any (c : Bool) (w : World) : Calls Try.prog 24 #[.bool c] w fun e w' => e = .returned (.int .i64 (tr c)) ∧ w = w' := by
  cases c <;> (go_enter Try.func24, Try.ntmps24; go_wp2; go_ret; exact ⟨rfl, rfl⟩)
theorem divides_any (a b : Int) (w : World) : Calls Try.prog 30 #[.int .i64 a, .int .i64 b] w fun e w' => e = .returned (.bool (dvB a b)) ∧ w = w' := by
  by_cases h0 : b = 0
  · subst h0
    go_enter Try.func30, Try.ntmps30
    go_wp2
    go_ret
    exact ⟨ret_b (by simp [dvB]), rfl⟩
  · by_cases h1 : b = -1
    · subst h1
      go_enter Try.func30, Try.ntmps30
      go_wp2
      go_ret
      exact ⟨ret_b (by simp [dvB]), rfl⟩
    · go_enter Try.func30, Try.ntmps30
      go_wp2
      go_ret
      exact ⟨ret_b (by simp [dvB, h0, h1]), rfl⟩
theorem leaf26 (a b : Int) (w : World) : Calls Try.prog 26 #[.int .i64 a, .int .i64 b] w fun e w' => e = .returned (.int .i64 (wrap64 (a + b))) ∧ w = w' := by
  go_enter Try.func26, Try.ntmps26
  go_wp2
  go_ret
  exact ⟨rfl, rfl⟩
theorem leaf27 (a b : Int) (w : World) : Calls Try.prog 27 #[.int .i64 a, .int .i64 b] w fun e w' => e = .returned (.int .i64 (wrap64 (a - b))) ∧ w = w' := by
  go_enter Try.func27, Try.ntmps27
  go_wp2
  go_ret
  exact ⟨rfl, rfl⟩
theorem leaf28 (a b : Int) (w : World) : Calls Try.prog 28 #[.int .i64 a, .int .i64 b] w fun e w' => e = .returned (.int .i64 (wrap64 (a * b))) ∧ w = w' := by
  go_enter Try.func28, Try.ntmps28
  go_wp2
  go_ret
  exact ⟨rfl, rfl⟩
theorem leaf29 (a b : Int) (w : World) : Calls Try.prog 29 #[.int .i64 a, .int .i64 b] w fun e w' => e = .returned (.int .i64 (divV a b)) ∧ w = w' := by
  by_cases hd : dvB a b = true
  · have hb : (b == 0) = false := by simp [dvB] at hd; simp [hd]
    have hv : Hid (divV a b = wrap64 (a.tdiv b)) := by simp [Hid, divV, hd]
    have hc := divides_any a b
    rw [hd] at hc
    clear hd
    go_enter Try.func29, Try.ntmps29
    go_wp2_with (go_at_call 30; refine (hc _).mono ?_; rintro e w' ⟨rfl, rfl⟩)
    · exfalso; simp_all
    · go_ret
      exact ⟨ret_i hv.out.symm, rfl⟩
  · have hd' : dvB a b = false := by simpa using hd
    have hv : Hid (divV a b = 0) := by simp [Hid, divV, hd]
    have hc := divides_any a b
    rw [hd'] at hc
    clear hd hd'
    go_enter Try.func29, Try.ntmps29
    go_wp2_with (go_at_call 30; refine (hc _).mono ?_; rintro e w' ⟨rfl, rfl⟩)
    go_ret
    exact ⟨ret_i hv.out.symm, rfl⟩
theorem leaf31 (a b : Int) (w : World) : Calls Try.prog 31 #[.int .i64 a, .int .i64 b] w fun e w' => e = .returned (.int .i64 (remV a b)) ∧ w = w' := by
  by_cases hd : dvB a b = true
  · have hb : (b == 0) = false := by simp [dvB] at hd; simp [hd]
    have hv : Hid (remV a b = a.tmod b) := by simp [Hid, remV, hd]
    have hc := divides_any a b
    rw [hd] at hc
    clear hd
    go_enter Try.func31, Try.ntmps31
    go_wp2_with (go_at_call 30; refine (hc _).mono ?_; rintro e w' ⟨rfl, rfl⟩)
    · exfalso; simp_all
    · go_ret
      exact ⟨ret_i hv.out.symm, rfl⟩
  · have hd' : dvB a b = false := by simpa using hd
    have hv : Hid (remV a b = 0) := by simp [Hid, remV, hd]
    have hc := divides_any a b
    rw [hd'] at hc
    clear hd hd'
    go_enter Try.func31, Try.ntmps31
    go_wp2_with (go_at_call 30; refine (hc _).mono ?_; rintro e w' ⟨rfl, rfl⟩)
    go_ret
    exact ⟨ret_i hv.out.symm, rfl⟩
theorem leaf33 (a b : Int) (w : World) : Calls Try.prog 33 #[.int .i64 a, .int .i64 b] w fun e w' => e = .returned (.bool (decide (a < b))) ∧ w = w' := by
  go_enter Try.func33, Try.ntmps33
  go_wp2
  go_ret
  exact ⟨rfl, rfl⟩
theorem clo33 (a b : Int) (p : Nat) (w : World) (hc : w.cell? ⟨p, 0, none⟩ = some (fn 33)) : Calls Try.prog 39 #[.int .i64 a, .int .i64 b, .pointer (some ⟨p, 0, none⟩)] w fun e w' => e = .returned (.int .i64 (tr (decide (a < b)))) ∧ w = w' := by
  go_enter Try.func39, Try.ntmps39
  go_wp2_with (first | (go_at_call 33; refine (leaf33 _ _ _).mono ?_; rintro e w' ⟨rfl, rfl⟩) | (go_at_call 24; refine (truth_any _ _).mono ?_; rintro e w' ⟨rfl, rfl⟩))
  go_ret
  exact ⟨rfl, rfl⟩
theorem leaf34 (a b : Int) (w : World) : Calls Try.prog 34 #[.int .i64 a, .int .i64 b] w fun e w' => e = .returned (.bool (decide (a ≤ b))) ∧ w = w' := by
  go_enter Try.func34, Try.ntmps34
  go_wp2
  go_ret
  exact ⟨rfl, rfl⟩
theorem clo34 (a b : Int) (p : Nat) (w : World) (hc : w.cell? ⟨p, 0, none⟩ = some (fn 34)) : Calls Try.prog 39 #[.int .i64 a, .int .i64 b, .pointer (some ⟨p, 0, none⟩)] w fun e w' => e = .returned (.int .i64 (tr (decide (a ≤ b)))) ∧ w = w' := by
  go_enter Try.func39, Try.ntmps39
  go_wp2_with (first | (go_at_call 34; refine (leaf34 _ _ _).mono ?_; rintro e w' ⟨rfl, rfl⟩) | (go_at_call 24; refine (truth_any _ _).mono ?_; rintro e w' ⟨rfl, rfl⟩))
  go_ret
  exact ⟨rfl, rfl⟩
theorem leaf35 (a b : Int) (w : World) : Calls Try.prog 35 #[.int .i64 a, .int .i64 b] w fun e w' => e = .returned (.bool ((a == b))) ∧ w = w' := by
  go_enter Try.func35, Try.ntmps35
  go_wp2
  go_ret
  exact ⟨rfl, rfl⟩
theorem clo35 (a b : Int) (p : Nat) (w : World) (hc : w.cell? ⟨p, 0, none⟩ = some (fn 35)) : Calls Try.prog 39 #[.int .i64 a, .int .i64 b, .pointer (some ⟨p, 0, none⟩)] w fun e w' => e = .returned (.int .i64 (tr ((a == b)))) ∧ w = w' := by
  go_enter Try.func39, Try.ntmps39
  go_wp2_with (first | (go_at_call 35; refine (leaf35 _ _ _).mono ?_; rintro e w' ⟨rfl, rfl⟩) | (go_at_call 24; refine (truth_any _ _).mono ?_; rintro e w' ⟨rfl, rfl⟩))
  go_ret
  exact ⟨rfl, rfl⟩
theorem leaf36 (a b : Int) (w : World) : Calls Try.prog 36 #[.int .i64 a, .int .i64 b] w fun e w' => e = .returned (.bool ((a != b))) ∧ w = w' := by
  go_enter Try.func36, Try.ntmps36
  go_wp2
  go_ret
  exact ⟨rfl, rfl⟩
theorem clo36 (a b : Int) (p : Nat) (w : World) (hc : w.cell? ⟨p, 0, none⟩ = some (fn 36)) : Calls Try.prog 39 #[.int .i64 a, .int .i64 b, .pointer (some ⟨p, 0, none⟩)] w fun e w' => e = .returned (.int .i64 (tr ((a != b)))) ∧ w = w' := by
  go_enter Try.func39, Try.ntmps39
  go_wp2_with (first | (go_at_call 36; refine (leaf36 _ _ _).mono ?_; rintro e w' ⟨rfl, rfl⟩) | (go_at_call 24; refine (truth_any _ _).mono ?_; rintro e w' ⟨rfl, rfl⟩))
  go_ret
  exact ⟨rfl, rfl⟩
theorem leaf37 (a b : Int) (w : World) : Calls Try.prog 37 #[.int .i64 a, .int .i64 b] w fun e w' => e = .returned (.bool (andB a b)) ∧ w = w' := by
  by_cases h : a = 0
  · subst h
    go_enter Try.func37, Try.ntmps37
    go_wp2
    go_ret
    exact ⟨ret_b (by simp [andB]), rfl⟩
  · have h1 : (a != 0) = true := by simp [h]
    go_enter Try.func37, Try.ntmps37
    go_wp2
    go_ret
    exact ⟨ret_b (by simp [andB, h]), rfl⟩
theorem clo37 (a b : Int) (p : Nat) (w : World) (hc : w.cell? ⟨p, 0, none⟩ = some (fn 37)) : Calls Try.prog 39 #[.int .i64 a, .int .i64 b, .pointer (some ⟨p, 0, none⟩)] w fun e w' => e = .returned (.int .i64 (tr (andB a b))) ∧ w = w' := by
  go_enter Try.func39, Try.ntmps39
  go_wp2_with (first | (go_at_call 37; refine (leaf37 _ _ _).mono ?_; rintro e w' ⟨rfl, rfl⟩) | (go_at_call 24; refine (truth_any _ _).mono ?_; rintro e w' ⟨rfl, rfl⟩))
  go_ret
  exact ⟨rfl, rfl⟩
theorem leaf38 (a b : Int) (w : World) : Calls Try.prog 38 #[.int .i64 a, .int .i64 b] w fun e w' => e = .returned (.bool (orB a b)) ∧ w = w' := by
  go_enter Try.func38, Try.ntmps38
  go_wp2
  go_ret
  exact ⟨rfl, rfl⟩
theorem clo38 (a b : Int) (p : Nat) (w : World) (hc : w.cell? ⟨p, 0, none⟩ = some (fn 38)) : Calls Try.prog 39 #[.int .i64 a, .int .i64 b, .pointer (some ⟨p, 0, none⟩)] w fun e w' => e = .returned (.int .i64 (tr (orB a b))) ∧ w = w' := by
  go_enter Try.func39, Try.ntmps39
  go_wp2_with (first | (go_at_call 38; refine (leaf38 _ _ _).mono ?_; rintro e w' ⟨rfl, rfl⟩) | (go_at_call 24; refine (truth_any _ _).mono ?_; rintro e w' ⟨rfl, rfl⟩))
  go_ret
  exact ⟨rfl, rfl⟩

theorem arithmetic_any (n : Nat) (w : World) : Calls Try.prog 25 #[.func (Fn.func n) #[] #[]] w fun e w' => e = .returned (opv (fn n) 1 1) ∧ w' = w.alloc (opc (fn n) 1 1) := by
  go_enter Try.func25, Try.ntmps25
  go_wp2
  exact bodyPost_ret (v := opv (fn n) 1 1) (by simp [results, Try.results25, go_sem]) rfl ⟨rfl, rfl⟩

theorem compares_any (n : Nat) (t : Int) (w : World) : Calls Try.prog 32 #[.int .i64 t, .func (Fn.func n) #[] #[]] w fun e w' => e = .returned (opv (clo w.heap.size) t 2) ∧
    w' = (w.alloc (.cells #[fn n] 27)).alloc (opc (clo w.heap.size) t 2) := by
  go_enter Try.func32, Try.ntmps32
  go_wp2
  exact bodyPost_ret (v := opv (clo w.heap.size) t 2) (by simp [results, Try.results32, go_sem]) rfl ⟨rfl, rfl⟩

theorem of_add (w : World) : Calls Try.prog 18 #[.string ⟨#[43]⟩] w fun e w' => e = .returned (opv (fn 26) 1 1) ∧ w' = (w.alloc (opc (fn 26) 1 1)).alloc (opc (fn 26) 1 1) := by
  go_enter Try.func18, Try.ntmps18
  go_wp2_with (go_at_call 25; refine (arithmetic_any _ _).mono ?_; rintro e w' ⟨rfl, rfl⟩)
  exact bodyPost_ret (v := opv (fn 26) 1 1) (by simp [results, Try.results18, go_sem]) rfl ⟨rfl, rfl⟩
theorem bin_add (a b : Int) (w : World) : Calls Try.prog 10 #[.string ⟨#[43]⟩, .int .i64 a, .int .i64 b] w fun e w' => e = .returned (.tuple #[.int .i64 (wrap64 (a + b)), .int .i64 0]) ∧ B w w' := by
  have heq := eqf
  go_enter Try.func10, Try.ntmps10
  go_wp2_with (first | (go_at_call 18; refine (of_add _).mono ?_; rintro e w' ⟨rfl, rfl⟩) | (go_at_call 26; refine (leaf26 _ _ _).mono ?_; rintro e w' ⟨rfl, rfl⟩))
  go_ret2
  exact ⟨rfl, (((B.refl _).alloc _).alloc _).alloc _⟩
theorem takes_add (w : World) : Calls Try.prog 16 #[.string ⟨#[43]⟩, .int .i64 2] w fun e w' => e = .returned (.tuple #[.int .i64 1, .int .i64 1, .bool true]) ∧ B w w' := by
  have heq := nef
  go_enter Try.func16, Try.ntmps16
  go_wp2_with (first | (go_at_call 18; refine (of_add _).mono ?_; rintro e w' ⟨rfl, rfl⟩))
  go_quiet (fail)
  go_wp2
  go_ret3
  exact ⟨rfl, ((((B.refl _).alloc _).alloc _).alloc _).drewN _⟩
theorem of_sub (w : World) : Calls Try.prog 18 #[.string ⟨#[45]⟩] w fun e w' => e = .returned (opv (fn 27) 1 1) ∧ w' = (w.alloc (opc (fn 27) 1 1)).alloc (opc (fn 27) 1 1) := by
  go_enter Try.func18, Try.ntmps18
  go_wp2_with (go_at_call 25; refine (arithmetic_any _ _).mono ?_; rintro e w' ⟨rfl, rfl⟩)
  exact bodyPost_ret (v := opv (fn 27) 1 1) (by simp [results, Try.results18, go_sem]) rfl ⟨rfl, rfl⟩
theorem bin_sub (a b : Int) (w : World) : Calls Try.prog 10 #[.string ⟨#[45]⟩, .int .i64 a, .int .i64 b] w fun e w' => e = .returned (.tuple #[.int .i64 (wrap64 (a - b)), .int .i64 0]) ∧ B w w' := by
  have heq := eqf
  go_enter Try.func10, Try.ntmps10
  go_wp2_with (first | (go_at_call 18; refine (of_sub _).mono ?_; rintro e w' ⟨rfl, rfl⟩) | (go_at_call 27; refine (leaf27 _ _ _).mono ?_; rintro e w' ⟨rfl, rfl⟩))
  go_ret2
  exact ⟨rfl, (((B.refl _).alloc _).alloc _).alloc _⟩
theorem takes_sub (w : World) : Calls Try.prog 16 #[.string ⟨#[45]⟩, .int .i64 2] w fun e w' => e = .returned (.tuple #[.int .i64 1, .int .i64 1, .bool true]) ∧ B w w' := by
  have heq := nef
  go_enter Try.func16, Try.ntmps16
  go_wp2_with (first | (go_at_call 18; refine (of_sub _).mono ?_; rintro e w' ⟨rfl, rfl⟩))
  go_quiet (fail)
  go_wp2
  go_ret3
  exact ⟨rfl, ((((B.refl _).alloc _).alloc _).alloc _).drewN _⟩
theorem of_mul (w : World) : Calls Try.prog 18 #[.string ⟨#[42]⟩] w fun e w' => e = .returned (opv (fn 28) 1 1) ∧ w' = (w.alloc (opc (fn 28) 1 1)).alloc (opc (fn 28) 1 1) := by
  go_enter Try.func18, Try.ntmps18
  go_wp2_with (go_at_call 25; refine (arithmetic_any _ _).mono ?_; rintro e w' ⟨rfl, rfl⟩)
  exact bodyPost_ret (v := opv (fn 28) 1 1) (by simp [results, Try.results18, go_sem]) rfl ⟨rfl, rfl⟩
theorem bin_mul (a b : Int) (w : World) : Calls Try.prog 10 #[.string ⟨#[42]⟩, .int .i64 a, .int .i64 b] w fun e w' => e = .returned (.tuple #[.int .i64 (wrap64 (a * b)), .int .i64 0]) ∧ B w w' := by
  have heq := eqf
  go_enter Try.func10, Try.ntmps10
  go_wp2_with (first | (go_at_call 18; refine (of_mul _).mono ?_; rintro e w' ⟨rfl, rfl⟩) | (go_at_call 28; refine (leaf28 _ _ _).mono ?_; rintro e w' ⟨rfl, rfl⟩))
  go_ret2
  exact ⟨rfl, (((B.refl _).alloc _).alloc _).alloc _⟩
theorem takes_mul (w : World) : Calls Try.prog 16 #[.string ⟨#[42]⟩, .int .i64 2] w fun e w' => e = .returned (.tuple #[.int .i64 1, .int .i64 1, .bool true]) ∧ B w w' := by
  have heq := nef
  go_enter Try.func16, Try.ntmps16
  go_wp2_with (first | (go_at_call 18; refine (of_mul _).mono ?_; rintro e w' ⟨rfl, rfl⟩))
  go_quiet (fail)
  go_wp2
  go_ret3
  exact ⟨rfl, ((((B.refl _).alloc _).alloc _).alloc _).drewN _⟩
theorem of_div (w : World) : Calls Try.prog 18 #[.string ⟨#[47]⟩] w fun e w' => e = .returned (opv (fn 29) 1 1) ∧ w' = (w.alloc (opc (fn 29) 1 1)).alloc (opc (fn 29) 1 1) := by
  go_enter Try.func18, Try.ntmps18
  go_wp2_with (go_at_call 25; refine (arithmetic_any _ _).mono ?_; rintro e w' ⟨rfl, rfl⟩)
  exact bodyPost_ret (v := opv (fn 29) 1 1) (by simp [results, Try.results18, go_sem]) rfl ⟨rfl, rfl⟩
theorem bin_div (a b : Int) (w : World) : Calls Try.prog 10 #[.string ⟨#[47]⟩, .int .i64 a, .int .i64 b] w fun e w' => e = .returned (.tuple #[.int .i64 (divV a b), .int .i64 0]) ∧ B w w' := by
  have heq := eqf
  go_enter Try.func10, Try.ntmps10
  go_wp2_with (first | (go_at_call 18; refine (of_div _).mono ?_; rintro e w' ⟨rfl, rfl⟩) | (go_at_call 29; refine (leaf29 _ _ _).mono ?_; rintro e w' ⟨rfl, rfl⟩))
  go_ret2
  exact ⟨rfl, (((B.refl _).alloc _).alloc _).alloc _⟩
theorem takes_div (w : World) : Calls Try.prog 16 #[.string ⟨#[47]⟩, .int .i64 2] w fun e w' => e = .returned (.tuple #[.int .i64 1, .int .i64 1, .bool true]) ∧ B w w' := by
  have heq := nef
  go_enter Try.func16, Try.ntmps16
  go_wp2_with (first | (go_at_call 18; refine (of_div _).mono ?_; rintro e w' ⟨rfl, rfl⟩))
  go_quiet (fail)
  go_wp2
  go_ret3
  exact ⟨rfl, ((((B.refl _).alloc _).alloc _).alloc _).drewN _⟩
theorem of_rem (w : World) : Calls Try.prog 18 #[.string ⟨#[37]⟩] w fun e w' => e = .returned (opv (fn 31) 1 1) ∧ w' = (w.alloc (opc (fn 31) 1 1)).alloc (opc (fn 31) 1 1) := by
  go_enter Try.func18, Try.ntmps18
  go_wp2_with (go_at_call 25; refine (arithmetic_any _ _).mono ?_; rintro e w' ⟨rfl, rfl⟩)
  exact bodyPost_ret (v := opv (fn 31) 1 1) (by simp [results, Try.results18, go_sem]) rfl ⟨rfl, rfl⟩
theorem bin_rem (a b : Int) (w : World) : Calls Try.prog 10 #[.string ⟨#[37]⟩, .int .i64 a, .int .i64 b] w fun e w' => e = .returned (.tuple #[.int .i64 (remV a b), .int .i64 0]) ∧ B w w' := by
  have heq := eqf
  go_enter Try.func10, Try.ntmps10
  go_wp2_with (first | (go_at_call 18; refine (of_rem _).mono ?_; rintro e w' ⟨rfl, rfl⟩) | (go_at_call 31; refine (leaf31 _ _ _).mono ?_; rintro e w' ⟨rfl, rfl⟩))
  go_ret2
  exact ⟨rfl, (((B.refl _).alloc _).alloc _).alloc _⟩
theorem takes_rem (w : World) : Calls Try.prog 16 #[.string ⟨#[37]⟩, .int .i64 2] w fun e w' => e = .returned (.tuple #[.int .i64 1, .int .i64 1, .bool true]) ∧ B w w' := by
  have heq := nef
  go_enter Try.func16, Try.ntmps16
  go_wp2_with (first | (go_at_call 18; refine (of_rem _).mono ?_; rintro e w' ⟨rfl, rfl⟩))
  go_quiet (fail)
  go_wp2
  go_ret3
  exact ⟨rfl, ((((B.refl _).alloc _).alloc _).alloc _).drewN _⟩
theorem of_lt (w : World) : Calls Try.prog 18 #[.string ⟨#[60]⟩] w fun e w' => e = .returned (opv (clo (w.heap.size + 1)) 1 2) ∧ w' = ((w.alloc (opc (clo (w.heap.size + 1)) 1 2)).alloc (.cells #[fn 33] 27)).alloc (opc (clo (w.heap.size + 1)) 1 2) := by
  go_enter Try.func18, Try.ntmps18
  go_wp2_with (go_at_call 32; refine (compares_any _ _ _).mono ?_; rintro e w' ⟨rfl, rfl⟩)
  exact bodyPost_ret (v := opv (clo (w.heap.size + 1)) 1 2) (by simp [results, Try.results18, go_sem]) rfl ⟨rfl, rfl⟩
theorem bin_lt (a b : Int) (w : World) : Calls Try.prog 10 #[.string ⟨#[60]⟩, .int .i64 a, .int .i64 b] w fun e w' => e = .returned (.tuple #[.int .i64 (tr (decide (a < b))), .int .i64 0]) ∧ B w w' := by
  have heq := eqf
  go_enter Try.func10, Try.ntmps10
  go_wp2_with (first | (go_at_call 18; refine (of_lt _).mono ?_; rintro e w' ⟨rfl, rfl⟩) | (go_at_call 39; refine (clo33 _ _ _ _ (by go_simp)).mono ?_; rintro e w' ⟨rfl, rfl⟩))
  go_ret2
  exact ⟨rfl, ((((B.refl _).alloc _).alloc _).alloc _).alloc _⟩
theorem takes_lt (w : World) : Calls Try.prog 16 #[.string ⟨#[60]⟩, .int .i64 2] w fun e w' => e = .returned (.tuple #[.int .i64 1, .int .i64 2, .bool true]) ∧ B w w' := by
  have heq := nef
  go_enter Try.func16, Try.ntmps16
  go_wp2_with (first | (go_at_call 18; refine (of_lt _).mono ?_; rintro e w' ⟨rfl, rfl⟩))
  go_quiet (fail)
  go_wp2
  go_ret3
  exact ⟨rfl, (((((B.refl _).alloc _).alloc _).alloc _).alloc _).drewN _⟩
theorem of_le (w : World) : Calls Try.prog 18 #[.string ⟨#[60, 61]⟩] w fun e w' => e = .returned (opv (clo (w.heap.size + 1)) 1 2) ∧ w' = ((w.alloc (opc (clo (w.heap.size + 1)) 1 2)).alloc (.cells #[fn 34] 27)).alloc (opc (clo (w.heap.size + 1)) 1 2) := by
  go_enter Try.func18, Try.ntmps18
  go_wp2_with (go_at_call 32; refine (compares_any _ _ _).mono ?_; rintro e w' ⟨rfl, rfl⟩)
  exact bodyPost_ret (v := opv (clo (w.heap.size + 1)) 1 2) (by simp [results, Try.results18, go_sem]) rfl ⟨rfl, rfl⟩
theorem bin_le (a b : Int) (w : World) : Calls Try.prog 10 #[.string ⟨#[60, 61]⟩, .int .i64 a, .int .i64 b] w fun e w' => e = .returned (.tuple #[.int .i64 (tr (decide (a ≤ b))), .int .i64 0]) ∧ B w w' := by
  have heq := eqf
  go_enter Try.func10, Try.ntmps10
  go_wp2_with (first | (go_at_call 18; refine (of_le _).mono ?_; rintro e w' ⟨rfl, rfl⟩) | (go_at_call 39; refine (clo34 _ _ _ _ (by go_simp)).mono ?_; rintro e w' ⟨rfl, rfl⟩))
  go_ret2
  exact ⟨rfl, ((((B.refl _).alloc _).alloc _).alloc _).alloc _⟩
theorem takes_le (w : World) : Calls Try.prog 16 #[.string ⟨#[60, 61]⟩, .int .i64 2] w fun e w' => e = .returned (.tuple #[.int .i64 1, .int .i64 2, .bool true]) ∧ B w w' := by
  have heq := nef
  go_enter Try.func16, Try.ntmps16
  go_wp2_with (first | (go_at_call 18; refine (of_le _).mono ?_; rintro e w' ⟨rfl, rfl⟩))
  go_quiet (fail)
  go_wp2
  go_ret3
  exact ⟨rfl, (((((B.refl _).alloc _).alloc _).alloc _).alloc _).drewN _⟩
theorem of_eq (w : World) : Calls Try.prog 18 #[.string ⟨#[61]⟩] w fun e w' => e = .returned (opv (clo (w.heap.size + 1)) 0 2) ∧ w' = ((w.alloc (opc (clo (w.heap.size + 1)) 0 2)).alloc (.cells #[fn 35] 27)).alloc (opc (clo (w.heap.size + 1)) 0 2) := by
  go_enter Try.func18, Try.ntmps18
  go_wp2_with (go_at_call 32; refine (compares_any _ _ _).mono ?_; rintro e w' ⟨rfl, rfl⟩)
  exact bodyPost_ret (v := opv (clo (w.heap.size + 1)) 0 2) (by simp [results, Try.results18, go_sem]) rfl ⟨rfl, rfl⟩
theorem bin_eq (a b : Int) (w : World) : Calls Try.prog 10 #[.string ⟨#[61]⟩, .int .i64 a, .int .i64 b] w fun e w' => e = .returned (.tuple #[.int .i64 (tr ((a == b))), .int .i64 0]) ∧ B w w' := by
  have heq := eqf
  go_enter Try.func10, Try.ntmps10
  go_wp2_with (first | (go_at_call 18; refine (of_eq _).mono ?_; rintro e w' ⟨rfl, rfl⟩) | (go_at_call 39; refine (clo35 _ _ _ _ (by go_simp)).mono ?_; rintro e w' ⟨rfl, rfl⟩))
  go_ret2
  exact ⟨rfl, ((((B.refl _).alloc _).alloc _).alloc _).alloc _⟩
theorem takes_eq (w : World) : Calls Try.prog 16 #[.string ⟨#[61]⟩, .int .i64 2] w fun e w' => e = .returned (.tuple #[.int .i64 0, .int .i64 2, .bool true]) ∧ B w w' := by
  have heq := nef
  go_enter Try.func16, Try.ntmps16
  go_wp2_with (first | (go_at_call 18; refine (of_eq _).mono ?_; rintro e w' ⟨rfl, rfl⟩))
  go_quiet (fail)
  go_wp2
  go_ret3
  exact ⟨rfl, (((((B.refl _).alloc _).alloc _).alloc _).alloc _).drewN _⟩
theorem of_ne (w : World) : Calls Try.prog 18 #[.string ⟨#[60, 62]⟩] w fun e w' => e = .returned (opv (clo (w.heap.size + 1)) 0 2) ∧ w' = ((w.alloc (opc (clo (w.heap.size + 1)) 0 2)).alloc (.cells #[fn 36] 27)).alloc (opc (clo (w.heap.size + 1)) 0 2) := by
  go_enter Try.func18, Try.ntmps18
  go_wp2_with (go_at_call 32; refine (compares_any _ _ _).mono ?_; rintro e w' ⟨rfl, rfl⟩)
  exact bodyPost_ret (v := opv (clo (w.heap.size + 1)) 0 2) (by simp [results, Try.results18, go_sem]) rfl ⟨rfl, rfl⟩
theorem bin_ne (a b : Int) (w : World) : Calls Try.prog 10 #[.string ⟨#[60, 62]⟩, .int .i64 a, .int .i64 b] w fun e w' => e = .returned (.tuple #[.int .i64 (tr ((a != b))), .int .i64 0]) ∧ B w w' := by
  have heq := eqf
  go_enter Try.func10, Try.ntmps10
  go_wp2_with (first | (go_at_call 18; refine (of_ne _).mono ?_; rintro e w' ⟨rfl, rfl⟩) | (go_at_call 39; refine (clo36 _ _ _ _ (by go_simp)).mono ?_; rintro e w' ⟨rfl, rfl⟩))
  go_ret2
  exact ⟨rfl, ((((B.refl _).alloc _).alloc _).alloc _).alloc _⟩
theorem takes_ne (w : World) : Calls Try.prog 16 #[.string ⟨#[60, 62]⟩, .int .i64 2] w fun e w' => e = .returned (.tuple #[.int .i64 0, .int .i64 2, .bool true]) ∧ B w w' := by
  have heq := nef
  go_enter Try.func16, Try.ntmps16
  go_wp2_with (first | (go_at_call 18; refine (of_ne _).mono ?_; rintro e w' ⟨rfl, rfl⟩))
  go_quiet (fail)
  go_wp2
  go_ret3
  exact ⟨rfl, (((((B.refl _).alloc _).alloc _).alloc _).alloc _).drewN _⟩
theorem of_and (w : World) : Calls Try.prog 18 #[.string ⟨#[97, 110, 100]⟩] w fun e w' => e = .returned (opv (clo (w.heap.size + 1)) 2 2) ∧ w' = ((w.alloc (opc (clo (w.heap.size + 1)) 2 2)).alloc (.cells #[fn 37] 27)).alloc (opc (clo (w.heap.size + 1)) 2 2) := by
  go_enter Try.func18, Try.ntmps18
  go_wp2_with (go_at_call 32; refine (compares_any _ _ _).mono ?_; rintro e w' ⟨rfl, rfl⟩)
  exact bodyPost_ret (v := opv (clo (w.heap.size + 1)) 2 2) (by simp [results, Try.results18, go_sem]) rfl ⟨rfl, rfl⟩
theorem bin_and (a b : Int) (w : World) : Calls Try.prog 10 #[.string ⟨#[97, 110, 100]⟩, .int .i64 a, .int .i64 b] w fun e w' => e = .returned (.tuple #[.int .i64 (tr (andB a b)), .int .i64 0]) ∧ B w w' := by
  have heq := eqf
  go_enter Try.func10, Try.ntmps10
  go_wp2_with (first | (go_at_call 18; refine (of_and _).mono ?_; rintro e w' ⟨rfl, rfl⟩) | (go_at_call 39; refine (clo37 _ _ _ _ (by go_simp)).mono ?_; rintro e w' ⟨rfl, rfl⟩))
  go_ret2
  exact ⟨rfl, ((((B.refl _).alloc _).alloc _).alloc _).alloc _⟩
theorem takes_and (w : World) : Calls Try.prog 16 #[.string ⟨#[97, 110, 100]⟩, .int .i64 2] w fun e w' => e = .returned (.tuple #[.int .i64 2, .int .i64 2, .bool true]) ∧ B w w' := by
  have heq := nef
  go_enter Try.func16, Try.ntmps16
  go_wp2_with (first | (go_at_call 18; refine (of_and _).mono ?_; rintro e w' ⟨rfl, rfl⟩))
  go_quiet (fail)
  go_wp2
  go_ret3
  exact ⟨rfl, (((((B.refl _).alloc _).alloc _).alloc _).alloc _).drewN _⟩
theorem of_or (w : World) : Calls Try.prog 18 #[.string ⟨#[111, 114]⟩] w fun e w' => e = .returned (opv (clo (w.heap.size + 1)) 2 2) ∧ w' = ((w.alloc (opc (clo (w.heap.size + 1)) 2 2)).alloc (.cells #[fn 38] 27)).alloc (opc (clo (w.heap.size + 1)) 2 2) := by
  go_enter Try.func18, Try.ntmps18
  go_wp2_with (go_at_call 32; refine (compares_any _ _ _).mono ?_; rintro e w' ⟨rfl, rfl⟩)
  exact bodyPost_ret (v := opv (clo (w.heap.size + 1)) 2 2) (by simp [results, Try.results18, go_sem]) rfl ⟨rfl, rfl⟩
theorem bin_or (a b : Int) (w : World) : Calls Try.prog 10 #[.string ⟨#[111, 114]⟩, .int .i64 a, .int .i64 b] w fun e w' => e = .returned (.tuple #[.int .i64 (tr (orB a b)), .int .i64 0]) ∧ B w w' := by
  have heq := eqf
  go_enter Try.func10, Try.ntmps10
  go_wp2_with (first | (go_at_call 18; refine (of_or _).mono ?_; rintro e w' ⟨rfl, rfl⟩) | (go_at_call 39; refine (clo38 _ _ _ _ (by go_simp)).mono ?_; rintro e w' ⟨rfl, rfl⟩))
  go_ret2
  exact ⟨rfl, ((((B.refl _).alloc _).alloc _).alloc _).alloc _⟩
theorem takes_or (w : World) : Calls Try.prog 16 #[.string ⟨#[111, 114]⟩, .int .i64 2] w fun e w' => e = .returned (.tuple #[.int .i64 2, .int .i64 2, .bool true]) ∧ B w w' := by
  have heq := nef
  go_enter Try.func16, Try.ntmps16
  go_wp2_with (first | (go_at_call 18; refine (of_or _).mono ?_; rintro e w' ⟨rfl, rfl⟩))
  go_quiet (fail)
  go_wp2
  go_ret3
  exact ⟨rfl, (((((B.refl _).alloc _).alloc _).alloc _).alloc _).drewN _⟩

/-- No operator's name. -/
structure NoOp (s : ByteArray) : Prop where
  hadd : (s.toList == ([43] : List UInt8)) = false
  hsub : (s.toList == ([45] : List UInt8)) = false
  hmul : (s.toList == ([42] : List UInt8)) = false
  hdiv : (s.toList == ([47] : List UInt8)) = false
  hrem : (s.toList == ([37] : List UInt8)) = false
  hlt : (s.toList == ([60] : List UInt8)) = false
  hle : (s.toList == ([60, 61] : List UInt8)) = false
  heq : (s.toList == ([61] : List UInt8)) = false
  hne : (s.toList == ([60, 62] : List UInt8)) = false
  hand : (s.toList == ([97, 110, 100] : List UInt8)) = false
  hor : (s.toList == ([111, 114] : List UInt8)) = false

theorem of_none (s : ByteArray) (h : NoOp s) (w : World) : Calls Try.prog 18 #[.string s] w fun e w' => e = .returned (opv .nilFunc 0 0) ∧ w' = w.alloc (opc .nilFunc 0 0) := by
  obtain ⟨hadd, hsub, hmul, hdiv, hrem, hlt, hle, heq, hne, hand, hor⟩ := h
  go_enter Try.func18, Try.ntmps18
  go_wp2
  exact bodyPost_ret (v := opv .nilFunc 0 0) (by simp [results, Try.results18, go_sem]) rfl ⟨rfl, rfl⟩
theorem bin_none (s : ByteArray) (h : NoOp s) (a b : Int) (w : World) : Calls Try.prog 10 #[.string s, .int .i64 a, .int .i64 b] w fun e w' => e = .returned (.tuple #[.int .i64 0, .int .i64 10]) ∧ B w w' := by
  have heq := eqn
  have H : Hid (NoOp s) := h
  clear h
  go_enter Try.func10, Try.ntmps10
  go_wp2_with (go_at_call 18; refine (of_none _ H.out _).mono ?_; rintro e w' ⟨rfl, rfl⟩)
  go_ret2
  exact ⟨rfl, ((B.refl _).alloc _).alloc _⟩
theorem takes_none (s : ByteArray) (h : NoOp s) (w : World) : Calls Try.prog 16 #[.string s, .int .i64 2] w fun e w' => e = .returned (.tuple #[.int .i64 0, .int .i64 0, .bool false]) ∧ B w w' := by
  have heq := nen
  have H : Hid (NoOp s) := h
  clear h
  go_enter Try.func16, Try.ntmps16
  go_wp2_with (go_at_call 18; refine (of_none _ H.out _).mono ?_; rintro e w' ⟨rfl, rfl⟩)
  go_quiet (fail)
  go_wp2
  go_ret3
  exact ⟨rfl, (((B.refl _).alloc _).alloc _).drewN _⟩

theorem ba_eq (s : ByteArray) (l : List UInt8) (h : s.toList = l) : s = ⟨l.toArray⟩ := by
  rw [ByteArray.toList_eq] at h
  apply ByteArray.ext
  simp [← h]

/-- Each name is one of the eleven, or none. -/
theorem op_cases (s : ByteArray) : s = ⟨#[43]⟩ ∨ s = ⟨#[45]⟩ ∨ s = ⟨#[42]⟩ ∨ s = ⟨#[47]⟩ ∨ s = ⟨#[37]⟩ ∨ s = ⟨#[60]⟩ ∨ s = ⟨#[60, 61]⟩ ∨ s = ⟨#[61]⟩ ∨ s = ⟨#[60, 62]⟩ ∨ s = ⟨#[97, 110, 100]⟩ ∨ s = ⟨#[111, 114]⟩ ∨ NoOp s := by
  by_cases hadd : s.toList = ([43] : List UInt8)
  · have := ba_eq s _ hadd; simp [this]
  by_cases hsub : s.toList = ([45] : List UInt8)
  · have := ba_eq s _ hsub; simp [this]
  by_cases hmul : s.toList = ([42] : List UInt8)
  · have := ba_eq s _ hmul; simp [this]
  by_cases hdiv : s.toList = ([47] : List UInt8)
  · have := ba_eq s _ hdiv; simp [this]
  by_cases hrem : s.toList = ([37] : List UInt8)
  · have := ba_eq s _ hrem; simp [this]
  by_cases hlt : s.toList = ([60] : List UInt8)
  · have := ba_eq s _ hlt; simp [this]
  by_cases hle : s.toList = ([60, 61] : List UInt8)
  · have := ba_eq s _ hle; simp [this]
  by_cases heq : s.toList = ([61] : List UInt8)
  · have := ba_eq s _ heq; simp [this]
  by_cases hne : s.toList = ([60, 62] : List UInt8)
  · have := ba_eq s _ hne; simp [this]
  by_cases hand : s.toList = ([97, 110, 100] : List UInt8)
  · have := ba_eq s _ hand; simp [this]
  by_cases hor : s.toList = ([111, 114] : List UInt8)
  · have := ba_eq s _ hor; simp [this]
  exact Or.inr (Or.inr (Or.inr (Or.inr (Or.inr (Or.inr (Or.inr (Or.inr (Or.inr (Or.inr (Or.inr ⟨beq_eq_false_iff_ne.mpr hadd, beq_eq_false_iff_ne.mpr hsub, beq_eq_false_iff_ne.mpr hmul, beq_eq_false_iff_ne.mpr hdiv, beq_eq_false_iff_ne.mpr hrem, beq_eq_false_iff_ne.mpr hlt, beq_eq_false_iff_ne.mpr hle, beq_eq_false_iff_ne.mpr heq, beq_eq_false_iff_ne.mpr hne, beq_eq_false_iff_ne.mpr hand, beq_eq_false_iff_ne.mpr hor⟩))))))))))

theorem un_neg (a : Int) (w : World) : Calls Try.prog 12 #[.string ⟨#[45]⟩, .int .i64 a] w fun e w' => e = .returned (.tuple #[.int .i64 (wrap64 (-a)), .int .i64 0]) ∧ w = w' := by
  go_enter Try.func12, Try.ntmps12
  go_wp2
  go_ret2
  exact ⟨rfl, rfl⟩
theorem un_not (a : Int) (w : World) : Calls Try.prog 12 #[.string ⟨#[110, 111, 116]⟩, .int .i64 a] w fun e w' => e = .returned (.tuple #[.int .i64 (tr (a == 0)), .int .i64 0]) ∧ w = w' := by
  go_enter Try.func12, Try.ntmps12
  go_wp2_with (go_at_call 24; refine (truth_any _ _).mono ?_; rintro e w' ⟨rfl, rfl⟩)
  go_ret2
  exact ⟨rfl, rfl⟩
theorem un_none (s : ByteArray) (h1 : (s.toList == ([45] : List UInt8)) = false) (h2 : (s.toList == ([110, 111, 116] : List UInt8)) = false) (a : Int) (w : World) : Calls Try.prog 12 #[.string s, .int .i64 a] w fun e w' => e = .returned (.tuple #[.int .i64 0, .int .i64 10]) ∧ w = w' := by
  go_enter Try.func12, Try.ntmps12
  go_wp2
  go_ret2
  exact ⟨rfl, rfl⟩

theorem lives_any (w : World) : Calls Try.prog 9 #[] w fun e w' => e = .returned (.bool true) ∧ B w w' := by
  have h1 : divV (-7) 2 = -3 := by decide +kernel
  have h2 : remV (-7) 2 = -1 := by decide +kernel
  have hb1 := bin_div (-7) 2
  have hb2 := bin_rem (-7) 2
  rw [h1] at hb1
  rw [h2] at hb2
  clear h1 h2
  go_enter Try.func9, Try.ntmps9
  go_wp2_with (first | (go_at_call 10; (with_reducible refine (hb1 _).mono ?_); rintro e w1 ⟨rfl, hB1⟩) | (go_at_call 10; (with_reducible refine (hb2 _).mono ?_); rintro e w2 ⟨rfl, hB2⟩))
  go_ret
  exact ⟨rfl, hB1.trans hB2⟩
end Go.Proofs.Ytghncpmepaohiaa.Wd
