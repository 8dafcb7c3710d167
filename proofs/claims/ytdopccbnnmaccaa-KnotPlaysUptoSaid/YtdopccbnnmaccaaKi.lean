/- A script's steps: their kinds, and what they do. -/
import Derived.Test.YtdopccbnnmaccaaKh
namespace Go.Proofs.Ytdopccbnnmaccaa.Kn
open Go.RowKit
set_option linter.unusedVariables false
set_option linter.unusedSimpArgs false
set_option maxHeartbeats 2000000

/-- What a step's kind is. -/
def kd (a : Int) : Int := (a % 18446744073709551616) % 3
theorem kd_range (a : Int) : kd a = 0 ∨ kd a = 1 ∨ kd a = 2 := by unfold kd; omega
theorem kd_form (a : Int) : wrap64 ((IntKind.u64.wrap a).tmod 3) = kd a := by
  rw [IntKind.wrap_u64]
  rw [Int.tmod_eq_emod_of_nonneg (by omega)]
  unfold kd wrap64
  omega
abbrev opA (a x y : Int) : Value := .agg #[.int .i64 a, .int .i64 x, .int .i64 y]
abbrev opB (a x y : Int) : Obj := .cells #[.int .i64 a, .int .i64 x, .int .i64 y] 32

theorem kind_any (a x y : Int) (w : World) : Calls Try.prog 14 #[opA a x y] w fun e w' => e = .returned (.int .i64 (kd a)) ∧ w' = w.alloc (opB a x y) := by
  go_enter Try.func14, Try.ntmps14
  go_wp2
  go_ret
  exact ⟨ret_i (kd_form a), rfl⟩

/-- A state. -/
structure St where
  n : Nat
  C : Nat → Nat
  M : Nat → Int
def St.step (s : St) (k x y : Int) : St :=
  if k = 0 then ⟨s.n + 1, addC s.n s.C, addM s.n s.M⟩ else if k = 1 then ⟨s.n, s.C, markN s.n s.C s.M x y⟩ else ⟨s.n, tieNC s.n s.C s.M x y, tieNM s.n s.C s.M x y⟩
def St.ok (s : St) (k x y : Int) : Bool :=
  if k = 0 then true else if k = 1 then markOk s.n s.M x y else tieOk s.n s.M x y

theorem KI.alloc {w0 w : World} {base kb n : Nat} {C : Nat → Nat} {M : Nat → Int} (h : KI w0 base kb n C M w) (o : Obj) : KI w0 base kb n C M (w.alloc o) := by
  obtain ⟨v, hk, h2, h3⟩ := h
  exact ⟨v, hk.grow ((Below.refl _ _).alloc (Nat.le_refl _) o), h2.alloc h3 o, Nat.le_trans h3 (by simp)⟩
theorem KI.drewN {w0 w : World} {base kb n : Nat} {C : Nat → Nat} {M : Nat → Int} (h : KI w0 base kb n C M w) (k : Nat) : KI w0 base kb n C M (w.drewN k) := by
  obtain ⟨v, hk, h2, h3⟩ := h
  have hb := below_drewN k w.heap.size w
  exact ⟨v, hk.grow hb, h2.trans (hb.mono h3), Nat.le_trans h3 hb.size⟩

theorem does_any {w0 w : World} {base kb : Nat} (s : St) (h : KI w0 base kb s.n s.C s.M w) (a x y : Int) (hn : kd a = 0 → s.n + 1 ≤ 4398046511104) :
    Calls Try.prog 13 #[.pointer (some ⟨kb, 0, none⟩), opA a x y] w fun e w' => e = .returned (.bool (s.ok (kd a) x y)) ∧ KI w0 base kb (s.step (kd a) x y).n (s.step (kd a) x y).C (s.step (kd a) x y).M w' := by
  have HK := Lib.hid h
  have hkd := kind_any a x y
  rcases kd_range a with hk | hk | hk
  · replace hn := hn hk
    rw [hk] at hkd ⊢
    clear h hk
    go_enter Try.func13, Try.ntmps13
    go_wp2_with (first | (go_at_call 14; (with_reducible refine (hkd _).mono ?_); rintro e w1 ⟨rfl, rfl⟩) | (go_at_call 15; refine (ki_add ((HK.out.alloc _).alloc _) hn).mono ?_; rintro e w2 ⟨rfl, hk2⟩; replace hk2 := Lib.hid hk2))
    go_ret
    exact ⟨rfl, hk2.out⟩
  · clear hn
    rw [hk] at hkd ⊢
    clear h hk
    go_enter Try.func13, Try.ntmps13
    go_wp2_with (first | (go_at_call 14; (with_reducible refine (hkd _).mono ?_); rintro e w1 ⟨rfl, rfl⟩) | (go_at_call 17; refine (ki_mark ((HK.out.alloc _).alloc _) _ _).mono ?_; rintro e w2 ⟨rfl, hk2⟩; replace hk2 := Lib.hid hk2))
    go_ret
    exact ⟨rfl, hk2.out⟩
  · clear hn
    rw [hk] at hkd ⊢
    clear h hk
    go_enter Try.func13, Try.ntmps13
    go_wp2_with (first | (go_at_call 14; (with_reducible refine (hkd _).mono ?_); rintro e w1 ⟨rfl, rfl⟩) | (go_at_call 19; refine (ki_tie ((HK.out.alloc _).alloc _) _ _).mono ?_; rintro e w2 ⟨rfl, hk2⟩; replace hk2 := Lib.hid hk2))
    go_ret
    exact ⟨rfl, hk2.out⟩
end Go.Proofs.Ytdopccbnnmaccaa.Kn
