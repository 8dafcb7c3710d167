/- Two numbers as an array: when they differ. -/
import Derived.Test.YtdopccbnnmaccaaKl
import Derived.ChangeKeysEq
namespace Go.Proofs.Ytdopccbnnmaccaa.Kn
open Go.RowKit
set_option linter.unusedVariables false
set_option linter.unusedSimpArgs false
theorem cells3 : Try.prog.cellsOf 3 = 1 := by kernel_rfl
theorem sizes3 : (Try.prog.info? 3).map (fun i => i.size) = some 1 := by kernel_rfl
theorem part0 (x y : Int) (w : World) : (part 3 #[.int .i64 x, .int .i64 y] 0).run Try.prog w = .ok (.int .i64 x) w := by kernel_rfl
theorem part1 (x y : Int) (w : World) : (part 3 #[.int .i64 x, .int .i64 y] 1).run Try.prog w = .ok (.int .i64 y) w := by kernel_rfl
theorem arr_neq (x y : Int) (w : World) : (binOp .neq 29 (.agg #[.int .i64 x, .int .i64 y]) (.agg #[.int .i64 x, .int .i64 y])).run Try.prog w = .ok (.bool false) w := by
  obtain ⟨i, hi⟩ : ∃ i, Try.prog.info? 3 = some i := by
    have h := sizes3
    cases hj : Try.prog.info? 3 with
    | none => rw [hj] at h; cases h
    | some j => exact ⟨j, rfl⟩
  have e : (Op.equalIn 10000 29 (.agg #[.int .i64 x, .int .i64 y]) (.agg #[.int .i64 x, .int .i64 y])).run Try.prog w = .ok true w := by
    rw [show (10000 : Nat) = 9999 + 1 from rfl, run_equalIn_array w 9999 _ _ Try.underlying29 hi, cells3]
    have r : List.range 2 = [0, 1] := rfl
    have k := fun (z : Int) => run_equalIn_int (P := Try.prog) w 9998 3 .i64 .i64 z z Try.underlying3
    simp only [r, Op.eqItems, Nat.zero_mul, Nat.one_mul, Sem.run_bind, part0, part1, Result.andThen_ok]
    rw [show (9999 : Nat) = 9998 + 1 from rfl]
    simp [k, part1]
  rw [run_neq_struct, e]
  rfl
end Go.Proofs.Ytdopccbnnmaccaa.Kn
