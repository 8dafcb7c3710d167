/- For all classes of bulk at most 1048576 the law FuseClasses answers true: of classes only their steps are fused, as the reference fuses them, and all else stays. Condition: the bound on the argument's bulk that the second form of the statement bears. -/
import Derived.Test.YtnbinejghkhcjaaRows
import Derived.Test.YtnbinejghkhcjaaGo
import Derived.Test.YtnbinejghkhcjaaGn
import Derived.WalkKit
import Derived.ProofKit
import Derived.OpenShut
import Derived.ShutString
import Derived.ChangeOld
import Derived.Below
import Derived.SizedLaws
import Derived.JoinedCond
import Derived.Deep.QuietTactic
import Derived.BigQuiet
namespace Go.Proofs.Ytnbinejghkhcjaa.fuseClassesUpto
open Go.ChangeShapes Go.WideShapes Go.ChangeAt Go.RowKit
open Go.ChangeMaps (open_string shut_string)
set_option linter.unusedVariables false
open Go.Proofs.Ytnbinejghkhcjaa.Fu
set_option maxHeartbeats 4000000

theorem small_first {H : Type} {d : DataW H} {r : List (DataW H)} (hk : Rows.uptoSmall H (d :: r) = true) : Rows.uptoBulk d ≤ 1048576 := by
  have h : Rows.uptoBulkAll (d :: r) ≤ 1048576 := of_decide_eq_true hk
  simp only [Rows.uptoBulkAll] at h
  omega

theorem own : ownKnob Try.prog.godebug = none := by kernel_rfl
theorem laidOut : laidOutB Try.prog = true := by kernel_rfl
theorem contract (H : Type) (enc : TypeId × Value → H) (W : World) (base : Nat) (args : Array Value) (ds gs : List (DataW H)) (before : List MemPlace)
    (hval : ∀ (j : Nat) t v, Try.f8.params[j]? = some t → args[j]? = some v → Value.okWide Try.prog W .any base t v)
    (hW : DataW.Whole enc Try.prog Try.f8.params.toList Rows.fuseClassesSpec.vars false W args.toList ds gs before) (hk : Rows.uptoSmall H (ds ++ gs) = true) :
    Calls Try.prog 8 args W fun e W' => ∃ v, e = .returned v ∧ Rows.fuseClassesSpec.post enc Try.prog Try.f8 false true false false W args v W' := by
  have hW' := hW
  obtain ⟨p, q, hA0, hV, rfl, hfz, hnd⟩ := hW
  have hA : DataW.TrodAll enc Try.prog W 0 (fun _ => true) true Try.f8.params.toList args.toList ds p := hA0
  rw [Try.params8] at hA hval
  obtain ⟨v0, vs0, d0, ds0, p0, q0, hargs, rfl, rfl, h0, r0⟩ := trodAll_cons hA
  obtain ⟨rfl, rfl, rfl⟩ := trodAll_nil r0
  obtain rfl : args = #[v0] := by cases args; simp_all
  obtain ⟨rfl, rfl⟩ := trodVars_none hV
  have k0 := h0
  have lt0 : ∀ x ∈ p0, x.block < W.heap.size := by obtain ⟨m, hm⟩ := k0; exact DataW.trod_lt m _ _ _ hm
  have g0 := hval 0 39 v0 rfl rfl
  obtain ⟨l, hvc, hcs, hll⟩ := open_classes k0 (by obtain ⟨A, len, cap, rfl⟩ := okWide_slice Try.underlying39 g0; rfl)
  have hsm := small_first hk
  clear hA0
  refine (classesLaw_any (K := Rows.uptoBulk d0 + 1) (fun c hc => Nat.lt_succ_of_le (hcs c hc)) (fun c hc => Nat.le_trans (hcs c hc) (Nat.le_trans hsm (by decide))) (Nat.le_trans hll (Nat.le_trans hsm (by decide))) hvc).mono fun e W' ⟨he, bel⟩ => ?_
  subst he
  exact ⟨_, rfl, _, _, _, [], _, [], hW', trodAll_mk1 (shut_bool Try.underlying4 _), (trodAll_cons_mk (Below.trod laidOut (by kernel_rfl) (of_decide_eq_true (by kernel_rfl)) k0 bel lt0) trodAll_mk0), rfl, bel.frame _, fun h => by cases h⟩
set_option maxRecDepth 100000 in
theorem lifted (os : Os) (started : os.Started) (H : Type) (enc : TypeId × Value → H) (F : Stop.Interp) :
    ReturnsInHanded {} Try.checked os 8 .any ((Rows.OpenSpec.upto Rows.fuseClassesSpec).pre6 enc Try.prog Try.f8 Rows.fuseClassesUptoRow.domain false) (((Rows.OpenSpec.upto Rows.fuseClassesSpec).at F).post enc Try.prog Try.f8 false true false false) := by
  refine returnsInHanded_of_cond (C := Try.checked) (s := Rows.OpenSpec.upto Rows.fuseClassesSpec) (k := Rows.uptoSmall) rfl own started (by kernel_rfl) Try.func8
    (OpenSpec.witness (enc := enc) (C := Try.checked) (s := Rows.OpenSpec.upto Rows.fuseClassesSpec) (k := Rows.uptoSmall) rfl false ⟨#[], #[.slice none 0 0], []⟩ 8 (by kernel_rfl) (by kernel_rfl) (by kernel_rfl)
      (x := ([.nil], [], [])) (by kernel_rfl) rfl (by kernel_rfl)) ?_
  intro W base args ds gs before hval hW _ hk _
  exact contract H enc W base args ds gs before hval hW hk
theorem over : Rows.fuseClassesUptoRow.holds Try.pinned (Rows.OpenSpec.upto Rows.fuseClassesSpec) :=
  OpenClaim.holds_of_cond 8 Try.f8 rfl rfl rfl rfl rfl rfl rfl ⟨rfl, rfl, rfl, rfl, rfl⟩ rfl rfl rfl rfl rfl (by kernel_rfl) Try.func8 (by kernel_rfl)
    (of_decide_eq_true (by kernel_rfl)) (by unfold Func.isWrapper; first | (rw [if_pos (by decide +kernel)]; kernel_rfl) | (rw [if_neg (by decide +kernel)]; exact ⟨rfl, rfl⟩))
    (fun os started H enc _ F => lifted os started H enc F)
theorem proved : Rows.FuseClassesUptoSaid := over
#print axioms proved
end Go.Proofs.Ytnbinejghkhcjaa.fuseClassesUpto
namespace Go.Proofs.Ytnbinejghkhcjaa
/-- The row, under a short name, for the claim. -/
theorem fuseClassesUpto_holds : Rows.FuseClassesUptoSaid := fuseClassesUpto.proved
end Go.Proofs.Ytnbinejghkhcjaa
