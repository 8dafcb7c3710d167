/- The walk of the law FuseLeft. -/
import Derived.Test.YtnbinejghkhcjaaFx
import Derived.Test.YtnbinejghkhcjaaFk
import Derived.Test.YtnbinejghkhcjaaGa
namespace Go.Proofs.Ytnbinejghkhcjaa.Fu
open Go.RowKit
set_option linter.unusedVariables false
set_option linter.unusedSimpArgs false
set_option maxHeartbeats 4000000

theorem left_any {w : World} {A : Nat → Prop} {v : Value} {l : List Stm} (h : VB w A v l) (hs : szB 1 l ≤ 1048576) :
    Calls Try.prog 5 #[v] w fun e w' => e = .returned (.bool true) ∧ Below w.heap.size w w' := by
  obtain ⟨a, cap, rfl, h2, h3⟩ := h.any
  obtain ⟨n, hn⟩ : ∃ n, l.length = n := ⟨_, rfl⟩
  rw [hn] at h ⊢
  have HV := Lib.hid h
  have HS := Lib.hid hs
  obtain ⟨F, hF⟩ : ∃ F, fuseF (szB 1 l + 1) l = F := ⟨_, rfl⟩
  have HF := Lib.hid hF
  have hap := fuse_left (szB 1 l + 1) l (Nat.le_succ _)
  rw [hF] at hap
  have HP := Lib.hid hap
  obtain ⟨s, hss⟩ : ∃ s, sgb l = s := ⟨_, rfl⟩
  have HX := Lib.hid hss
  clear h hs hF hn h2 hss hap
  cases s with
  | false =>
    go_enter Try.func5, Try.ntmps5
    go_wp2_with (first
      | (go_at_call 9
         with_reducible refine (lives_any _).mono ?_
         rintro e w1 ⟨rfl, hb1⟩
         have HV1 := Lib.hid (HV.out.stay (Stay.below hb1))
         replace hb1 := Lib.hid hb1)
      | (go_at_call 10
         with_reducible refine (single_any HV1.out (Nat.le_trans HS.out (by decide))).mono ?_
         rw [HX.out]
         rintro e w3 ⟨rfl, hb3⟩
         replace hb3 := Lib.hid (hb1.out.trans (hb3.mono hb1.out.size))))
    go_ret
    exact ⟨rfl, hb3.out⟩
  | true =>
    go_enter Try.func5, Try.ntmps5
    go_wp2_with (first
      | (go_at_call 9
         with_reducible refine (lives_any _).mono ?_
         rintro e w1 ⟨rfl, hb1⟩
         have HV1 := Lib.hid (HV.out.stay (Stay.below hb1))
         replace hb1 := Lib.hid hb1)
      | (go_at_call 10
         with_reducible refine (single_any HV1.out (Nat.le_trans HS.out (by decide))).mono ?_
         rw [HX.out]
         rintro e w2 ⟨rfl, hb2⟩
         have HV2 := Lib.hid (HV1.out.stay (Stay.below hb2))
         replace hb2 := Lib.hid (hb1.out.trans (hb2.mono hb1.out.size)))
      | (go_at_call 13
         with_reducible refine (fuse_any HV2.out (Nat.le_trans HS.out (by decide)) _ (Nat.lt_succ_self _)).mono ?_
         rintro e w3 ⟨v3, rfl, hv3, hb3⟩
         rw [HF.out] at hv3
         obtain ⟨a3, cap3, rfl, _, _⟩ := hv3.any
         have HV3 := Lib.hid hv3
         clear hv3
         replace hb3 := Lib.hid (hb2.out.trans (hb3.mono hb2.out.size)))
      | (go_at_call 14
         with_reducible refine (ap_any HV3.out HP.out).mono ?_
         rintro e w4 ⟨rfl, hb4⟩
         replace hb4 := Lib.hid (hb3.out.trans (hb4.mono hb3.out.size))))
    go_ret
    exact ⟨rfl, hb4.out⟩
end Go.Proofs.Ytnbinejghkhcjaa.Fu
