/- The walk of the law FuseOnce. -/
import Derived.Test.YtnbinejghkhcjaaFx
import Derived.Test.YtnbinejghkhcjaaFk
import Derived.Test.YtnbinejghkhcjaaFo
namespace Go.Proofs.Ytnbinejghkhcjaa.Fu
open Go.RowKit
set_option linter.unusedVariables false
set_option linter.unusedSimpArgs false
set_option maxHeartbeats 4000000

theorem once_any {w : World} {A : Nat → Prop} {v : Value} {l : List Stm} (h : VB w A v l) (hs : szB 1 l ≤ 1048576) :
    Calls Try.prog 4 #[v] w fun e w' => e = .returned (.bool true) ∧ Below w.heap.size w w' := by
  obtain ⟨a, cap, rfl, h2, h3⟩ := h.any
  obtain ⟨n, hn⟩ : ∃ n, l.length = n := ⟨_, rfl⟩
  rw [hn] at h ⊢
  have HV := Lib.hid h
  have HS := Lib.hid hs
  obtain ⟨F, hF⟩ : ∃ F, fuseF (szB 1 l + 1) l = F := ⟨_, rfl⟩
  have HF := Lib.hid hF
  have h1 := szB_fuse 1 (szB 1 l + 1) l
  have hon := fuse_once (szB 1 l + 1) l (Nat.le_succ _)
  have hsg := fuse_sgl (szB 1 l + 1) l
  rw [hF] at h1 hon hsg
  have H1 := Lib.hid h1
  have HO := Lib.hid hon
  obtain ⟨s, hss⟩ : ∃ s, sgb l = s := ⟨_, rfl⟩
  cases s with
  | false =>
    have HX := Lib.hid hss
    clear h hs hF h1 hn h2 hss hon hsg
    go_enter Try.func4, Try.ntmps4
    go_wp2_with (first
      | (go_at_call 9
         with_reducible refine (lives_any _).mono ?_
         rintro e w1 ⟨rfl, hb1⟩
         have HV1 := Lib.hid (HV.out.stay (Stay.below hb1))
         replace hb1 := Lib.hid hb1)
      | (go_at_call 13
         with_reducible refine (fuse_any HV1.out (Nat.le_trans HS.out (by decide)) _ (Nat.lt_succ_self _)).mono ?_
         rintro e w2 ⟨v2, rfl, hv2, hb2⟩
         have HV2 := Lib.hid (HV1.out.stay (Stay.below hb2))
         clear hv2
         replace hb2 := Lib.hid (hb1.out.trans (hb2.mono hb1.out.size)))
      | (go_at_call 10
         with_reducible refine (single_any HV2.out (Nat.le_trans HS.out (by decide))).mono ?_
         rw [HX.out]
         rintro e w3 ⟨rfl, hb3⟩
         replace hb3 := Lib.hid (hb2.out.trans (hb3.mono hb2.out.size))))
    go_ret
    exact ⟨rfl, hb3.out⟩
  | true =>
    have HX := Lib.hid hss
    have HG : Hid (sgb F = true) := Lib.hid ((sgb_iff F).mpr (hsg ((sgb_iff l).mp hss)))
    clear h hs hF h1 hn h2 hss hon hsg
    go_enter Try.func4, Try.ntmps4
    go_wp2_with (first
      | (go_at_call 9
         with_reducible refine (lives_any _).mono ?_
         rintro e w1 ⟨rfl, hb1⟩
         have HV1 := Lib.hid (HV.out.stay (Stay.below hb1))
         replace hb1 := Lib.hid hb1)
      | (go_at_call 13
         with_reducible refine (fuse_any HV1.out (Nat.le_trans HS.out (by decide)) _ (Nat.lt_succ_self _)).mono ?_
         rintro e w2 ⟨v2, rfl, hv2, hb2⟩
         rw [HF.out] at hv2
         obtain ⟨a2, cap2, rfl, _, _⟩ := hv2.any
         have HV2 := Lib.hid (HV1.out.stay (Stay.below hb2))
         have HW2 := Lib.hid hv2
         clear hv2
         replace hb2 := Lib.hid (hb1.out.trans (hb2.mono hb1.out.size)))
      | (go_at_call 10
         with_reducible refine (single_any HV2.out (Nat.le_trans HS.out (by decide))).mono ?_
         rw [HX.out]
         rintro e w3 ⟨rfl, hb3⟩
         have HW3 := Lib.hid (HW2.out.stay (Stay.below hb3))
         replace hb3 := Lib.hid (hb2.out.trans (hb3.mono hb2.out.size)))
      | (go_at_call 13
         with_reducible refine (fuse_any HW3.out (Nat.le_trans H1.out (Nat.le_trans HS.out (by decide))) (szB 1 l + 1) (Nat.lt_succ_of_le H1.out)).mono ?_
         rintro e w4 ⟨v4, rfl, hv4, hb4⟩
         rw [HO.out] at hv4
         obtain ⟨a4, cap4, rfl, _, _⟩ := hv4.any
         have HW4 := Lib.hid (HW3.out.stay (Stay.below hb4))
         have HV4 := Lib.hid hv4
         clear hv4
         replace hb4 := Lib.hid (hb3.out.trans (hb4.mono hb3.out.size)))
      | (go_at_call 11
         with_reducible refine (same_any HV4.out HW4.out).mono ?_
         rintro e w5 ⟨rfl, hb5⟩
         have HW5 := Lib.hid (HW4.out.stay (Stay.below hb5))
         replace hb5 := Lib.hid (hb4.out.trans (hb5.mono hb4.out.size)))
      | (go_at_call 10
         with_reducible refine (single_any HW5.out (Nat.le_trans H1.out (Nat.le_trans HS.out (by decide)))).mono ?_
         rw [HG.out]
         rintro e w6 ⟨rfl, hb6⟩
         replace hb6 := Lib.hid (hb5.out.trans (hb6.mono hb5.out.size))))
    go_ret
    exact ⟨rfl, hb6.out⟩
end Go.Proofs.Ytnbinejghkhcjaa.Fu
