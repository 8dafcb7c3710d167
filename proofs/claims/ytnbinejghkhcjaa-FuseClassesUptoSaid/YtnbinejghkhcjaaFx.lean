/- The walk of the law FuseLess. -/
import Derived.Test.YtnbinejghkhcjaaFi
import Derived.Test.YtnbinejghkhcjaaFj
namespace Go.Proofs.Ytnbinejghkhcjaa.Fu
open Go.RowKit
set_option linter.unusedVariables false
set_option linter.unusedSimpArgs false
set_option maxHeartbeats 4000000

theorem fuse_any {w : World} {A : Nat → Prop} {v : Value} {l : List Stm} (h : VB w A v l) (hs : szB 1 l ≤ 2097152) (k : Nat) (hk : szB 1 l < k) : Calls Try.prog 13 #[v] w fun e w' => ∃ v', e = .returned v' ∧ VB w' (fun b => A b ∨ w.heap.size ≤ b) v' (fuseF k l) ∧ Below w.heap.size w w' :=
  fuse_all k l w A v hk hs h
theorem size_any {w : World} {A : Nat → Prop} {v : Value} {l : List Stm} (h : VB w A v l) (hs : szB 1 l ≤ 2097152) : Calls Try.prog 15 #[v] w fun e w' => e = .returned (.int .i64 (szB 0 l)) ∧ w = w' :=
  size_all _ l w A v (Nat.lt_succ_self _) hs h
theorem less_any {w : World} {A : Nat → Prop} {v : Value} {l : List Stm} (h : VB w A v l) (hs : szB 1 l ≤ 1048576) (nm : ByteArray) :
    Calls Try.prog 6 #[v, .string nm] w fun e w' => e = .returned (.bool true) ∧ Below w.heap.size w w' := by
  obtain ⟨a, cap, rfl, h2, h3⟩ := h.any
  obtain ⟨n, hn⟩ : ∃ n, l.length = n := ⟨_, rfl⟩
  rw [hn] at h ⊢
  have HV := Lib.hid h
  have HS := Lib.hid hs
  obtain ⟨F, hF⟩ : ∃ F, fuseF (szB 1 l + 1) l = F := ⟨_, rfl⟩
  have HF := Lib.hid hF
  have h0 := szB_fuse 0 (szB 1 l + 1) l
  have h1 := szB_fuse 1 (szB 1 l + 1) l
  have hset := setsB_fuse nm (szB 1 l + 1) l
  rw [hF] at h0 h1 hset
  obtain ⟨x, hx⟩ : ∃ x, szB 0 F = x := ⟨_, rfl⟩
  obtain ⟨y, hy⟩ : ∃ y, szB 0 l = y := ⟨_, rfl⟩
  obtain ⟨s, hss⟩ : ∃ s, setsB nm l = s := ⟨_, rfl⟩
  rw [hx, hy] at h0
  rw [hss] at hset
  have HX := Lib.hid (And.intro hx (And.intro hy (And.intro hss hset)))
  have H1 := Lib.hid h1
  have hle : (x : Int) ≤ (y : Int) := by omega
  clear h hs hF h1 hset hx hy hss hn h2
  go_enter Try.func6, Try.ntmps6
  go_wp2_with (first
    | (go_at_call 9
       with_reducible refine (lives_any _).mono ?_
       rintro e w1 ⟨rfl, hb1⟩
       have HV1 := Lib.hid (HV.out.stay (Stay.below hb1))
       replace hb1 := Lib.hid hb1)
    | (go_at_call 13
       with_reducible refine (fuse_any HV1.out (Nat.le_trans HS.out (by decide)) _ (Nat.lt_succ_self _)).mono ?_
       rintro e w2 ⟨v2, rfl, hv2, hb2⟩
       rw [HF.out] at hv2
       obtain ⟨a2, cap2, rfl, _, _⟩ := hv2.any
       have HV2 := Lib.hid (HV1.out.stay (Stay.below hb2))
       replace hv2 := Lib.hid hv2
       replace hb2 := Lib.hid (hb1.out.trans (hb2.mono hb1.out.size)))
    | (go_at_call 15
       with_reducible refine (size_any hv2.out (Nat.le_trans H1.out (Nat.le_trans HS.out (by decide)))).mono ?_
       rw [HX.out.1]
       rintro e w3 ⟨rfl, rfl⟩)
    | (go_at_call 15
       with_reducible refine (size_any HV2.out (Nat.le_trans HS.out (by decide))).mono ?_
       rw [HX.out.2.1]
       rintro e w3 ⟨rfl, rfl⟩)
    | (go_at_call 16
       with_reducible refine (sets_any hv2.out nm).mono ?_
       rw [HX.out.2.2.2]
       rintro e w3 ⟨rfl, hb3⟩
       have HV3 := Lib.hid (HV2.out.stay (Stay.below hb3))
       replace hb3 := Lib.hid (hb2.out.trans (hb3.mono hb2.out.size)))
    | (go_at_call 16
       with_reducible refine (sets_any HV3.out nm).mono ?_
       rw [HX.out.2.2.1]
       rintro e w4 ⟨rfl, hb4⟩
       replace hb4 := Lib.hid (hb3.out.trans (hb4.mono hb3.out.size))))
  go_ret
  exact ⟨ret_b (by simp), hb4.out⟩
end Go.Proofs.Ytnbinejghkhcjaa.Fu
