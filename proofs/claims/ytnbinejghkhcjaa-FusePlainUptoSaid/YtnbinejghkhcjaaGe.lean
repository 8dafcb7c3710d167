/- The walk of the law FusePlain. -/
import Derived.Test.YtnbinejghkhcjaaFx
import Derived.Test.YtnbinejghkhcjaaFo
import Derived.Test.YtnbinejghkhcjaaGb
import Derived.BigQuiet
namespace Go.Proofs.Ytnbinejghkhcjaa.Fu
open Go.RowKit
set_option linter.unusedVariables false
set_option linter.unusedSimpArgs false
set_option maxHeartbeats 4000000

theorem lone_of {l : List Stm} (h : ∀ m x y, l[m]? = some x → l[m + 1]? = some y → ¬ (y.op = 5 ∧ x.op = 5)) : lone l := by
  induction l with
  | nil => trivial
  | cons a r ih =>
    cases r with
    | nil => trivial
    | cons b q =>
      refine ⟨h 0 a b rfl rfl, ih (fun m x y hx hy => h (m + 1) x y (by simpa using hx) (by simpa using hy))⟩
theorem alone_arms (F : List Stm → List Stm) (s : Stm) : (alone F s).arms.length = s.arms.length := by simp [alone, Stm.arms, mapF]
set_option maxRecDepth 100000 in
theorem plain_any {W : World} {A : Nat → Prop} {v : Value} {l : List Stm} (h : VB W A v l) (hs : szB 1 l ≤ 1048576) :
    Calls Try.prog 7 #[v] W fun e w' => e = .returned (.bool true) ∧ Below W.heap.size W w' := by
  obtain ⟨a, cap, rfl, h2, h3⟩ := h.any
  have hu : cap ≤ 9223372036854775807 := by unfold maxLen at h3; exact h3
  obtain ⟨n, hn⟩ : ∃ n, l.length = n := ⟨_, rfl⟩
  rw [hn] at h h2 ⊢
  have hnl : n ≤ 2097152 := by have := len_szB 1 l; omega
  have HV := Lib.hid h
  have HS := Lib.hid hs
  have HN := Lib.hid hn
  clear h hs hn
  go_enter Try.func7, Try.ntmps7
  go_wp2_with (go_at_call 9; (with_reducible refine (lives_any _).mono ?_); rintro e w1 ⟨rfl, hb1⟩; replace hb1 := Lib.hid hb1)
  go_loopw [3] (fun i wr => ∃ m : Nat, i = .int .i64 ((m : Int) + 1) ∧ m ≤ n ∧ Hid (∀ j x y, j < m → l[j]? = some x → l[j + 1]? = some y → ¬ (y.op = 5 ∧ x.op = 5)) ∧ Hid (Below W.heap.size W wr)) (fun i _ => n + 1 - (intOf i).toNat)
  case atStart => exact ⟨0, rfl, Nat.zero_le _, Lib.hid (fun j x y hj => by omega), hb1⟩
  case round =>
    obtain ⟨m, rfl, hm, HX, HW⟩ := hrel
    by_cases hlt : m + 1 < n
    · obtain ⟨y, hy⟩ : ∃ y, l[m + 1]? = some y := ⟨_, getE (by rw [HN.out]; exact hlt)⟩
      obtain ⟨x, hx⟩ : ∃ x, l[m]? = some x := ⟨_, getE (by rw [HN.out]; omega)⟩
      obtain ⟨b, off, _, u, he, _, _, _, hbs, hat, _, _⟩ := (HV.out.stay (Stay.below HW.out)).get (m + 1) y hy
      simp only [Value.slice.injEq] at he
      obtain ⟨rfl, hnl', rfl⟩ := he
      obtain ⟨b', off', _, u', he, _, _, _, _, hat', _, _⟩ := (HV.out.stay (Stay.below HW.out)).get m x hx
      simp only [Value.slice.injEq, Option.some.injEq, Addr.mk.injEq, and_true] at he
      obtain ⟨⟨rfl, rfl⟩, -, -⟩ := he
      obtain ⟨op, hop⟩ : ∃ op, y.hd.op = op := ⟨_, rfl⟩
      obtain ⟨opx, hopx⟩ : ∃ op, x.hd.op = op := ⟨_, rfl⟩
      have c0 := hat.c0
      have d0 := hat'.c0
      rw [hop] at c0
      rw [hopx] at d0
      have HY := Lib.hid (And.intro hy (And.intro hx (And.intro hop hopx)))
      clear hy hx hop hopx hat hat' hnl'
      have hwr : IntKind.i64.wrap (m : Int) = (m : Int) := by rw [IntKind.wrap_i64]; omega
      have hwr2 : IntKind.i64.wrap ((m : Int) + 1 + 1) = (m : Int) + 1 + 1 := by rw [IntKind.wrap_i64]; omega
      have hl2 : (m : Int) + 1 < (n : Int) := by omega
      have hl3 : (0 : Int) ≤ (m : Int) + 1 := by omega
      have hl4 : (0 : Int) ≤ (m : Int) := by omega
      have hl5 : (m : Int) < (n : Int) := by omega
      by_cases o5 : op = 5
      · subst o5
        by_cases ox5 : opx = 5
        · subst ox5
          go_wp2
          go_ret
          exact ⟨rfl, HW.out⟩
        · have dx5 : decide (opx = 5) = false := decide_eq_false ox5
          have HO := Lib.hid ox5
          go_wp2
          refine ⟨⟨m + 1, by simp, by omega, Lib.hid ?_, HW⟩, by simp [intOf]; omega⟩
          intro j x' y' hj hx' hy' hc
          rcases Nat.lt_succ_iff_lt_or_eq.mp hj with q | q
          · exact HX.out j x' y' q hx' hy' hc
          · subst q
            rw [HY.out.2.1] at hx'
            cases hx'
            exact HO.out (by rw [← HY.out.2.2.2]; exact hc.2)
      · have d5 : decide (op = 5) = false := decide_eq_false o5
        have HO := Lib.hid o5
        go_wp2
        refine ⟨⟨m + 1, by simp, by omega, Lib.hid ?_, HW⟩, by simp [intOf]; omega⟩
        intro j x' y' hj hx' hy' hc
        rcases Nat.lt_succ_iff_lt_or_eq.mp hj with q | q
        · exact HX.out j x' y' q hx' hy' hc
        · subst q
          rw [HY.out.1] at hy'
          cases hy'
          exact HO.out (by rw [← HY.out.2.2.1]; exact hc.1)
    · have hl2 : ¬ ((m : Int) + 1 < (n : Int)) := by omega
      have hlo : lone l := lone_of (fun j x y hx hy => HX.out j x y (by have := (List.getElem?_eq_some_iff.1 hy).1; rw [HN.out] at this; omega) hx hy)
      have hfp := fuse_plain (szB 1 l) l hlo
      have HFP := Lib.hid hfp
      have HV1 := Lib.hid (HV.out.stay (Stay.below HW.out))
      clear hlo hfp
      go_wp2_with (go_at_call 13
                   (with_reducible refine (fuse_any HV1.out (Nat.le_trans HS.out (by decide)) _ (Nat.lt_succ_self _)).mono ?_)
                   rintro e w2 ⟨v2, rfl, hv2, hb2⟩
                   rw [HFP.out] at hv2
                   obtain ⟨a2, cap2, rfl, hq1, hq2⟩ := hv2.any
                   rw [List.length_map, HN.out] at hv2 hq1 ⊢
                   have hq3 : cap2 ≤ 9223372036854775807 := by unfold maxLen at hq2; exact hq2
                   have HV2 := Lib.hid hv2
                   have HW2 := Lib.hid (HW.out.trans (hb2.mono HW.out.size))
                   clear hv2 hb2 hq2)
      have HV2W := Lib.hid (HV.out.stay (Stay.below HW2.out))
      go_loopw [5] (fun i wr => ∃ j : Nat, i = .int .i64 j ∧ j ≤ n ∧ Hid (Below w2.heap.size w2 wr)) (fun i _ => n - (intOf i).toNat)
      case atStart => exact ⟨0, rfl, Nat.zero_le _, Lib.hid (Below.refl _ _)⟩
      case round =>
        obtain ⟨j, rfl, hj, HX⟩ := hrel
        by_cases hlt2 : j < n
        · obtain ⟨t, ht⟩ : ∃ t, l[j]? = some t := ⟨_, getE (by rw [HN.out]; exact hlt2)⟩
          obtain ⟨b, off, _, u, he, _, _, _, hbs, hat, _, hva⟩ := (HV2W.out.stay (Stay.below HX.out)).get j t ht
          simp only [Value.slice.injEq] at he
          obtain ⟨rfl, -, rfl⟩ := he
          have hta : (l.map (alone (fuseF (szB 1 l))))[j]? = some (alone (fuseF (szB 1 l)) t) := by rw [List.getElem?_map, ht]; rfl
          obtain ⟨bg, offg, _, ug, he, _, _, _, hbsg, hatg, _, hvag⟩ := (HV2.out.stay (Stay.below HX.out)).get j _ hta
          simp only [Value.slice.injEq] at he
          obtain ⟨rfl, -, rfl⟩ := he
          obtain ⟨au, cu, rfl, hcu1, hcu2⟩ := hva.any
          obtain ⟨aug, cug, rfl, hcug1, hcug2⟩ := hvag.any
          have hcu3 : cu ≤ 9223372036854775807 := by unfold maxLen at hcu2; exact hcu2
          have hcug3 : cug ≤ 9223372036854775807 := by unfold maxLen at hcug2; exact hcug2
          have c10 := hat.c10
          have g10 := hatg.c10
          rw [alone_arms] at g10 hcug1
          obtain ⟨na, hna⟩ : ∃ na, t.arms.length = na := ⟨_, rfl⟩
          rw [hna] at c10 g10 hcu1 hcug1
          have hsub := (HV2W.out.stay (Stay.below HX.out)).sub ht
          have hsubg := (HV2.out.stay (Stay.below HX.out)).sub hta
          have hsz : szB 1 [t] ≤ szB 1 l := by
            have h1 := szB_mem 1 (List.mem_of_getElem? ht)
            simp only [szB]; rw [szS_eq]; omega
          have hfc := fuse_any hsub (Nat.le_trans hsz (Nat.le_trans HS.out (by decide))) (szB 1 l + 1) (Nat.lt_succ_of_le hsz)
          rw [fuse_alone] at hfc
          have HSG := Lib.hid hsubg
          have HG := Lib.hid (And.intro g10 (And.intro c10 (And.intro hbs hbsg)))
          have hwr3 : IntKind.i64.wrap ((j : Int) + 1) = (j : Int) + 1 := by rw [IntKind.wrap_i64]; omega
          have hm2 : (j : Int) < (n : Int) := by omega
          have hm3 : (0 : Int) ≤ (j : Int) := by omega
          have hm4 : (j : Int) ≤ (j : Int) + 1 := by omega
          have hm5 : (j : Int) + 1 ≤ (cap : Int) := by omega
          have hm6 : (j : Int) + 1 ≤ (cap2 : Int) := by omega
          have hm7 : j + 1 ≤ cap := by omega
          have hm8 : j + 1 ≤ cap2 := by omega
          have hm9 : ¬ cap2 = j := by omega
          have hm10 : ¬ cap = j := by omega
          clear hva hvag hat hatg hsub hsubg hsz hna hcu2 hcug2 ht hta c10 g10 hbs hbsg
          go_wp2_with (go_at_call 13
                       (with_reducible refine hfc.mono ?_)
                       rintro e w4 ⟨v4, rfl, hv4, hb4⟩
                       obtain ⟨a4, cap4, rfl, _, _⟩ := hv4.any
                       have HV4 := Lib.hid (And.intro hv4 (HSG.out.stay (Stay.below hb4)))
                       have HB4 := Lib.hid hb4
                       clear hv4 hb4)
          have hSS : ∀ w', Below w4.heap.size w4 w' → w'.cell? ⟨bg, offg + j * 11 + 10, none⟩ = some (.slice aug na cug) ∧ w'.cell? ⟨b, off + j * 11 + 10, none⟩ = some (.slice au na cu) := fun w' hb => by
            have hbb := HB4.out.trans (hb.mono HB4.out.size)
            exact ⟨(World.cell?_of_block (hbb.block _ HG.out.2.2.2)).trans HG.out.1, (World.cell?_of_block (hbb.block _ HG.out.2.2.1)).trans HG.out.2.1⟩
          have hsa : ∀ w', Below w4.heap.size w4 w' → Calls Try.prog 11 #[.slice (some ⟨bg, offg + j * 11, none⟩) 1 (cap2 - j), .slice a4 1 cap4] w' fun e w'' => e = .returned (.bool true) ∧ Below w'.heap.size w' w'' := fun w' hb => same_any (HV4.out.2.stay (Stay.below hb)) (HV4.out.1.stay (Stay.below hb))
          have hs1 := hsa _ ((Below.refl w4.heap.size w4).drew)
          clear hfc
          go_region_held3 (fun w' => w'.cell? ⟨bg, offg + j * 11 + 10, none⟩ = some (.slice aug na cug) ∧ w'.cell? ⟨b, off + j * 11 + 10, none⟩ = some (.slice au na cu))
            (first | (exact hS2) | (exact hSS _ (Below.refl _ _)) | (exact hSS _ ((Below.refl w4.heap.size w4).drew)))
            (first
              | (go_at_call 11
                 (first | (with_reducible refine hs1.mono ?_) | (refine hs1.mono ?_))
                 rintro e w5 ⟨rfl, hb5⟩
                 have hb5' : Below w4.heap.size w4 w5 := ((Below.refl w4.heap.size w4).drew).trans hb5
                 have hS2 := hSS w5 hb5')
              | fail)
          have HX5 := Lib.hid (HX.out.trans ((HB4.out.trans (hb5'.mono HB4.out.size)).mono HX.out.size))
          clear hSS hsa hs1 hS2 hb5 hb5'
          go_wp2
          refine ⟨⟨j + 1, by simp, by omega, HX5⟩, by simp [intOf]; omega⟩
        · go_wp2
          go_ret
          exact ⟨rfl, HW2.out.trans (HX.out.mono HW2.out.size)⟩
end Go.Proofs.Ytnbinejghkhcjaa.Fu
