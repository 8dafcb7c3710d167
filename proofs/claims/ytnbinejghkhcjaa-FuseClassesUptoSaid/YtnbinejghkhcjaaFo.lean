/- What reads the same is the same: the reference's comparison of statements. -/
import Derived.Test.YtnbinejghkhcjaaFn
namespace Go.Proofs.Ytnbinejghkhcjaa.Fu
open Go.RowKit
set_option linter.unusedVariables false
set_option linter.unusedSimpArgs false
set_option maxHeartbeats 4000000
def SameC (k : Nat) : Prop := ∀ (l : List Stm) (w : World) (A B : Nat → Prop) (v v' : Value), szB 1 l < k → VB w A v l → VB w B v' l → Calls Try.prog 11 #[v, v'] w fun e w' => e = .returned (.bool true) ∧ Below w.heap.size w w'
set_option maxRecDepth 100000 in
theorem same_step {k : Nat} (ih : SameC k) : SameC (k + 1) := by
  intro l W A B v v' hk h h'
  obtain ⟨a, cap, rfl, h2, h3⟩ := h.any
  obtain ⟨a', cap', rfl, h2', h3'⟩ := h'.any
  have hu : cap ≤ 9223372036854775807 := by unfold maxLen at h3; exact h3
  have hu' : cap' ≤ 9223372036854775807 := by unfold maxLen at h3'; exact h3'
  obtain ⟨n, hn⟩ : ∃ n, l.length = n := ⟨_, rfl⟩
  rw [hn] at h2 h2' ⊢
  have HV := Lib.hid h
  have HV' := Lib.hid h'
  have HN := Lib.hid hn
  have HK := Lib.hid hk
  have IH := Lib.hid ih
  clear hn h h' hk ih
  go_enter Try.func11, Try.ntmps11
  go_wp2
  go_loopw [5] (fun i wr => ∃ m : Nat, i = .int .i64 m ∧ m ≤ n ∧ Hid (Below W.heap.size W wr)) (fun i _ => n - (intOf i).toNat)
  case atStart => exact ⟨0, rfl, Nat.zero_le _, Lib.hid (Below.refl _ _)⟩
  case round =>
    obtain ⟨m, rfl, hm, HW⟩ := hrel
    by_cases hlt : m < n
    · have hml : m < l.length := by rw [HN.out]; exact hlt
      obtain ⟨y, hy⟩ : ∃ y, l[m]? = some y := ⟨_, getE hml⟩
      obtain ⟨b, off, _, u, he, _, _, _, hbs, hat, hho, hva⟩ := (HV.out.stay (Stay.below HW.out)).get m y hy
      obtain ⟨b', off', _, u', he', _, _, _, hbs', hat', hho', hva'⟩ := (HV'.out.stay (Stay.below HW.out)).get m y hy
      simp only [Value.slice.injEq, true_and] at he he'
      obtain ⟨rfl, -, rfl⟩ := he
      obtain ⟨rfl, -, rfl⟩ := he'
      have hone := rawS_one hho hva
      have hone' := rawS_one hho' hva'
      obtain ⟨h, arms⟩ := y
      obtain ⟨op, name, strs, names, inst, e0, e1, e2, e3, e4, args⟩ := h
      simp only [Stm.hd, Stm.arms, rawS] at hat hva hone hat' hva' hone'
      obtain ⟨a2, n2, p2, i3, a9, n9, p9, x0, x1, x2, a7, n7, p7, a8, n8, p8, f2, f3, f4, f5, f6, f7, f8, f9⟩ := hho.forms
      subst f2; subst f3; subst f4; subst f5; subst f6; subst f7; subst f8; subst f9
      obtain ⟨c0, c1, c2, c3, c4, c5, c6, c7, c8, c9, c10⟩ := hat
      obtain ⟨d0, d1, d2, d3, d4, d5, d6, d7, d8, d9, d10⟩ := hat'
      obtain ⟨au, cu, rfl, hcu1, hcu2⟩ := hva.any
      obtain ⟨au', cu', rfl, hcu1', hcu2'⟩ := hva'.any
      have hcu3 : cu ≤ 9223372036854775807 := by unfold maxLen at hcu2; exact hcu2
      have hcu3' : cu' ≤ 9223372036854775807 := by unfold maxLen at hcu2'; exact hcu2'
      obtain ⟨na, hna⟩ : ∃ na, arms.length = na := ⟨_, rfl⟩
      rw [hna] at c10 hcu1 d10 hcu1'
      have hl1 : (0 : Int) ≤ (m : Int) := by omega
      have hl2 : (m : Int) < (n : Int) := by omega
      have HB := Lib.hid (And.intro hva (And.intro hva' (And.intro hna (And.intro hho hy))))
      clear hva hva' hna hho hy hone hone' hcu2 hcu2' hho'
      go_wp2
      go_region_held3 (fun w' => w'.cell? ⟨b, off + m * 11, none⟩ = some (.int .i64 op) ∧ w'.cell? ⟨b, off + m * 11 + 1, none⟩ = some (.string name) ∧ w'.cell? ⟨b, off + m * 11 + 2, none⟩ = some (.slice a2 n2 p2) ∧ w'.cell? ⟨b, off + m * 11 + 3, none⟩ = some (.int .i64 i3) ∧ w'.cell? ⟨b, off + m * 11 + 4, none⟩ = some (.int .i64 x0) ∧ w'.cell? ⟨b, off + m * 11 + 5, none⟩ = some (.string x1) ∧ w'.cell? ⟨b, off + m * 11 + 6, none⟩ = some (.int .i64 x2) ∧ w'.cell? ⟨b, off + m * 11 + 7, none⟩ = some (.slice a7 n7 p7) ∧ w'.cell? ⟨b, off + m * 11 + 8, none⟩ = some (.slice a8 n8 p8) ∧ w'.cell? ⟨b, off + m * 11 + 9, none⟩ = some (.slice a9 n9 p9) ∧ w'.cell? ⟨b, off + m * 11 + 10, none⟩ = some (.slice au na cu) ∧
          w'.cell? ⟨b', off' + m * 11, none⟩ = some (.int .i64 op) ∧ w'.cell? ⟨b', off' + m * 11 + 1, none⟩ = some (.string name) ∧ w'.cell? ⟨b', off' + m * 11 + 2, none⟩ = some (.slice a2 n2 p2) ∧ w'.cell? ⟨b', off' + m * 11 + 3, none⟩ = some (.int .i64 i3) ∧ w'.cell? ⟨b', off' + m * 11 + 4, none⟩ = some (.int .i64 x0) ∧ w'.cell? ⟨b', off' + m * 11 + 5, none⟩ = some (.string x1) ∧ w'.cell? ⟨b', off' + m * 11 + 6, none⟩ = some (.int .i64 x2) ∧ w'.cell? ⟨b', off' + m * 11 + 7, none⟩ = some (.slice a7 n7 p7) ∧ w'.cell? ⟨b', off' + m * 11 + 8, none⟩ = some (.slice a8 n8 p8) ∧ w'.cell? ⟨b', off' + m * 11 + 9, none⟩ = some (.slice a9 n9 p9) ∧ w'.cell? ⟨b', off' + m * 11 + 10, none⟩ = some (.slice au' na cu'))
        (first | go_keep)
        (first | fail)
      · refine gen_world' (S := fun w2 => (∃ z, wr.heap.size = z ∧ Below z wr w2) ∧ w2.heap[wr.heap.size]? = some (.cells #[.int .i64 op, .string name, .slice a2 n2 p2, .int .i64 i3, .int .i64 x0, .string x1, .int .i64 x2, .slice a7 n7 p7, .slice a8 n8 p8, .slice a9 n9 p9, .slice au na cu] 38 (0, 0)) ∧ w2.heap[wr.heap.size + 1]? = some (.cells #[.int .i64 op, .string name, .slice a2 n2 p2, .int .i64 i3, .int .i64 x0, .string x1, .int .i64 x2, .slice a7 n7 p7, .slice a8 n8 p8, .slice a9 n9 p9, .slice au' na cu'] 38 (0, 0))) ⟨⟨_, rfl, (((Below.refl wr.heap.size wr).alloc (Nat.le_refl _) _).alloc (by simp) _).drew⟩, (heap_alloc2_old wr _ _), (heap_alloc2_new wr _ _)⟩ ?_
        obtain ⟨q, hq⟩ : ∃ q, wr.heap.size + 1 = q := ⟨_, rfl⟩
        obtain ⟨p, hp⟩ : ∃ p, wr.heap.size = p := ⟨_, rfl⟩
        rw [hq, hp]
        rintro w2 ⟨⟨z, hz, hb2⟩, hp2, hq2⟩
        have HB2 : Hid (Below wr.heap.size wr w2) := Lib.hid (by first | (rw [hp, hz]; exact hb2) | (rw [hq, hz]; exact hb2))
        have HP2 := Lib.hid (And.intro hp2 hq2)
        clear hb2 hz hp2 hq2 hp hq z
        have hCC : ∀ w', Below w2.heap.size w2 w' → w'.cell? ⟨p, 0, none⟩ = some (.int .i64 op) ∧ w'.cell? ⟨p, 1, none⟩ = some (.string name) ∧ w'.cell? ⟨p, 2, none⟩ = some (.slice a2 n2 p2) ∧ w'.cell? ⟨p, 3, none⟩ = some (.int .i64 i3) ∧ w'.cell? ⟨p, 4, none⟩ = some (.int .i64 x0) ∧ w'.cell? ⟨p, 5, none⟩ = some (.string x1) ∧ w'.cell? ⟨p, 6, none⟩ = some (.int .i64 x2) ∧ w'.cell? ⟨p, 7, none⟩ = some (.slice a7 n7 p7) ∧ w'.cell? ⟨p, 8, none⟩ = some (.slice a8 n8 p8) ∧ w'.cell? ⟨p, 9, none⟩ = some (.slice a9 n9 p9) ∧ w'.cell? ⟨p, 10, none⟩ = some (.slice au na cu) ∧ w'.cell? ⟨q, 0, none⟩ = some (.int .i64 op) ∧ w'.cell? ⟨q, 1, none⟩ = some (.string name) ∧ w'.cell? ⟨q, 2, none⟩ = some (.slice a2 n2 p2) ∧ w'.cell? ⟨q, 3, none⟩ = some (.int .i64 i3) ∧ w'.cell? ⟨q, 4, none⟩ = some (.int .i64 x0) ∧ w'.cell? ⟨q, 5, none⟩ = some (.string x1) ∧ w'.cell? ⟨q, 6, none⟩ = some (.int .i64 x2) ∧ w'.cell? ⟨q, 7, none⟩ = some (.slice a7 n7 p7) ∧ w'.cell? ⟨q, 8, none⟩ = some (.slice a8 n8 p8) ∧ w'.cell? ⟨q, 9, none⟩ = some (.slice a9 n9 p9) ∧ w'.cell? ⟨q, 10, none⟩ = some (.slice au' na cu') := fun w' hb => ⟨by rw [cell_of_row _ p 0 _ 38 (0, 0) ((hb.block _ (Array.getElem?_eq_some_iff.1 HP2.out.1).1).trans HP2.out.1)]; rfl, by rw [cell_of_row _ p 1 _ 38 (0, 0) ((hb.block _ (Array.getElem?_eq_some_iff.1 HP2.out.1).1).trans HP2.out.1)]; rfl, by rw [cell_of_row _ p 2 _ 38 (0, 0) ((hb.block _ (Array.getElem?_eq_some_iff.1 HP2.out.1).1).trans HP2.out.1)]; rfl, by rw [cell_of_row _ p 3 _ 38 (0, 0) ((hb.block _ (Array.getElem?_eq_some_iff.1 HP2.out.1).1).trans HP2.out.1)]; rfl, by rw [cell_of_row _ p 4 _ 38 (0, 0) ((hb.block _ (Array.getElem?_eq_some_iff.1 HP2.out.1).1).trans HP2.out.1)]; rfl, by rw [cell_of_row _ p 5 _ 38 (0, 0) ((hb.block _ (Array.getElem?_eq_some_iff.1 HP2.out.1).1).trans HP2.out.1)]; rfl, by rw [cell_of_row _ p 6 _ 38 (0, 0) ((hb.block _ (Array.getElem?_eq_some_iff.1 HP2.out.1).1).trans HP2.out.1)]; rfl, by rw [cell_of_row _ p 7 _ 38 (0, 0) ((hb.block _ (Array.getElem?_eq_some_iff.1 HP2.out.1).1).trans HP2.out.1)]; rfl, by rw [cell_of_row _ p 8 _ 38 (0, 0) ((hb.block _ (Array.getElem?_eq_some_iff.1 HP2.out.1).1).trans HP2.out.1)]; rfl, by rw [cell_of_row _ p 9 _ 38 (0, 0) ((hb.block _ (Array.getElem?_eq_some_iff.1 HP2.out.1).1).trans HP2.out.1)]; rfl, by rw [cell_of_row _ p 10 _ 38 (0, 0) ((hb.block _ (Array.getElem?_eq_some_iff.1 HP2.out.1).1).trans HP2.out.1)]; rfl, by rw [cell_of_row _ q 0 _ 38 (0, 0) ((hb.block _ (Array.getElem?_eq_some_iff.1 HP2.out.2).1).trans HP2.out.2)]; rfl, by rw [cell_of_row _ q 1 _ 38 (0, 0) ((hb.block _ (Array.getElem?_eq_some_iff.1 HP2.out.2).1).trans HP2.out.2)]; rfl, by rw [cell_of_row _ q 2 _ 38 (0, 0) ((hb.block _ (Array.getElem?_eq_some_iff.1 HP2.out.2).1).trans HP2.out.2)]; rfl, by rw [cell_of_row _ q 3 _ 38 (0, 0) ((hb.block _ (Array.getElem?_eq_some_iff.1 HP2.out.2).1).trans HP2.out.2)]; rfl, by rw [cell_of_row _ q 4 _ 38 (0, 0) ((hb.block _ (Array.getElem?_eq_some_iff.1 HP2.out.2).1).trans HP2.out.2)]; rfl, by rw [cell_of_row _ q 5 _ 38 (0, 0) ((hb.block _ (Array.getElem?_eq_some_iff.1 HP2.out.2).1).trans HP2.out.2)]; rfl, by rw [cell_of_row _ q 6 _ 38 (0, 0) ((hb.block _ (Array.getElem?_eq_some_iff.1 HP2.out.2).1).trans HP2.out.2)]; rfl, by rw [cell_of_row _ q 7 _ 38 (0, 0) ((hb.block _ (Array.getElem?_eq_some_iff.1 HP2.out.2).1).trans HP2.out.2)]; rfl, by rw [cell_of_row _ q 8 _ 38 (0, 0) ((hb.block _ (Array.getElem?_eq_some_iff.1 HP2.out.2).1).trans HP2.out.2)]; rfl, by rw [cell_of_row _ q 9 _ 38 (0, 0) ((hb.block _ (Array.getElem?_eq_some_iff.1 HP2.out.2).1).trans HP2.out.2)]; rfl, by rw [cell_of_row _ q 10 _ 38 (0, 0) ((hb.block _ (Array.getElem?_eq_some_iff.1 HP2.out.2).1).trans HP2.out.2)]; rfl⟩
        have HCC := Lib.hid hCC
        obtain ⟨fp0, fp1, fp2, fp3, fp4, fp5, fp6, fp7, fp8, fp9, fp10, fq0, fq1, fq2, fq3, fq4, fq5, fq6, fq7, fq8, fq9, fq10⟩ := hCC w2 (Below.refl _ _)
        have hs1 : (name.toList == name.toList) = true := by simp
        have hn1 : Calls Try.prog 23 #[.slice a2 n2 p2, .slice a2 n2 p2] w2 (fun e w'' => e = .returned (.bool true) ∧ Below w2.heap.size w2 w'') := names_same (HB.out.2.2.2.1.names.stay (Stay.below HB2.out))
        have HHO := Lib.hid HB.out.2.2.2.1
        clear hCC c0 c1 c2 c3 c4 c5 c6 c7 c8 c9 c10 d0 d1 d2 d3 d4 d5 d6 d7 d8 d9 d10
        have hex : ∀ w', Below w2.heap.size w2 w' → Calls Try.prog 24 #[.agg #[.int .i64 x0, .string x1, .int .i64 x2, .slice a7 n7 p7, .slice a8 n8 p8], .agg #[.int .i64 x0, .string x1, .int .i64 x2, .slice a7 n7 p7, .slice a8 n8 p8]] w' fun e w'' => e = .returned (.bool true) ∧ Below w'.heap.size w' w'' := fun w' hb => by
          obtain ⟨e, he⟩ := HHO.out.expr
          exact expr_same (XE.stay (Stay.below (HB2.out.trans (hb.mono HB2.out.size))) _ _ he)
        have har : ∀ w', Below w2.heap.size w2 w' → Calls Try.prog 25 #[.slice a9 n9 p9, .slice a9 n9 p9] w' fun e w'' => e = .returned (.bool true) ∧ Below w'.heap.size w' w'' := fun w' hb => by
          obtain ⟨es, he⟩ := HHO.out.args
          exact args_same (he.stay (Stay.below (HB2.out.trans (hb.mono HB2.out.size))))
        have HEX := Lib.hid hex
        have HAR := Lib.hid har
        clear hex har
        have hl3 : n2 = n2 := rfl
        go_wp2_with (first
          | (go_at_call 23
             (with_reducible refine hn1.mono ?_)
             rintro e w3 ⟨rfl, hb3⟩
             clear fp0 fp1 fp2 fp3 fp4 fp5 fp6 fp7 fp8 fp9 fp10 fq0 fq1 fq2 fq3 fq4 fq5 fq6 fq7 fq8 fq9 fq10
             obtain ⟨fp0, fp1, fp2, fp3, fp4, fp5, fp6, fp7, fp8, fp9, fp10, fq0, fq1, fq2, fq3, fq4, fq5, fq6, fq7, fq8, fq9, fq10⟩ := HCC.out w3 hb3
             have HB3 := Lib.hid hb3
             have hex := HEX.out w3 hb3
             clear hb3)
          | (go_at_call 24
             (with_reducible refine hex.mono ?_)
             rintro e w4 ⟨rfl, hb4⟩
             have HB4 : Hid (Below w2.heap.size w2 w4) := Lib.hid (HB3.out.trans (hb4.mono HB3.out.size))
             clear fp0 fp1 fp2 fp3 fp4 fp5 fp6 fp7 fp8 fp9 fp10 fq0 fq1 fq2 fq3 fq4 fq5 fq6 fq7 fq8 fq9 fq10
             obtain ⟨fp0, fp1, fp2, fp3, fp4, fp5, fp6, fp7, fp8, fp9, fp10, fq0, fq1, fq2, fq3, fq4, fq5, fq6, fq7, fq8, fq9, fq10⟩ := HCC.out w4 HB4.out
             have har := HAR.out w4 HB4.out
             clear hb4)
          | (go_at_call 25
             (with_reducible refine har.mono ?_)
             rintro e w5 ⟨rfl, hb5⟩
             have HB5 : Hid (Below w2.heap.size w2 w5) := Lib.hid (HB4.out.trans (hb5.mono HB4.out.size))
             clear fp0 fp1 fp2 fp3 fp4 fp5 fp6 fp7 fp8 fp9 fp10 fq0 fq1 fq2 fq3 fq4 fq5 fq6 fq7 fq8 fq9 fq10
             obtain ⟨fp0, fp1, fp2, fp3, fp4, fp5, fp6, fp7, fp8, fp9, fp10, fq0, fq1, fq2, fq3, fq4, fq5, fq6, fq7, fq8, fq9, fq10⟩ := HCC.out w5 HB5.out
             clear hb5))
        clear fp0 fp1 fp2 fp3 fp4 fp5 fp6 fp7 fp8 fp9 fp10 fq0 fq1 fq2 fq3 fq4 fq5 fq6 fq7 fq8 fq9 fq10 hex har hn1
        go_loopw [8] (fun i wr2 => ∃ j : Nat, i = .int .i64 j ∧ j ≤ na ∧ Hid (Below w2.heap.size w2 wr2)) (fun i _ => na - (intOf i).toNat)
        case atStart => exact ⟨0, rfl, Nat.zero_le _, HB5⟩
        case round =>
          obtain ⟨j, rfl, hj, HX⟩ := hrel
          obtain ⟨-, -, -, -, -, -, -, -, -, -, fp10, -, -, -, -, -, -, -, -, -, -, fq10⟩ := HCC.out wr HX.out
          have HXX := Lib.hid (HB2.out.trans (HX.out.mono HB2.out.size))
          by_cases hlt3 : j < na
          · obtain ⟨t, ht⟩ : ∃ t, arms[j]? = some t := ⟨_, getE (by rw [HB.out.2.2.1]; exact hlt3)⟩
            obtain ⟨b3, off3, _, u3, he, _, _, _, hb3l, s1, s2, hb3v⟩ := (HB.out.1.stay (Stay.below HXX.out)).get j t ht
            obtain ⟨b4, off4, _, u4', he', _, _, _, hb4l, r1, r2, hb4v⟩ := (HB.out.2.1.stay (Stay.below HXX.out)).get j t ht
            simp only [Value.slice.injEq, true_and] at he he'
            obtain ⟨rfl, -, rfl⟩ := he
            obtain ⟨rfl, -, rfl⟩ := he'
            obtain ⟨con, body⟩ := t
            simp only [Arm.con, Arm.body] at s1 s2 hb3v r1 r2 hb4v
            obtain ⟨ab, cb, rfl, _, _⟩ := hb3v.any
            obtain ⟨ab', cb', rfl, _, _⟩ := hb4v.any
            have hsz : szB 1 body < k := by
              have h1 := szB_mem 1 (List.mem_of_getElem? HB.out.2.2.2.2)
              have h2 := szA_mem 1 (List.mem_of_getElem? ht)
              simp only [Stm.arms, Arm.body] at h1 h2
              have h3 := HK.out
              omega
            obtain ⟨nb, hnb⟩ : ∃ nb, body.length = nb := ⟨_, rfl⟩
            rw [hnb] at s2 r2 hb3v hb4v
            have hcl : ∀ w', Below wr.heap.size wr w' → Calls Try.prog 11 #[.slice ab nb cb, .slice ab' nb cb'] w' fun e w'' => e = .returned (.bool true) ∧ Below w'.heap.size w' w'' :=
              fun w' hb => IH.out body w' _ _ _ _ hsz (hb3v.stay (Stay.below hb)) (hb4v.stay (Stay.below hb))
            have hSS : ∀ w', Below wr.heap.size wr w' → w'.cell? ⟨p, 10, none⟩ = some (.slice (some ⟨b3, off3, none⟩) na cu) ∧ w'.cell? ⟨q, 10, none⟩ = some (.slice (some ⟨b4, off4, none⟩) na cu') ∧ w'.cell? ⟨b3, off3 + j * 2, none⟩ = some (.string con) ∧ w'.cell? ⟨b3, off3 + j * 2 + 1, none⟩ = some (.slice ab nb cb) ∧ w'.cell? ⟨b4, off4 + j * 2, none⟩ = some (.string con) ∧ w'.cell? ⟨b4, off4 + j * 2 + 1, none⟩ = some (.slice ab' nb cb') :=
              fun w' hb => ⟨(World.cell?_of_block (hb.block _ (World.block_lt_of_cell? wr _ fp10))).trans fp10, (World.cell?_of_block (hb.block _ (World.block_lt_of_cell? wr _ fq10))).trans fq10, (World.cell?_of_block (hb.block _ hb3l)).trans s1, (World.cell?_of_block (hb.block _ hb3l)).trans s2, (World.cell?_of_block (hb.block _ hb4l)).trans r1, (World.cell?_of_block (hb.block _ hb4l)).trans r2⟩
            have hc2 := hcl _ ((Below.refl wr.heap.size wr).drew)
            have hl5 : (0 : Int) ≤ (j : Int) := by omega
            have hl6 : (j : Int) < (na : Int) := by omega
            have hs2 : (con.toList == con.toList) = true := by simp
            clear hb3v hb4v hsz ht hnb
            go_wp2
            go_region_held3 (fun w' => w'.cell? ⟨p, 10, none⟩ = some (.slice (some ⟨b3, off3, none⟩) na cu) ∧ w'.cell? ⟨q, 10, none⟩ = some (.slice (some ⟨b4, off4, none⟩) na cu') ∧ w'.cell? ⟨b3, off3 + j * 2, none⟩ = some (.string con) ∧ w'.cell? ⟨b3, off3 + j * 2 + 1, none⟩ = some (.slice ab nb cb) ∧ w'.cell? ⟨b4, off4 + j * 2, none⟩ = some (.string con) ∧ w'.cell? ⟨b4, off4 + j * 2 + 1, none⟩ = some (.slice ab' nb cb'))
              (first | (exact hS2) | (exact hSS _ (Below.refl _ _)) | (exact hSS _ ((Below.refl wr.heap.size wr).drew)))
              (first
                | (go_at_call 11
                   (first | (with_reducible refine hc2.mono ?_) | (refine hc2.mono ?_))
                   rintro e w6 ⟨rfl, hb6⟩
                   have hb6' : Below wr.heap.size wr w6 := ((Below.refl wr.heap.size wr).drew).trans hb6
                   have hS2 := hSS w6 hb6')
                | fail)
            have HX6 : Hid (Below w2.heap.size w2 w6) := Lib.hid (HX.out.trans (hb6'.mono HX.out.size))
            clear hb6' hb6 hSS hc2 hcl fp10 fq10 s1 s2 r1 r2 hS2
            go_wp2
            go_roundw
            case rel => exact ⟨j + 1, by simp, by omega, HX6⟩
            case measure => simp [intOf]; omega
          · go_wp2
            go_roundw
            case rel => exact ⟨m + 1, by simp, by omega, Lib.hid (HW.out.trans (HXX.out.mono HW.out.size))⟩
            case measure => simp [intOf]; omega
      · refine gen_world' (S := fun w2 => (∃ z, wr.heap.size = z ∧ Below z wr w2) ∧ w2.heap[wr.heap.size + 1]? = some (.cells #[.int .i64 op, .string name, .slice a2 n2 p2, .int .i64 i3, .int .i64 x0, .string x1, .int .i64 x2, .slice a7 n7 p7, .slice a8 n8 p8, .slice a9 n9 p9, .slice au na cu] 38 (0, 0)) ∧ w2.heap[wr.heap.size]? = some (.cells #[.int .i64 op, .string name, .slice a2 n2 p2, .int .i64 i3, .int .i64 x0, .string x1, .int .i64 x2, .slice a7 n7 p7, .slice a8 n8 p8, .slice a9 n9 p9, .slice au' na cu'] 38 (0, 0))) ⟨⟨_, rfl, (((Below.refl wr.heap.size wr).alloc (Nat.le_refl _) _).alloc (by simp) _).drew⟩, (heap_alloc2_new wr _ _), (heap_alloc2_old wr _ _)⟩ ?_
        obtain ⟨p, hp⟩ : ∃ p, wr.heap.size + 1 = p := ⟨_, rfl⟩
        obtain ⟨q, hq⟩ : ∃ q, wr.heap.size = q := ⟨_, rfl⟩
        rw [hp, hq]
        rintro w2 ⟨⟨z, hz, hb2⟩, hp2, hq2⟩
        have HB2 : Hid (Below wr.heap.size wr w2) := Lib.hid (by first | (rw [hp, hz]; exact hb2) | (rw [hq, hz]; exact hb2))
        have HP2 := Lib.hid (And.intro hp2 hq2)
        clear hb2 hz hp2 hq2 hp hq z
        have hCC : ∀ w', Below w2.heap.size w2 w' → w'.cell? ⟨p, 0, none⟩ = some (.int .i64 op) ∧ w'.cell? ⟨p, 1, none⟩ = some (.string name) ∧ w'.cell? ⟨p, 2, none⟩ = some (.slice a2 n2 p2) ∧ w'.cell? ⟨p, 3, none⟩ = some (.int .i64 i3) ∧ w'.cell? ⟨p, 4, none⟩ = some (.int .i64 x0) ∧ w'.cell? ⟨p, 5, none⟩ = some (.string x1) ∧ w'.cell? ⟨p, 6, none⟩ = some (.int .i64 x2) ∧ w'.cell? ⟨p, 7, none⟩ = some (.slice a7 n7 p7) ∧ w'.cell? ⟨p, 8, none⟩ = some (.slice a8 n8 p8) ∧ w'.cell? ⟨p, 9, none⟩ = some (.slice a9 n9 p9) ∧ w'.cell? ⟨p, 10, none⟩ = some (.slice au na cu) ∧ w'.cell? ⟨q, 0, none⟩ = some (.int .i64 op) ∧ w'.cell? ⟨q, 1, none⟩ = some (.string name) ∧ w'.cell? ⟨q, 2, none⟩ = some (.slice a2 n2 p2) ∧ w'.cell? ⟨q, 3, none⟩ = some (.int .i64 i3) ∧ w'.cell? ⟨q, 4, none⟩ = some (.int .i64 x0) ∧ w'.cell? ⟨q, 5, none⟩ = some (.string x1) ∧ w'.cell? ⟨q, 6, none⟩ = some (.int .i64 x2) ∧ w'.cell? ⟨q, 7, none⟩ = some (.slice a7 n7 p7) ∧ w'.cell? ⟨q, 8, none⟩ = some (.slice a8 n8 p8) ∧ w'.cell? ⟨q, 9, none⟩ = some (.slice a9 n9 p9) ∧ w'.cell? ⟨q, 10, none⟩ = some (.slice au' na cu') := fun w' hb => ⟨by rw [cell_of_row _ p 0 _ 38 (0, 0) ((hb.block _ (Array.getElem?_eq_some_iff.1 HP2.out.1).1).trans HP2.out.1)]; rfl, by rw [cell_of_row _ p 1 _ 38 (0, 0) ((hb.block _ (Array.getElem?_eq_some_iff.1 HP2.out.1).1).trans HP2.out.1)]; rfl, by rw [cell_of_row _ p 2 _ 38 (0, 0) ((hb.block _ (Array.getElem?_eq_some_iff.1 HP2.out.1).1).trans HP2.out.1)]; rfl, by rw [cell_of_row _ p 3 _ 38 (0, 0) ((hb.block _ (Array.getElem?_eq_some_iff.1 HP2.out.1).1).trans HP2.out.1)]; rfl, by rw [cell_of_row _ p 4 _ 38 (0, 0) ((hb.block _ (Array.getElem?_eq_some_iff.1 HP2.out.1).1).trans HP2.out.1)]; rfl, by rw [cell_of_row _ p 5 _ 38 (0, 0) ((hb.block _ (Array.getElem?_eq_some_iff.1 HP2.out.1).1).trans HP2.out.1)]; rfl, by rw [cell_of_row _ p 6 _ 38 (0, 0) ((hb.block _ (Array.getElem?_eq_some_iff.1 HP2.out.1).1).trans HP2.out.1)]; rfl, by rw [cell_of_row _ p 7 _ 38 (0, 0) ((hb.block _ (Array.getElem?_eq_some_iff.1 HP2.out.1).1).trans HP2.out.1)]; rfl, by rw [cell_of_row _ p 8 _ 38 (0, 0) ((hb.block _ (Array.getElem?_eq_some_iff.1 HP2.out.1).1).trans HP2.out.1)]; rfl, by rw [cell_of_row _ p 9 _ 38 (0, 0) ((hb.block _ (Array.getElem?_eq_some_iff.1 HP2.out.1).1).trans HP2.out.1)]; rfl, by rw [cell_of_row _ p 10 _ 38 (0, 0) ((hb.block _ (Array.getElem?_eq_some_iff.1 HP2.out.1).1).trans HP2.out.1)]; rfl, by rw [cell_of_row _ q 0 _ 38 (0, 0) ((hb.block _ (Array.getElem?_eq_some_iff.1 HP2.out.2).1).trans HP2.out.2)]; rfl, by rw [cell_of_row _ q 1 _ 38 (0, 0) ((hb.block _ (Array.getElem?_eq_some_iff.1 HP2.out.2).1).trans HP2.out.2)]; rfl, by rw [cell_of_row _ q 2 _ 38 (0, 0) ((hb.block _ (Array.getElem?_eq_some_iff.1 HP2.out.2).1).trans HP2.out.2)]; rfl, by rw [cell_of_row _ q 3 _ 38 (0, 0) ((hb.block _ (Array.getElem?_eq_some_iff.1 HP2.out.2).1).trans HP2.out.2)]; rfl, by rw [cell_of_row _ q 4 _ 38 (0, 0) ((hb.block _ (Array.getElem?_eq_some_iff.1 HP2.out.2).1).trans HP2.out.2)]; rfl, by rw [cell_of_row _ q 5 _ 38 (0, 0) ((hb.block _ (Array.getElem?_eq_some_iff.1 HP2.out.2).1).trans HP2.out.2)]; rfl, by rw [cell_of_row _ q 6 _ 38 (0, 0) ((hb.block _ (Array.getElem?_eq_some_iff.1 HP2.out.2).1).trans HP2.out.2)]; rfl, by rw [cell_of_row _ q 7 _ 38 (0, 0) ((hb.block _ (Array.getElem?_eq_some_iff.1 HP2.out.2).1).trans HP2.out.2)]; rfl, by rw [cell_of_row _ q 8 _ 38 (0, 0) ((hb.block _ (Array.getElem?_eq_some_iff.1 HP2.out.2).1).trans HP2.out.2)]; rfl, by rw [cell_of_row _ q 9 _ 38 (0, 0) ((hb.block _ (Array.getElem?_eq_some_iff.1 HP2.out.2).1).trans HP2.out.2)]; rfl, by rw [cell_of_row _ q 10 _ 38 (0, 0) ((hb.block _ (Array.getElem?_eq_some_iff.1 HP2.out.2).1).trans HP2.out.2)]; rfl⟩
        have HCC := Lib.hid hCC
        obtain ⟨fp0, fp1, fp2, fp3, fp4, fp5, fp6, fp7, fp8, fp9, fp10, fq0, fq1, fq2, fq3, fq4, fq5, fq6, fq7, fq8, fq9, fq10⟩ := hCC w2 (Below.refl _ _)
        have hs1 : (name.toList == name.toList) = true := by simp
        have hn1 : Calls Try.prog 23 #[.slice a2 n2 p2, .slice a2 n2 p2] w2 (fun e w'' => e = .returned (.bool true) ∧ Below w2.heap.size w2 w'') := names_same (HB.out.2.2.2.1.names.stay (Stay.below HB2.out))
        have HHO := Lib.hid HB.out.2.2.2.1
        clear hCC c0 c1 c2 c3 c4 c5 c6 c7 c8 c9 c10 d0 d1 d2 d3 d4 d5 d6 d7 d8 d9 d10
        have hex : ∀ w', Below w2.heap.size w2 w' → Calls Try.prog 24 #[.agg #[.int .i64 x0, .string x1, .int .i64 x2, .slice a7 n7 p7, .slice a8 n8 p8], .agg #[.int .i64 x0, .string x1, .int .i64 x2, .slice a7 n7 p7, .slice a8 n8 p8]] w' fun e w'' => e = .returned (.bool true) ∧ Below w'.heap.size w' w'' := fun w' hb => by
          obtain ⟨e, he⟩ := HHO.out.expr
          exact expr_same (XE.stay (Stay.below (HB2.out.trans (hb.mono HB2.out.size))) _ _ he)
        have har : ∀ w', Below w2.heap.size w2 w' → Calls Try.prog 25 #[.slice a9 n9 p9, .slice a9 n9 p9] w' fun e w'' => e = .returned (.bool true) ∧ Below w'.heap.size w' w'' := fun w' hb => by
          obtain ⟨es, he⟩ := HHO.out.args
          exact args_same (he.stay (Stay.below (HB2.out.trans (hb.mono HB2.out.size))))
        have HEX := Lib.hid hex
        have HAR := Lib.hid har
        clear hex har
        have hl3 : n2 = n2 := rfl
        go_wp2_with (first
          | (go_at_call 23
             (with_reducible refine hn1.mono ?_)
             rintro e w3 ⟨rfl, hb3⟩
             clear fp0 fp1 fp2 fp3 fp4 fp5 fp6 fp7 fp8 fp9 fp10 fq0 fq1 fq2 fq3 fq4 fq5 fq6 fq7 fq8 fq9 fq10
             obtain ⟨fp0, fp1, fp2, fp3, fp4, fp5, fp6, fp7, fp8, fp9, fp10, fq0, fq1, fq2, fq3, fq4, fq5, fq6, fq7, fq8, fq9, fq10⟩ := HCC.out w3 hb3
             have HB3 := Lib.hid hb3
             have hex := HEX.out w3 hb3
             clear hb3)
          | (go_at_call 24
             (with_reducible refine hex.mono ?_)
             rintro e w4 ⟨rfl, hb4⟩
             have HB4 : Hid (Below w2.heap.size w2 w4) := Lib.hid (HB3.out.trans (hb4.mono HB3.out.size))
             clear fp0 fp1 fp2 fp3 fp4 fp5 fp6 fp7 fp8 fp9 fp10 fq0 fq1 fq2 fq3 fq4 fq5 fq6 fq7 fq8 fq9 fq10
             obtain ⟨fp0, fp1, fp2, fp3, fp4, fp5, fp6, fp7, fp8, fp9, fp10, fq0, fq1, fq2, fq3, fq4, fq5, fq6, fq7, fq8, fq9, fq10⟩ := HCC.out w4 HB4.out
             have har := HAR.out w4 HB4.out
             clear hb4)
          | (go_at_call 25
             (with_reducible refine har.mono ?_)
             rintro e w5 ⟨rfl, hb5⟩
             have HB5 : Hid (Below w2.heap.size w2 w5) := Lib.hid (HB4.out.trans (hb5.mono HB4.out.size))
             clear fp0 fp1 fp2 fp3 fp4 fp5 fp6 fp7 fp8 fp9 fp10 fq0 fq1 fq2 fq3 fq4 fq5 fq6 fq7 fq8 fq9 fq10
             obtain ⟨fp0, fp1, fp2, fp3, fp4, fp5, fp6, fp7, fp8, fp9, fp10, fq0, fq1, fq2, fq3, fq4, fq5, fq6, fq7, fq8, fq9, fq10⟩ := HCC.out w5 HB5.out
             clear hb5))
        clear fp0 fp1 fp2 fp3 fp4 fp5 fp6 fp7 fp8 fp9 fp10 fq0 fq1 fq2 fq3 fq4 fq5 fq6 fq7 fq8 fq9 fq10 hex har hn1
        go_loopw [8] (fun i wr2 => ∃ j : Nat, i = .int .i64 j ∧ j ≤ na ∧ Hid (Below w2.heap.size w2 wr2)) (fun i _ => na - (intOf i).toNat)
        case atStart => exact ⟨0, rfl, Nat.zero_le _, HB5⟩
        case round =>
          obtain ⟨j, rfl, hj, HX⟩ := hrel
          obtain ⟨-, -, -, -, -, -, -, -, -, -, fp10, -, -, -, -, -, -, -, -, -, -, fq10⟩ := HCC.out wr HX.out
          have HXX := Lib.hid (HB2.out.trans (HX.out.mono HB2.out.size))
          by_cases hlt3 : j < na
          · obtain ⟨t, ht⟩ : ∃ t, arms[j]? = some t := ⟨_, getE (by rw [HB.out.2.2.1]; exact hlt3)⟩
            obtain ⟨b3, off3, _, u3, he, _, _, _, hb3l, s1, s2, hb3v⟩ := (HB.out.1.stay (Stay.below HXX.out)).get j t ht
            obtain ⟨b4, off4, _, u4', he', _, _, _, hb4l, r1, r2, hb4v⟩ := (HB.out.2.1.stay (Stay.below HXX.out)).get j t ht
            simp only [Value.slice.injEq, true_and] at he he'
            obtain ⟨rfl, -, rfl⟩ := he
            obtain ⟨rfl, -, rfl⟩ := he'
            obtain ⟨con, body⟩ := t
            simp only [Arm.con, Arm.body] at s1 s2 hb3v r1 r2 hb4v
            obtain ⟨ab, cb, rfl, _, _⟩ := hb3v.any
            obtain ⟨ab', cb', rfl, _, _⟩ := hb4v.any
            have hsz : szB 1 body < k := by
              have h1 := szB_mem 1 (List.mem_of_getElem? HB.out.2.2.2.2)
              have h2 := szA_mem 1 (List.mem_of_getElem? ht)
              simp only [Stm.arms, Arm.body] at h1 h2
              have h3 := HK.out
              omega
            obtain ⟨nb, hnb⟩ : ∃ nb, body.length = nb := ⟨_, rfl⟩
            rw [hnb] at s2 r2 hb3v hb4v
            have hcl : ∀ w', Below wr.heap.size wr w' → Calls Try.prog 11 #[.slice ab nb cb, .slice ab' nb cb'] w' fun e w'' => e = .returned (.bool true) ∧ Below w'.heap.size w' w'' :=
              fun w' hb => IH.out body w' _ _ _ _ hsz (hb3v.stay (Stay.below hb)) (hb4v.stay (Stay.below hb))
            have hSS : ∀ w', Below wr.heap.size wr w' → w'.cell? ⟨p, 10, none⟩ = some (.slice (some ⟨b3, off3, none⟩) na cu) ∧ w'.cell? ⟨q, 10, none⟩ = some (.slice (some ⟨b4, off4, none⟩) na cu') ∧ w'.cell? ⟨b3, off3 + j * 2, none⟩ = some (.string con) ∧ w'.cell? ⟨b3, off3 + j * 2 + 1, none⟩ = some (.slice ab nb cb) ∧ w'.cell? ⟨b4, off4 + j * 2, none⟩ = some (.string con) ∧ w'.cell? ⟨b4, off4 + j * 2 + 1, none⟩ = some (.slice ab' nb cb') :=
              fun w' hb => ⟨(World.cell?_of_block (hb.block _ (World.block_lt_of_cell? wr _ fp10))).trans fp10, (World.cell?_of_block (hb.block _ (World.block_lt_of_cell? wr _ fq10))).trans fq10, (World.cell?_of_block (hb.block _ hb3l)).trans s1, (World.cell?_of_block (hb.block _ hb3l)).trans s2, (World.cell?_of_block (hb.block _ hb4l)).trans r1, (World.cell?_of_block (hb.block _ hb4l)).trans r2⟩
            have hc2 := hcl _ ((Below.refl wr.heap.size wr).drew)
            have hl5 : (0 : Int) ≤ (j : Int) := by omega
            have hl6 : (j : Int) < (na : Int) := by omega
            have hs2 : (con.toList == con.toList) = true := by simp
            clear hb3v hb4v hsz ht hnb
            go_wp2
            go_region_held3 (fun w' => w'.cell? ⟨p, 10, none⟩ = some (.slice (some ⟨b3, off3, none⟩) na cu) ∧ w'.cell? ⟨q, 10, none⟩ = some (.slice (some ⟨b4, off4, none⟩) na cu') ∧ w'.cell? ⟨b3, off3 + j * 2, none⟩ = some (.string con) ∧ w'.cell? ⟨b3, off3 + j * 2 + 1, none⟩ = some (.slice ab nb cb) ∧ w'.cell? ⟨b4, off4 + j * 2, none⟩ = some (.string con) ∧ w'.cell? ⟨b4, off4 + j * 2 + 1, none⟩ = some (.slice ab' nb cb'))
              (first | (exact hS2) | (exact hSS _ (Below.refl _ _)) | (exact hSS _ ((Below.refl wr.heap.size wr).drew)))
              (first
                | (go_at_call 11
                   (first | (with_reducible refine hc2.mono ?_) | (refine hc2.mono ?_))
                   rintro e w6 ⟨rfl, hb6⟩
                   have hb6' : Below wr.heap.size wr w6 := ((Below.refl wr.heap.size wr).drew).trans hb6
                   have hS2 := hSS w6 hb6')
                | fail)
            have HX6 : Hid (Below w2.heap.size w2 w6) := Lib.hid (HX.out.trans (hb6'.mono HX.out.size))
            clear hb6' hb6 hSS hc2 hcl fp10 fq10 s1 s2 r1 r2 hS2
            go_wp2
            go_roundw
            case rel => exact ⟨j + 1, by simp, by omega, HX6⟩
            case measure => simp [intOf]; omega
          · go_wp2
            go_roundw
            case rel => exact ⟨m + 1, by simp, by omega, Lib.hid (HW.out.trans (HXX.out.mono HW.out.size))⟩
            case measure => simp [intOf]; omega
    · go_wp2
      go_ret
      exact ⟨rfl, HW.out⟩
theorem same_all : ∀ k, SameC k
  | 0 => fun l w A B v v' h => absurd h (Nat.not_lt_zero _)
  | k + 1 => same_step (same_all k)
theorem same_any {w : World} {A B : Nat → Prop} {v v' : Value} {l : List Stm} (h : VB w A v l) (h' : VB w B v' l) : Calls Try.prog 11 #[v, v'] w fun e w' => e = .returned (.bool true) ∧ Below w.heap.size w w' :=
  same_all _ l w A B v v' (Nat.lt_succ_self _) h h'
end Go.Proofs.Ytnbinejghkhcjaa.Fu
