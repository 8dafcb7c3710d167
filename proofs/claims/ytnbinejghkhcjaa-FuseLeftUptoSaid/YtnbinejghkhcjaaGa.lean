/- The walk of the law's apart, where nothing is left that could be put together. -/
import Derived.Test.YtnbinejghkhcjaaFz
import Derived.Test.YtnbinejghkhcjaaGb
import Derived.BigQuiet
import Derived.StillTailTactics
namespace Go.Proofs.Ytnbinejghkhcjaa.Fu
open Go.RowKit
set_option linter.unusedVariables false
set_option linter.unusedSimpArgs false
set_option maxHeartbeats 4000000

theorem apJ_cons (x y : Stm) (r : List Stm) : apJ (x :: y :: r) = (pairApart x y && apJ (y :: r)) := by rw [apJ]
theorem apJ_at {l : List Stm} : ∀ {m : Nat} {x y : Stm}, apJ l = true → l[m]? = some x → l[m + 1]? = some y → pairApart x y = true := by
  induction l with
  | nil => intro m x y _ h; simp at h
  | cons a r ih =>
    intro m x y h hx hy
    cases r with
    | nil => simp at hy
    | cons c q =>
      rw [apJ_cons] at h
      simp only [Bool.and_eq_true] at h
      cases m with
      | zero =>
        simp at hx hy; subst hx; subst hy; exact h.1
      | succ m => exact ih h.2 (by simpa using hx) (by simpa using hy)
theorem apart_arm {l : List Stm} {s : Stm} (h : apart l = true) (hs : s ∈ l) (h5 : s.op = 5) : ∀ a ∈ s.arms, apart a.body = true := by
  unfold apart at h
  simp only [Bool.and_eq_true] at h
  rw [apB_eq, List.all_eq_true] at h
  have h1 := h.2 s hs
  rw [apS_eq, if_pos h5, List.all_eq_true] at h1
  exact h1
def ApC (k : Nat) : Prop := ∀ (l : List Stm) (w : World) (A : Nat → Prop) (v : Value), szB 1 l < k → apart l = true → VB w A v l → Calls Try.prog 14 #[v] w fun e w' => e = .returned (.bool true) ∧ Below w.heap.size w w'
set_option maxRecDepth 100000 in
theorem ap_step {k : Nat} (ih : ApC k) : ApC (k + 1) := by
  intro l W A v hk hap h
  obtain ⟨a, cap, rfl, h2, h3⟩ := h.any
  have hu : cap ≤ 9223372036854775807 := by unfold maxLen at h3; exact h3
  obtain ⟨n, hn⟩ : ∃ n, l.length = n := ⟨_, rfl⟩
  rw [hn] at h2 h ⊢
  have HV := Lib.hid h
  have HK := Lib.hid (And.intro hk hap)
  have HN := Lib.hid hn
  have IH := Lib.hid ih
  clear hn h hk ih hap
  go_enter Try.func14, Try.ntmps14
  go_wp2
  go_loopw [3] (fun i wr => ∃ m : Nat, i = .int .i64 m ∧ m ≤ n ∧ Hid (Below W.heap.size W wr)) (fun i _ => n - (intOf i).toNat)
  case atStart => exact ⟨0, rfl, Nat.zero_le _, Lib.hid (Below.refl _ _)⟩
  case round =>
    obtain ⟨m, rfl, hm, HW⟩ := hrel
    by_cases hlt : m < n
    · have hml : m < l.length := by rw [HN.out]; exact hlt
      obtain ⟨y, hy⟩ : ∃ y, l[m]? = some y := ⟨_, getE hml⟩
      obtain ⟨b, off, _, u, he, _, _, _, hbs, hat, hho, hva⟩ := (HV.out.stay (Stay.below HW.out)).get m y hy
      simp only [Value.slice.injEq] at he
      obtain ⟨rfl, hnl, rfl⟩ := he
      obtain ⟨op, hop⟩ : ∃ op, y.hd.op = op := ⟨_, rfl⟩
      obtain ⟨name, hname⟩ : ∃ name, y.hd.name = name := ⟨_, rfl⟩
      obtain ⟨arms, harms⟩ : ∃ arms, y.arms = arms := ⟨_, rfl⟩
      have c0 := hat.c0
      have c1 := hat.c1
      have c10 := hat.c10
      rw [hop] at c0
      rw [hname] at c1
      rw [harms] at hva
      obtain ⟨au, cu, rfl, hcu1, hcu2⟩ := hva.any
      have hcu3 : cu ≤ 9223372036854775807 := by unfold maxLen at hcu2; exact hcu2
      obtain ⟨na, hna⟩ : ∃ na, arms.length = na := ⟨_, rfl⟩
      rw [hna] at c10 hcu1
      have HB := Lib.hid (And.intro hva (And.intro hna (And.intro hy (And.intro hop (And.intro hname harms)))))
      clear hva hna hy hop hname harms hat hho hnl hcu2
      rcases Nat.eq_zero_or_pos m with hm0 | hm0
      · subst hm0
        simp only [Nat.zero_mul, Nat.add_zero] at c0 c1 c10
        have hl1 : (0 : Int) < (n : Int) := by omega
        have hd0 : decide ((0 : Int) > 0) = false := by decide
        by_cases o5 : op = 5
        · subst o5
          go_wp2
          go_quiet (fail)
          first
            | (refine gen_world' (S := fun w2 => Below wr.heap.size wr w2) (by first | exact below_drewN _ _ _ | exact hbz) ?_)
            | (refine gen_world (S := fun w2 => Below wr.heap.size wr w2) (by first | exact below_drewN _ _ _ | exact hbz) ?_)
          intro w2 hb2
          have HB2 := Lib.hid hb2
          clear hb2
          try go_wp2
          go_loopw [4] (fun i wr2 => ∃ j : Nat, i = .int .i64 j ∧ j ≤ na ∧ Hid (Below w2.heap.size w2 wr2)) (fun i _ => na - (intOf i).toNat)
          case atStart => exact ⟨0, rfl, Nat.zero_le _, Lib.hid (Below.refl _ _)⟩
          case round =>
            obtain ⟨j, rfl, hj, HX⟩ := hrel
            have HXX := Lib.hid (HB2.out.trans (HX.out.mono HB2.out.size))
            have HWX := Lib.hid (HW.out.trans (HXX.out.mono HW.out.size))
            have e0 := (World.cell?_of_block (a := ⟨b, off, none⟩) (HXX.out.block b hbs)).trans c0
            have e10 := (World.cell?_of_block (a := ⟨b, off + 10, none⟩) (HXX.out.block b hbs)).trans c10
            by_cases hlt2 : j < na
            · obtain ⟨t, ht⟩ : ∃ t, arms[j]? = some t := ⟨_, getE (by rw [HB.out.2.1]; exact hlt2)⟩
              obtain ⟨b3, off3, _, u3, he, _, _, _, hb3l, s1, s2, hb3v⟩ := (HB.out.1.stay (Stay.below HXX.out)).get j t ht
              simp only [Value.slice.injEq, true_and] at he
              obtain ⟨rfl, -, rfl⟩ := he
              have hsz : szB 1 t.body < k := by
                have h1 := szB_mem 1 (List.mem_of_getElem? HB.out.2.2.1)
                rw [HB.out.2.2.2.2.2] at h1
                have h2 := szA_mem 1 (List.mem_of_getElem? ht)
                have h3 := HK.out.1
                omega
              have hapt : apart t.body = true := apart_arm HK.out.2 (List.mem_of_getElem? HB.out.2.2.1) HB.out.2.2.2.1 t (by rw [HB.out.2.2.2.2.2]; exact List.mem_of_getElem? ht)
              have hcl := IH.out t.body wr A u3 hsz hapt hb3v
              clear ht hsz hapt hb3v
              go_wp2_with (go_at_call 14; (with_reducible refine hcl.mono ?_); rintro e w4 ⟨rfl, hb4⟩; replace hb4 := Lib.hid hb4)
              refine ⟨?rel, ?measure⟩
              case rel =>
                first
                  | (exact ⟨j + 1, by simp, by omega, Lib.hid (HX.out.trans (hb4.out.mono HX.out.size))⟩)
                  | (refine ⟨_, _, _, _, _, _, _, _, _, _, _, _, _, _, _, _, _, _, _, _, _, _, _, _, _, _, _, _, _, _, _, ⟨j + 1, ?_, by omega, Lib.hid (HX.out.trans (hb4.out.mono HX.out.size))⟩, rfl⟩; simp; done)
                  | (refine ⟨_, _, _, _, _, _, _, _, _, _, _, _, _, _, _, _, _, _, _, _, _, _, _, _, _, _, _, _, _, _, ⟨j + 1, ?_, by omega, Lib.hid (HX.out.trans (hb4.out.mono HX.out.size))⟩, rfl⟩; simp; done)
                  | (refine ⟨_, _, _, _, _, _, _, _, _, _, _, _, _, _, _, _, _, _, _, _, _, _, _, _, _, _, _, _, _, ⟨j + 1, ?_, by omega, Lib.hid (HX.out.trans (hb4.out.mono HX.out.size))⟩, rfl⟩; simp; done)
                  | (refine ⟨_, _, _, _, _, _, _, _, _, _, _, _, _, _, _, _, _, _, _, _, _, _, _, _, _, _, _, _, ⟨j + 1, ?_, by omega, Lib.hid (HX.out.trans (hb4.out.mono HX.out.size))⟩, rfl⟩; simp; done)
                  | (refine ⟨_, _, _, _, _, _, _, _, _, _, _, _, _, _, _, _, _, _, _, _, _, _, _, _, _, _, _, ⟨j + 1, ?_, by omega, Lib.hid (HX.out.trans (hb4.out.mono HX.out.size))⟩, rfl⟩; simp; done)
                  | (refine ⟨_, _, _, _, _, _, _, _, _, _, _, _, _, _, _, _, _, _, _, _, _, _, _, _, _, _, ⟨j + 1, ?_, by omega, Lib.hid (HX.out.trans (hb4.out.mono HX.out.size))⟩, rfl⟩; simp; done)
                  | (refine ⟨_, _, _, _, _, _, _, _, _, _, _, _, _, _, _, _, _, _, _, _, _, _, _, _, _, ⟨j + 1, ?_, by omega, Lib.hid (HX.out.trans (hb4.out.mono HX.out.size))⟩, rfl⟩; simp; done)
                  | (refine ⟨_, _, _, _, _, _, _, _, _, _, _, _, _, _, _, _, _, _, _, _, _, _, _, _, ⟨j + 1, ?_, by omega, Lib.hid (HX.out.trans (hb4.out.mono HX.out.size))⟩, rfl⟩; simp; done)
                  | (refine ⟨_, _, _, _, _, _, _, _, _, _, _, _, _, _, _, _, _, _, _, _, _, _, _, _, _, _, _, _, _, _, _, _, ⟨j + 1, ?_, by omega, Lib.hid (HX.out.trans (hb4.out.mono HX.out.size))⟩, rfl⟩; simp; done)
                  | (refine ⟨_, _, _, _, _, _, _, _, _, _, _, _, _, _, _, _, _, _, _, _, _, _, _, _, _, _, _, _, _, _, _, _, _, ⟨j + 1, ?_, by omega, Lib.hid (HX.out.trans (hb4.out.mono HX.out.size))⟩, rfl⟩; simp; done)
              case measure => simp [intOf]; omega
            · go_wp2
              refine ⟨⟨1, by simp, by omega, HWX⟩, by simp [intOf]; omega⟩
        · have d5 : decide (op = 5) = false := decide_eq_false o5
          have d5' : (op == 5) = false := by simpa using o5
          go_wp2
          go_quiet (fail)
          first
            | (refine gen_world' (S := fun w2 => Below wr.heap.size wr w2) (by first | exact below_drewN _ _ _ | exact hbz) ?_)
            | (refine gen_world (S := fun w2 => Below wr.heap.size wr w2) (by first | exact below_drewN _ _ _ | exact hbz) ?_)
          intro w2 hb2
          have HB2 := Lib.hid hb2
          clear hb2
          try go_wp2
          go_loopw [4] (fun i wr2 => ∃ j : Nat, i = .int .i64 j ∧ j ≤ na ∧ Hid (Below w2.heap.size w2 wr2)) (fun i _ => na - (intOf i).toNat)
          case atStart => exact ⟨0, rfl, Nat.zero_le _, Lib.hid (Below.refl _ _)⟩
          case round =>
            obtain ⟨j, rfl, hj, HX⟩ := hrel
            have HXX := Lib.hid (HB2.out.trans (HX.out.mono HB2.out.size))
            have HWX := Lib.hid (HW.out.trans (HXX.out.mono HW.out.size))
            have e0 := (World.cell?_of_block (a := ⟨b, off, none⟩) (HXX.out.block b hbs)).trans c0
            have e10 := (World.cell?_of_block (a := ⟨b, off + 10, none⟩) (HXX.out.block b hbs)).trans c10
            by_cases hlt2 : j < na
            · go_wp2
              refine ⟨⟨j + 1, by simp, by omega, HX⟩, by simp [intOf]; omega⟩
            · go_wp2
              refine ⟨⟨1, by simp, by omega, HWX⟩, by simp [intOf]; omega⟩
      · obtain ⟨m, rfl⟩ : ∃ m', m = m' + 1 := ⟨m - 1, by omega⟩
        obtain ⟨x, hx⟩ : ∃ x, l[m]? = some x := ⟨_, getE (by omega)⟩
        obtain ⟨b', off', _, u', he, _, _, _, _, hat', _, _⟩ := (HV.out.stay (Stay.below HW.out)).get m x hx
        simp only [Value.slice.injEq, Option.some.injEq, Addr.mk.injEq, and_true] at he
        obtain ⟨⟨rfl, rfl⟩, -, -⟩ := he
        obtain ⟨opx, hopx⟩ : ∃ op, x.hd.op = op := ⟨_, rfl⟩
        obtain ⟨namex, hnamex⟩ : ∃ name, x.hd.name = name := ⟨_, rfl⟩
        have d0 := hat'.c0
        have d1 := hat'.c1
        rw [hopx] at d0
        rw [hnamex] at d1
        have hpa := apJ_at (by have := HK.out.2; unfold apart at this; simp only [Bool.and_eq_true] at this; exact this.1) hx HB.out.2.2.1
        have hsub := (HV.out.stay (Stay.below HW.out)).sub hx
        have hsc : ∀ w', Below wr.heap.size wr w' → Calls Try.prog 30 #[.slice (some ⟨b, off + m * 11, none⟩) 1 (cap - m), .string name] w' fun e w'' => e = .returned (.bool (setsB name [x])) ∧ Below w'.heap.size w' w'' := fun w' hb => rsets_any (hsub.stay (Stay.below hb)) name
        have hcd : op ≠ 5 ∨ opx ≠ 5 ∨ ¬ name = namex ∨ setsB name [x] = true := by
          unfold pairApart at hpa
          have e1 : y.op = op := HB.out.2.2.2.1
          have e2 : y.name = name := HB.out.2.2.2.2.1
          have e3 : x.op = opx := hopx
          have e4 : x.name = namex := hnamex
          rw [e1, e2, e3, e4] at hpa
          by_cases q1 : op = 5
          · by_cases q2 : opx = 5
            · by_cases q3 : name = namex
              · rw [decide_eq_true ⟨q1, q2, q3⟩] at hpa
                simp at hpa
                exact Or.inr (Or.inr (Or.inr hpa))
              · exact Or.inr (Or.inr (Or.inl q3))
            · exact Or.inr (Or.inl q2)
          · exact Or.inl q1
        have hl0 : (0 : Int) < ((m + 1 : Nat) : Int) := by omega
        have hl1 : ((m + 1 : Nat) : Int) < (n : Int) := by omega
        have hl2 : (m : Int) + 1 < (n : Int) := by omega
        have hl3 : (0 : Int) ≤ (m : Int) + 1 := by omega
        have hl4 : (0 : Int) ≤ (m : Int) := by omega
        have hl5 : (m : Int) < (n : Int) := by omega
        have hl6 : (0 : Int) < (m : Int) + 1 := by omega
        clear hpa hsub hx hopx hnamex hat'
        have HM := Lib.hid hm0
        clear hm0
        have hl7 : (m : Int) ≤ (m : Int) + 1 := by omega
        have hl8 : (m : Int) + 1 ≤ (cap : Int) := by omega
        have hl9 : m + 1 ≤ cap := by omega
        have hwr : IntKind.i64.wrap (m : Int) = (m : Int) := by rw [IntKind.wrap_i64]; omega
        have hd0 : decide ((m : Int) + 1 > 0) = true := decide_eq_true (by omega)
        have hd1 : decide ((0 : Int) < (m : Int) + 1) = true := decide_eq_true (by omega)
        have HCD := Lib.hid hcd
        clear hcd
        by_cases o5 : op = 5
        · subst o5
          by_cases ox5 : opx = 5
          · subst ox5
            by_cases en : name = namex
            · subst en
              have ht : (name.toList == name.toList) = true := by simp
              have hs1 := hsc _ ((Below.refl wr.heap.size wr).drew)
              rw [show setsB name [x] = true by
                rcases HCD.out with q | q | q | q
                · exact absurd rfl q
                · exact absurd rfl q
                · exact absurd rfl q
                · exact q] at hs1
              clear hsc
              go_wp2
              go_still_tail 44, (by kernel_rfl)
              change wpList _ _ _ _ _ wr.drew
              go_wp2_with (go_at_call 30; (with_reducible refine hs1.mono ?_); rintro e wz ⟨rfl, hbz'⟩; have hbz : Below wr.heap.size wr wz := ((Below.refl wr.heap.size wr).drew).trans hbz'; clear hbz')
              first
                | (refine gen_world' (S := fun w2 => Below wr.heap.size wr w2) (by first | exact below_drewN _ _ _ | exact hbz) ?_)
                | (refine gen_world (S := fun w2 => Below wr.heap.size wr w2) (by first | exact below_drewN _ _ _ | exact hbz) ?_)
              intro w2 hb2
              have HB2 := Lib.hid hb2
              clear hb2
              try go_wp2
              go_loopw [4] (fun i wr2 => ∃ j : Nat, i = .int .i64 j ∧ j ≤ na ∧ Hid (Below w2.heap.size w2 wr2)) (fun i _ => na - (intOf i).toNat)
              case atStart => exact ⟨0, rfl, Nat.zero_le _, Lib.hid (Below.refl _ _)⟩
              case round =>
                obtain ⟨j, rfl, hj, HX⟩ := hrel
                have HXX := Lib.hid (HB2.out.trans (HX.out.mono HB2.out.size))
                have HWX := Lib.hid (HW.out.trans (HXX.out.mono HW.out.size))
                have e0 := (World.cell?_of_block (a := ⟨b, off + (m + 1) * 11, none⟩) (HXX.out.block b hbs)).trans c0
                have e10 := (World.cell?_of_block (a := ⟨b, off + (m + 1) * 11 + 10, none⟩) (HXX.out.block b hbs)).trans c10
                by_cases hlt2 : j < na
                · obtain ⟨t, ht⟩ : ∃ t, arms[j]? = some t := ⟨_, getE (by rw [HB.out.2.1]; exact hlt2)⟩
                  obtain ⟨b3, off3, _, u3, he, _, _, _, hb3l, s1, s2, hb3v⟩ := (HB.out.1.stay (Stay.below HXX.out)).get j t ht
                  simp only [Value.slice.injEq, true_and] at he
                  obtain ⟨rfl, -, rfl⟩ := he
                  have hsz : szB 1 t.body < k := by
                    have h1 := szB_mem 1 (List.mem_of_getElem? HB.out.2.2.1)
                    rw [HB.out.2.2.2.2.2] at h1
                    have h2 := szA_mem 1 (List.mem_of_getElem? ht)
                    have h3 := HK.out.1
                    omega
                  have hapt : apart t.body = true := apart_arm HK.out.2 (List.mem_of_getElem? HB.out.2.2.1) HB.out.2.2.2.1 t (by rw [HB.out.2.2.2.2.2]; exact List.mem_of_getElem? ht)
                  have hcl := IH.out t.body wr A u3 hsz hapt hb3v
                  clear ht hsz hapt hb3v
                  go_wp2_with (go_at_call 14; (with_reducible refine hcl.mono ?_); rintro e w4 ⟨rfl, hb4⟩; replace hb4 := Lib.hid hb4)
                  refine ⟨?rel, ?measure⟩
                  case rel =>
                    first
                      | (exact ⟨j + 1, by simp, by omega, Lib.hid (HX.out.trans (hb4.out.mono HX.out.size))⟩)
                      | (refine ⟨_, _, _, _, _, _, _, _, _, _, _, _, _, _, _, _, _, _, _, _, _, _, _, _, _, _, _, _, _, _, _, ⟨j + 1, ?_, by omega, Lib.hid (HX.out.trans (hb4.out.mono HX.out.size))⟩, rfl⟩; simp; done)
                      | (refine ⟨_, _, _, _, _, _, _, _, _, _, _, _, _, _, _, _, _, _, _, _, _, _, _, _, _, _, _, _, _, _, ⟨j + 1, ?_, by omega, Lib.hid (HX.out.trans (hb4.out.mono HX.out.size))⟩, rfl⟩; simp; done)
                      | (refine ⟨_, _, _, _, _, _, _, _, _, _, _, _, _, _, _, _, _, _, _, _, _, _, _, _, _, _, _, _, _, ⟨j + 1, ?_, by omega, Lib.hid (HX.out.trans (hb4.out.mono HX.out.size))⟩, rfl⟩; simp; done)
                      | (refine ⟨_, _, _, _, _, _, _, _, _, _, _, _, _, _, _, _, _, _, _, _, _, _, _, _, _, _, _, _, ⟨j + 1, ?_, by omega, Lib.hid (HX.out.trans (hb4.out.mono HX.out.size))⟩, rfl⟩; simp; done)
                      | (refine ⟨_, _, _, _, _, _, _, _, _, _, _, _, _, _, _, _, _, _, _, _, _, _, _, _, _, _, _, ⟨j + 1, ?_, by omega, Lib.hid (HX.out.trans (hb4.out.mono HX.out.size))⟩, rfl⟩; simp; done)
                      | (refine ⟨_, _, _, _, _, _, _, _, _, _, _, _, _, _, _, _, _, _, _, _, _, _, _, _, _, _, ⟨j + 1, ?_, by omega, Lib.hid (HX.out.trans (hb4.out.mono HX.out.size))⟩, rfl⟩; simp; done)
                      | (refine ⟨_, _, _, _, _, _, _, _, _, _, _, _, _, _, _, _, _, _, _, _, _, _, _, _, _, ⟨j + 1, ?_, by omega, Lib.hid (HX.out.trans (hb4.out.mono HX.out.size))⟩, rfl⟩; simp; done)
                      | (refine ⟨_, _, _, _, _, _, _, _, _, _, _, _, _, _, _, _, _, _, _, _, _, _, _, _, ⟨j + 1, ?_, by omega, Lib.hid (HX.out.trans (hb4.out.mono HX.out.size))⟩, rfl⟩; simp; done)
                      | (refine ⟨_, _, _, _, _, _, _, _, _, _, _, _, _, _, _, _, _, _, _, _, _, _, _, _, _, _, _, _, _, _, _, _, ⟨j + 1, ?_, by omega, Lib.hid (HX.out.trans (hb4.out.mono HX.out.size))⟩, rfl⟩; simp; done)
                      | (refine ⟨_, _, _, _, _, _, _, _, _, _, _, _, _, _, _, _, _, _, _, _, _, _, _, _, _, _, _, _, _, _, _, _, _, ⟨j + 1, ?_, by omega, Lib.hid (HX.out.trans (hb4.out.mono HX.out.size))⟩, rfl⟩; simp; done)
                  case measure => simp [intOf]; omega
                · go_wp2
                  refine ⟨⟨m + 1 + 1, by simp, by omega, HWX⟩, by simp [intOf]; omega⟩
            · have ht : (name.toList == namex.toList) = false := by rw [str_eq]; exact decide_eq_false en
              clear hsc
              go_wp2
              go_quiet (fail)
              first
                | (refine gen_world' (S := fun w2 => Below wr.heap.size wr w2) (by first | exact below_drewN _ _ _ | exact hbz) ?_)
                | (refine gen_world (S := fun w2 => Below wr.heap.size wr w2) (by first | exact below_drewN _ _ _ | exact hbz) ?_)
              intro w2 hb2
              have HB2 := Lib.hid hb2
              clear hb2
              try go_wp2
              go_loopw [4] (fun i wr2 => ∃ j : Nat, i = .int .i64 j ∧ j ≤ na ∧ Hid (Below w2.heap.size w2 wr2)) (fun i _ => na - (intOf i).toNat)
              case atStart => exact ⟨0, rfl, Nat.zero_le _, Lib.hid (Below.refl _ _)⟩
              case round =>
                obtain ⟨j, rfl, hj, HX⟩ := hrel
                have HXX := Lib.hid (HB2.out.trans (HX.out.mono HB2.out.size))
                have HWX := Lib.hid (HW.out.trans (HXX.out.mono HW.out.size))
                have e0 := (World.cell?_of_block (a := ⟨b, off + (m + 1) * 11, none⟩) (HXX.out.block b hbs)).trans c0
                have e10 := (World.cell?_of_block (a := ⟨b, off + (m + 1) * 11 + 10, none⟩) (HXX.out.block b hbs)).trans c10
                by_cases hlt2 : j < na
                · obtain ⟨t, ht⟩ : ∃ t, arms[j]? = some t := ⟨_, getE (by rw [HB.out.2.1]; exact hlt2)⟩
                  obtain ⟨b3, off3, _, u3, he, _, _, _, hb3l, s1, s2, hb3v⟩ := (HB.out.1.stay (Stay.below HXX.out)).get j t ht
                  simp only [Value.slice.injEq, true_and] at he
                  obtain ⟨rfl, -, rfl⟩ := he
                  have hsz : szB 1 t.body < k := by
                    have h1 := szB_mem 1 (List.mem_of_getElem? HB.out.2.2.1)
                    rw [HB.out.2.2.2.2.2] at h1
                    have h2 := szA_mem 1 (List.mem_of_getElem? ht)
                    have h3 := HK.out.1
                    omega
                  have hapt : apart t.body = true := apart_arm HK.out.2 (List.mem_of_getElem? HB.out.2.2.1) HB.out.2.2.2.1 t (by rw [HB.out.2.2.2.2.2]; exact List.mem_of_getElem? ht)
                  have hcl := IH.out t.body wr A u3 hsz hapt hb3v
                  clear ht hsz hapt hb3v
                  go_wp2_with (go_at_call 14; (with_reducible refine hcl.mono ?_); rintro e w4 ⟨rfl, hb4⟩; replace hb4 := Lib.hid hb4)
                  refine ⟨?rel, ?measure⟩
                  case rel =>
                    first
                      | (exact ⟨j + 1, by simp, by omega, Lib.hid (HX.out.trans (hb4.out.mono HX.out.size))⟩)
                      | (refine ⟨_, _, _, _, _, _, _, _, _, _, _, _, _, _, _, _, _, _, _, _, _, _, _, _, _, _, _, _, _, _, _, ⟨j + 1, ?_, by omega, Lib.hid (HX.out.trans (hb4.out.mono HX.out.size))⟩, rfl⟩; simp; done)
                      | (refine ⟨_, _, _, _, _, _, _, _, _, _, _, _, _, _, _, _, _, _, _, _, _, _, _, _, _, _, _, _, _, _, ⟨j + 1, ?_, by omega, Lib.hid (HX.out.trans (hb4.out.mono HX.out.size))⟩, rfl⟩; simp; done)
                      | (refine ⟨_, _, _, _, _, _, _, _, _, _, _, _, _, _, _, _, _, _, _, _, _, _, _, _, _, _, _, _, _, ⟨j + 1, ?_, by omega, Lib.hid (HX.out.trans (hb4.out.mono HX.out.size))⟩, rfl⟩; simp; done)
                      | (refine ⟨_, _, _, _, _, _, _, _, _, _, _, _, _, _, _, _, _, _, _, _, _, _, _, _, _, _, _, _, ⟨j + 1, ?_, by omega, Lib.hid (HX.out.trans (hb4.out.mono HX.out.size))⟩, rfl⟩; simp; done)
                      | (refine ⟨_, _, _, _, _, _, _, _, _, _, _, _, _, _, _, _, _, _, _, _, _, _, _, _, _, _, _, ⟨j + 1, ?_, by omega, Lib.hid (HX.out.trans (hb4.out.mono HX.out.size))⟩, rfl⟩; simp; done)
                      | (refine ⟨_, _, _, _, _, _, _, _, _, _, _, _, _, _, _, _, _, _, _, _, _, _, _, _, _, _, ⟨j + 1, ?_, by omega, Lib.hid (HX.out.trans (hb4.out.mono HX.out.size))⟩, rfl⟩; simp; done)
                      | (refine ⟨_, _, _, _, _, _, _, _, _, _, _, _, _, _, _, _, _, _, _, _, _, _, _, _, _, ⟨j + 1, ?_, by omega, Lib.hid (HX.out.trans (hb4.out.mono HX.out.size))⟩, rfl⟩; simp; done)
                      | (refine ⟨_, _, _, _, _, _, _, _, _, _, _, _, _, _, _, _, _, _, _, _, _, _, _, _, ⟨j + 1, ?_, by omega, Lib.hid (HX.out.trans (hb4.out.mono HX.out.size))⟩, rfl⟩; simp; done)
                      | (refine ⟨_, _, _, _, _, _, _, _, _, _, _, _, _, _, _, _, _, _, _, _, _, _, _, _, _, _, _, _, _, _, _, _, ⟨j + 1, ?_, by omega, Lib.hid (HX.out.trans (hb4.out.mono HX.out.size))⟩, rfl⟩; simp; done)
                      | (refine ⟨_, _, _, _, _, _, _, _, _, _, _, _, _, _, _, _, _, _, _, _, _, _, _, _, _, _, _, _, _, _, _, _, _, ⟨j + 1, ?_, by omega, Lib.hid (HX.out.trans (hb4.out.mono HX.out.size))⟩, rfl⟩; simp; done)
                  case measure => simp [intOf]; omega
                · go_wp2
                  refine ⟨⟨m + 1 + 1, by simp, by omega, HWX⟩, by simp [intOf]; omega⟩
          · have dx5 : decide (opx = 5) = false := decide_eq_false ox5
            have dx5' : (opx == 5) = false := by simpa using ox5
            clear hsc
            go_wp2
            go_quiet (fail)
            first
              | (refine gen_world' (S := fun w2 => Below wr.heap.size wr w2) (by first | exact below_drewN _ _ _ | exact hbz) ?_)
              | (refine gen_world (S := fun w2 => Below wr.heap.size wr w2) (by first | exact below_drewN _ _ _ | exact hbz) ?_)
            intro w2 hb2
            have HB2 := Lib.hid hb2
            clear hb2
            try go_wp2
            go_loopw [4] (fun i wr2 => ∃ j : Nat, i = .int .i64 j ∧ j ≤ na ∧ Hid (Below w2.heap.size w2 wr2)) (fun i _ => na - (intOf i).toNat)
            case atStart => exact ⟨0, rfl, Nat.zero_le _, Lib.hid (Below.refl _ _)⟩
            case round =>
              obtain ⟨j, rfl, hj, HX⟩ := hrel
              have HXX := Lib.hid (HB2.out.trans (HX.out.mono HB2.out.size))
              have HWX := Lib.hid (HW.out.trans (HXX.out.mono HW.out.size))
              have e0 := (World.cell?_of_block (a := ⟨b, off + (m + 1) * 11, none⟩) (HXX.out.block b hbs)).trans c0
              have e10 := (World.cell?_of_block (a := ⟨b, off + (m + 1) * 11 + 10, none⟩) (HXX.out.block b hbs)).trans c10
              by_cases hlt2 : j < na
              · obtain ⟨t, ht⟩ : ∃ t, arms[j]? = some t := ⟨_, getE (by rw [HB.out.2.1]; exact hlt2)⟩
                obtain ⟨b3, off3, _, u3, he, _, _, _, hb3l, s1, s2, hb3v⟩ := (HB.out.1.stay (Stay.below HXX.out)).get j t ht
                simp only [Value.slice.injEq, true_and] at he
                obtain ⟨rfl, -, rfl⟩ := he
                have hsz : szB 1 t.body < k := by
                  have h1 := szB_mem 1 (List.mem_of_getElem? HB.out.2.2.1)
                  rw [HB.out.2.2.2.2.2] at h1
                  have h2 := szA_mem 1 (List.mem_of_getElem? ht)
                  have h3 := HK.out.1
                  omega
                have hapt : apart t.body = true := apart_arm HK.out.2 (List.mem_of_getElem? HB.out.2.2.1) HB.out.2.2.2.1 t (by rw [HB.out.2.2.2.2.2]; exact List.mem_of_getElem? ht)
                have hcl := IH.out t.body wr A u3 hsz hapt hb3v
                clear ht hsz hapt hb3v
                go_wp2_with (go_at_call 14; (with_reducible refine hcl.mono ?_); rintro e w4 ⟨rfl, hb4⟩; replace hb4 := Lib.hid hb4)
                refine ⟨?rel, ?measure⟩
                case rel =>
                  first
                    | (exact ⟨j + 1, by simp, by omega, Lib.hid (HX.out.trans (hb4.out.mono HX.out.size))⟩)
                    | (refine ⟨_, _, _, _, _, _, _, _, _, _, _, _, _, _, _, _, _, _, _, _, _, _, _, _, _, _, _, _, _, _, _, ⟨j + 1, ?_, by omega, Lib.hid (HX.out.trans (hb4.out.mono HX.out.size))⟩, rfl⟩; simp; done)
                    | (refine ⟨_, _, _, _, _, _, _, _, _, _, _, _, _, _, _, _, _, _, _, _, _, _, _, _, _, _, _, _, _, _, ⟨j + 1, ?_, by omega, Lib.hid (HX.out.trans (hb4.out.mono HX.out.size))⟩, rfl⟩; simp; done)
                    | (refine ⟨_, _, _, _, _, _, _, _, _, _, _, _, _, _, _, _, _, _, _, _, _, _, _, _, _, _, _, _, _, ⟨j + 1, ?_, by omega, Lib.hid (HX.out.trans (hb4.out.mono HX.out.size))⟩, rfl⟩; simp; done)
                    | (refine ⟨_, _, _, _, _, _, _, _, _, _, _, _, _, _, _, _, _, _, _, _, _, _, _, _, _, _, _, _, ⟨j + 1, ?_, by omega, Lib.hid (HX.out.trans (hb4.out.mono HX.out.size))⟩, rfl⟩; simp; done)
                    | (refine ⟨_, _, _, _, _, _, _, _, _, _, _, _, _, _, _, _, _, _, _, _, _, _, _, _, _, _, _, ⟨j + 1, ?_, by omega, Lib.hid (HX.out.trans (hb4.out.mono HX.out.size))⟩, rfl⟩; simp; done)
                    | (refine ⟨_, _, _, _, _, _, _, _, _, _, _, _, _, _, _, _, _, _, _, _, _, _, _, _, _, _, ⟨j + 1, ?_, by omega, Lib.hid (HX.out.trans (hb4.out.mono HX.out.size))⟩, rfl⟩; simp; done)
                    | (refine ⟨_, _, _, _, _, _, _, _, _, _, _, _, _, _, _, _, _, _, _, _, _, _, _, _, _, ⟨j + 1, ?_, by omega, Lib.hid (HX.out.trans (hb4.out.mono HX.out.size))⟩, rfl⟩; simp; done)
                    | (refine ⟨_, _, _, _, _, _, _, _, _, _, _, _, _, _, _, _, _, _, _, _, _, _, _, _, ⟨j + 1, ?_, by omega, Lib.hid (HX.out.trans (hb4.out.mono HX.out.size))⟩, rfl⟩; simp; done)
                    | (refine ⟨_, _, _, _, _, _, _, _, _, _, _, _, _, _, _, _, _, _, _, _, _, _, _, _, _, _, _, _, _, _, _, _, ⟨j + 1, ?_, by omega, Lib.hid (HX.out.trans (hb4.out.mono HX.out.size))⟩, rfl⟩; simp; done)
                    | (refine ⟨_, _, _, _, _, _, _, _, _, _, _, _, _, _, _, _, _, _, _, _, _, _, _, _, _, _, _, _, _, _, _, _, _, ⟨j + 1, ?_, by omega, Lib.hid (HX.out.trans (hb4.out.mono HX.out.size))⟩, rfl⟩; simp; done)
                case measure => simp [intOf]; omega
              · go_wp2
                refine ⟨⟨m + 1 + 1, by simp, by omega, HWX⟩, by simp [intOf]; omega⟩
        · have d5 : decide (op = 5) = false := decide_eq_false o5
          have d5' : (op == 5) = false := by simpa using o5
          clear hsc
          go_wp2
          go_quiet (fail)
          first
            | (refine gen_world' (S := fun w2 => Below wr.heap.size wr w2) (by first | exact below_drewN _ _ _ | exact hbz) ?_)
            | (refine gen_world (S := fun w2 => Below wr.heap.size wr w2) (by first | exact below_drewN _ _ _ | exact hbz) ?_)
          intro w2 hb2
          have HB2 := Lib.hid hb2
          clear hb2
          try go_wp2
          go_loopw [4] (fun i wr2 => ∃ j : Nat, i = .int .i64 j ∧ j ≤ na ∧ Hid (Below w2.heap.size w2 wr2)) (fun i _ => na - (intOf i).toNat)
          case atStart => exact ⟨0, rfl, Nat.zero_le _, Lib.hid (Below.refl _ _)⟩
          case round =>
            obtain ⟨j, rfl, hj, HX⟩ := hrel
            have HXX := Lib.hid (HB2.out.trans (HX.out.mono HB2.out.size))
            have HWX := Lib.hid (HW.out.trans (HXX.out.mono HW.out.size))
            have e0 := (World.cell?_of_block (a := ⟨b, off + (m + 1) * 11, none⟩) (HXX.out.block b hbs)).trans c0
            have e10 := (World.cell?_of_block (a := ⟨b, off + (m + 1) * 11 + 10, none⟩) (HXX.out.block b hbs)).trans c10
            by_cases hlt2 : j < na
            · go_wp2
              refine ⟨⟨j + 1, by simp, by omega, HX⟩, by simp [intOf]; omega⟩
            · go_wp2
              refine ⟨⟨m + 1 + 1, by simp, by omega, HWX⟩, by simp [intOf]; omega⟩
    · go_wp2
      go_ret
      exact ⟨rfl, HW.out⟩
theorem ap_all : ∀ k, ApC k
  | 0 => fun l w A v h => absurd h (Nat.not_lt_zero _)
  | k + 1 => ap_step (ap_all k)
theorem ap_any {w : World} {A : Nat → Prop} {v : Value} {l : List Stm} (h : VB w A v l) (ha : apart l = true) : Calls Try.prog 14 #[v] w fun e w' => e = .returned (.bool true) ∧ Below w.heap.size w w' :=
  ap_all _ l w A v (Nat.lt_succ_self _) ha h
end Go.Proofs.Ytnbinejghkhcjaa.Fu
