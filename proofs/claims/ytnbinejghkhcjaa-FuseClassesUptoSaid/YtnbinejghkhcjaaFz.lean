/- The walks of the reference's Sets and of the law's apart. -/
import Derived.Test.YtnbinejghkhcjaaFk
import Derived.Test.YtnbinejghkhcjaaFs
namespace Go.Proofs.Ytnbinejghkhcjaa.Fu
open Go.RowKit
set_option linter.unusedVariables false
set_option linter.unusedSimpArgs false
set_option maxHeartbeats 4000000

def RSetsC (k : Nat) : Prop := ∀ (l : List Stm) (w : World) (A : Nat → Prop) (v : Value) (nm : ByteArray), szB 1 l < k → VB w A v l → Calls Try.prog 30 #[v, .string nm] w fun e w' => e = .returned (.bool (setsB nm l)) ∧ Below w.heap.size w w'
theorem sets_found {l : List Stm} {m : Nat} {s : Stm} {nm : ByteArray} (hy : l[m]? = some s) (h : setsS nm s = true) : setsB nm l = true := by
  rw [setsB_any, List.any_eq_true]; exact ⟨s, List.mem_of_getElem? hy, h⟩
set_option maxRecDepth 100000 in
theorem rsets_step {k : Nat} (ih : RSetsC k) : RSetsC (k + 1) := by
  intro l W A v nm hk h
  obtain ⟨a, cap, rfl, h2, h3⟩ := h.any
  have hu : cap ≤ 9223372036854775807 := by unfold maxLen at h3; exact h3
  have HV := Lib.hid h
  have HK := Lib.hid hk
  obtain ⟨S, HS⟩ : ∃ S, Hid (setsB nm l = S) := ⟨_, Lib.hid rfl⟩
  rw [HS.out]
  obtain ⟨n, hn⟩ : ∃ n, l.length = n := ⟨_, rfl⟩
  rw [hn] at h2 ⊢
  have HN := Lib.hid hn
  have IH := Lib.hid ih
  clear hn h hk ih
  go_enter Try.func30, Try.ntmps30
  go_wp2
  go_loopw [5] (fun i wr => ∃ m : Nat, i = .int .i64 m ∧ m ≤ n ∧ Hid (∀ s ∈ l.take m, setsS nm s = false) ∧ Hid (Below W.heap.size W wr)) (fun i _ => n - (intOf i).toNat)
  case atStart => exact ⟨0, rfl, Nat.zero_le _, Lib.hid (by simp), Lib.hid (Below.refl _ _)⟩
  case round =>
    obtain ⟨m, rfl, hm, HX, HW⟩ := hrel
    by_cases hlt : m < n
    · have hml : m < l.length := by rw [HN.out]; exact hlt
      obtain ⟨y, hy⟩ : ∃ y, l[m]? = some y := ⟨_, getE hml⟩
      obtain ⟨b, off, _, u, he, _, _, _, hbs, hat, hho, hva⟩ := (HV.out.stay (Stay.below HW.out)).get m y hy
      simp only [Value.slice.injEq, true_and] at he
      obtain ⟨rfl, -, rfl⟩ := he
      obtain ⟨h, arms⟩ := y
      obtain ⟨op, name, strs, names, inst, e0, e1, e2, e3, e4, args⟩ := h
      simp only [Stm.hd, Stm.arms, rawS] at hat hva
      obtain ⟨a2, n2, p2, i3, a9, n9, p9, x0, x1, x2, a7, n7, p7, a8, n8, p8, f2, f3, f4, f5, f6, f7, f8, f9⟩ := hho.forms
      subst f2; subst f3; subst f4; subst f5; subst f6; subst f7; subst f8; subst f9
      obtain ⟨c0, c1, c2, c3, c4, c5, c6, c7, c8, c9, c10⟩ := hat
      obtain ⟨au, cu, rfl, hcu1, hcu2⟩ := hva.any
      have hcu3 : cu ≤ 9223372036854775807 := by unfold maxLen at hcu2; exact hcu2
      obtain ⟨na, hna⟩ : ∃ na, arms.length = na := ⟨_, rfl⟩
      rw [hna] at c10 hcu1
      have hbel : Below wr.heap.size wr (wr.alloc (.cells #[.int .i64 op, .string name, .slice a2 n2 p2, .int .i64 i3, .int .i64 x0, .string x1, .int .i64 x2, .slice a7 n7 p7, .slice a8 n8 p8, .slice a9 n9 p9, .slice au na cu] 38)) := (Below.refl _ _).alloc (Nat.le_refl _) _
      have hh : Calls Try.prog 22 #[.slice a2 n2 p2, .string nm] (wr.alloc (.cells #[.int .i64 op, .string name, .slice a2 n2 p2, .int .i64 i3, .int .i64 x0, .string x1, .int .i64 x2, .slice a7 n7 p7, .slice a8 n8 p8, .slice a9 n9 p9, .slice au na cu] 38)) (fun e w' => e = .returned (.bool (strs.any (fun x => decide (x = nm)))) ∧ (wr.alloc (.cells #[.int .i64 op, .string name, .slice a2 n2 p2, .int .i64 i3, .int .i64 x0, .string x1, .int .i64 x2, .slice a7 n7 p7, .slice a8 n8 p8, .slice a9 n9 p9, .slice au na cu] 38)) = w') := has_any (hho.names.stay (Stay.below hbel)) nm
      have hY : setsS nm (.mk ⟨op, name, strs, .slice a2 n2 p2, .int .i64 i3, .int .i64 x0, .string x1, .int .i64 x2, .slice a7 n7 p7, .slice a8 n8 p8, .slice a9 n9 p9⟩ arms) = (if op = 1 ∨ op = 2 then decide (name = nm) else if op = 3 then strs.any (fun x => decide (x = nm)) else if op = 5 then setsA nm arms else false) := setsS_eq _ _
      obtain ⟨z, hz⟩ : ∃ z, strs.any (fun x => decide (x = nm)) = z := ⟨_, rfl⟩
      rw [hz] at hh hY
      have HY := Lib.hid hy
      have HYE := Lib.hid hY
      have HB := Lib.hid (And.intro hva (And.intro hna hho))
      clear hy hva hna hho hcu2 hz hY
      obtain ⟨p, hp⟩ : ∃ p, wr.heap.size = p := ⟨_, rfl⟩
      obtain ⟨w1, hw1⟩ : ∃ w1, wr.alloc (.cells #[.int .i64 op, .string name, .slice a2 n2 p2, .int .i64 i3, .int .i64 x0, .string x1, .int .i64 x2, .slice a7 n7 p7, .slice a8 n8 p8, .slice a9 n9 p9, .slice au na cu] 38) = w1 := ⟨_, rfl⟩
      have hpb : w1.heap[p]? = some (.cells #[.int .i64 op, .string name, .slice a2 n2 p2, .int .i64 i3, .int .i64 x0, .string x1, .int .i64 x2, .slice a7 n7 p7, .slice a8 n8 p8, .slice a9 n9 p9, .slice au na cu] 38 (0, 0)) := by rw [← hw1, ← hp]; exact heap_alloc_new _ _
      rw [hw1] at hh hbel
      have HPB := Lib.hid hpb
      have HB1 := Lib.hid hbel
      have f0 : w1.cell? ⟨p, 0, none⟩ = some (.int .i64 op) := by rw [cell_of_row _ p 0 _ 38 (0, 0) hpb]; rfl
      have f1 : w1.cell? ⟨p, 1, none⟩ = some (.string name) := by rw [cell_of_row _ p 1 _ 38 (0, 0) hpb]; rfl
      have f2 : w1.cell? ⟨p, 2, none⟩ = some (.slice a2 n2 p2) := by rw [cell_of_row _ p 2 _ 38 (0, 0) hpb]; rfl
      have HWQ := Lib.hid (And.intro hw1 hp)
      clear hpb hbel hw1 hp
      have hcase : (∃ e1 e2 e3 et, decide (op = 1) = e1 ∧ decide (op = 2) = e2 ∧ decide (op = 3) = e3 ∧ (name.toList == nm.toList) = et ∧ (((e1 = true ∨ e2 = true) ∧ et = true) ∨ (e1 = false ∧ e2 = false ∧ e3 = true ∧ z = true))) ∨ ((decide (op = 1) = true ∨ decide (op = 2) = true) ∧ (name.toList == nm.toList) = false) ∨ ((decide (op = 1) = false ∧ decide (op = 2) = false) ∧ decide (op = 3) = true ∧ z = false) ∨ ((decide (op = 1) = false ∧ decide (op = 2) = false) ∧ decide (op = 3) = false) := by
        cases h1 : decide (op = 1) <;> cases h2 : decide (op = 2) <;> cases h3 : decide (op = 3) <;> cases ht : (name.toList == nm.toList) <;> cases z <;> simp
      have hfound : setsS nm (.mk ⟨op, name, strs, .slice a2 n2 p2, .int .i64 i3, .int .i64 x0, .string x1, .int .i64 x2, .slice a7 n7 p7, .slice a8 n8 p8, .slice a9 n9 p9⟩ arms) = true → S = true := fun q => by rw [← HS.out]; exact sets_found HY.out q
      rcases hcase with ⟨e1, e2, e3, et, q1, q2, q3, q4, hc⟩ | hc
      · have hS : S = true := by
          refine hfound ?_
          rw [HYE.out]
          rcases hc with ⟨hc1, hc2⟩ | ⟨hc1, hc2, hc3, hc4⟩
          · rw [if_pos (hc1.elim (fun r => Or.inl (of_decide_eq_true (by rw [q1]; exact r))) (fun r => Or.inr (of_decide_eq_true (by rw [q2]; exact r))))]
            rw [← str_eq, q4]; exact hc2
          · rw [if_neg (fun q => q.elim (fun r => by rw [decide_eq_true r] at q1; rw [← q1] at hc1; cases hc1) (fun r => by rw [decide_eq_true r] at q2; rw [← q2] at hc2; cases hc2)), if_pos (of_decide_eq_true (by rw [q3]; exact hc3))]
            exact hc4
        subst hS
        clear hfound
        rcases hc with ⟨hc1 | hc1, hc2⟩ | ⟨hc1, hc2, hc3, hc4⟩
        · subst hc1; subst hc2
          have o1 : op = 1 := of_decide_eq_true q1
          subst o1
          clear q1 q2 q3 hh
          go_wp2
          go_ret
          exact ⟨rfl, by rw [HWQ.out.1]; exact HW.out.trans (HB1.out.mono HW.out.size)⟩
        · subst hc1; subst hc2
          have o1 : op = 2 := of_decide_eq_true q2
          subst o1
          clear q1 q2 q3 hh
          go_wp2
          go_ret
          exact ⟨rfl, by rw [HWQ.out.1]; exact HW.out.trans (HB1.out.mono HW.out.size)⟩
        · subst hc1; subst hc2; subst hc3; subst hc4
          have o1 : op = 3 := of_decide_eq_true q3
          subst o1
          clear q1 q2 q3 q4
          go_wp2_with (go_at_call 22; rw [HWQ.out.1]; (with_reducible refine hh.mono ?_); rintro e w3 ⟨rfl, rfl⟩)
          go_ret
          exact ⟨rfl, HW.out.trans (HB1.out.mono HW.out.size)⟩
      · have hnot : (op ≠ 5 → setsS nm (.mk ⟨op, name, strs, .slice a2 n2 p2, .int .i64 i3, .int .i64 x0, .string x1, .int .i64 x2, .slice a7 n7 p7, .slice a8 n8 p8, .slice a9 n9 p9⟩ arms) = false) ∧ (op = 5 → setsS nm (.mk ⟨op, name, strs, .slice a2 n2 p2, .int .i64 i3, .int .i64 x0, .string x1, .int .i64 x2, .slice a7 n7 p7, .slice a8 n8 p8, .slice a9 n9 p9⟩ arms) = setsA nm arms) := by
          refine ⟨fun o5 => ?_, fun o5 => ?_⟩
          · rw [HYE.out]
            rcases hc with ⟨hc1, hc2⟩ | ⟨⟨hc1, hc2⟩, hc3, hc4⟩ | ⟨⟨hc1, hc2⟩, hc3⟩
            · rw [if_pos (hc1.elim (fun r => Or.inl (of_decide_eq_true r)) (fun r => Or.inr (of_decide_eq_true r))), ← str_eq]; exact hc2
            · rw [if_neg (fun q => q.elim (fun r => of_decide_eq_false hc1 r) (fun r => of_decide_eq_false hc2 r)), if_pos (of_decide_eq_true hc3)]; exact hc4
            · rw [if_neg (fun q => q.elim (fun r => of_decide_eq_false hc1 r) (fun r => of_decide_eq_false hc2 r)), if_neg (of_decide_eq_false hc3), if_neg o5]
          · rw [HYE.out, o5]; rfl
        have HNOT := Lib.hid hnot
        clear hnot
        have HFO := Lib.hid hfound
        clear hfound
        rcases hc with ⟨hc1 | hc1, hc2⟩ | ⟨⟨hc1, hc2⟩, hc3, hc4⟩ | ⟨⟨hc1, hc2⟩, hc3⟩
        focus
          have o1 : op = 1 := of_decide_eq_true hc1
          have en : ¬ name.toList = nm.toList := by simpa using hc2
          have h3 := HWQ.out.1
          rw [o1] at h3
          have HWQ3 := Lib.hid h3
          clear h3
          clear hh hc1
          go_wp2
        rotate_left
        focus
          have o1 : op = 2 := of_decide_eq_true hc1
          have en : ¬ name.toList = nm.toList := by simpa using hc2
          have h3 := HWQ.out.1
          rw [o1] at h3
          have HWQ3 := Lib.hid h3
          clear h3
          clear hh hc1
          go_wp2
        rotate_left
        focus
          subst hc4
          have o1 : op = 3 := of_decide_eq_true hc3
          have h3 := HWQ.out.1
          rw [o1] at h3
          have HWQ3 := Lib.hid h3
          clear h3
          clear hc1 hc2 hc3
          go_wp2_with (go_at_call 22; rw [HWQ3.out]; (with_reducible refine hh.mono ?_); rintro e w3 ⟨rfl, rfl⟩)
        rotate_left
        focus
          have o1 : ¬ op = 1 := of_decide_eq_false hc1
          have o2 : ¬ op = 2 := of_decide_eq_false hc2
          have o3 : ¬ op = 3 := of_decide_eq_false hc3
          have HWQ3 := Lib.hid HWQ.out.1
          clear hh
          go_wp2
        rotate_left
        all_goals
          (try rw [HWQ3.out])
          (try rw [HWQ.out.2])
          clear f0 f1 f2
          go_loopw [7] (fun i wr => ∃ j : Nat, i = .int .i64 j ∧ j ≤ na ∧ Hid (∀ t ∈ arms.take j, setsB nm t.body = false) ∧ Hid (Below w1.heap.size w1 wr)) (fun i _ => na - (intOf i).toNat)
          case atStart => exact ⟨0, rfl, Nat.zero_le _, Lib.hid (by simp), Lib.hid (Below.refl _ _)⟩
          case round =>
            obtain ⟨j, rfl, hj, HA2, HX2⟩ := hrel
            have hpl := (Array.getElem?_eq_some_iff.1 HPB.out).1
            have g0 : wr.cell? ⟨p, 0, none⟩ = some (.int .i64 op) := by rw [cell_of_row _ p 0 _ 38 (0, 0) ((HX2.out.block p hpl).trans HPB.out)]; rfl
            have g10 : wr.cell? ⟨p, 10, none⟩ = some (.slice au na cu) := by rw [cell_of_row _ p 10 _ 38 (0, 0) ((HX2.out.block p hpl).trans HPB.out)]; rfl
            have HXX := Lib.hid (HB1.out.trans (HX2.out.mono HB1.out.size))
            have HWX := Lib.hid (HW.out.trans (HXX.out.mono HW.out.size))
            clear hpl
            by_cases hlt2 : j < na
            · by_cases o5 : op = 5
              · first
                | (exfalso; omega)
                | (obtain ⟨t, ht⟩ : ∃ t, arms[j]? = some t := ⟨_, getE (by rw [HB.out.2.1]; exact hlt2)⟩
                   obtain ⟨b3, off3, _, u3, he, _, _, _, hb3l, s1, s2, hb3v⟩ := (HB.out.1.stay (Stay.below HXX.out)).get j t ht
                   simp only [Value.slice.injEq, true_and] at he
                   obtain ⟨rfl, -, rfl⟩ := he
                   have hsz : szB 1 t.body < k := by
                     have h1 := szB_mem 1 (List.mem_of_getElem? HY.out)
                     have h2 := szA_mem 1 (List.mem_of_getElem? ht)
                     simp only [Stm.arms] at h1 h2
                     have h3 := HK.out
                     omega
                   have hc := IH.out t.body wr A u3 nm hsz hb3v
                   obtain ⟨r, hr⟩ : ∃ r, setsB nm t.body = r := ⟨_, rfl⟩
                   rw [hr] at hc
                   have HR := Lib.hid (And.intro hr ht)
                   clear hr ht hsz hb3v
                   have HO5 := Lib.hid o5
                   have d5 : (op == 5) = true := by rw [o5]; rfl
                   have d5' : decide (op = 5) = true := decide_eq_true o5
                   clear o5
                   cases r with
                   | true =>
                     have hS : S = true := by
                       refine HFO.out ?_
                       rw [HNOT.out.2 HO5.out, setsA_any, List.any_eq_true]
                       exact ⟨t, List.mem_of_getElem? HR.out.2, HR.out.1⟩
                     have HSf := Lib.hid hS
                     clear hS
                     go_wp2_with (go_at_call 30; (with_reducible refine hc.mono ?_); rintro e w4 ⟨rfl, hb4⟩; replace hb4 := Lib.hid hb4)
                     go_ret
                     exact ⟨ret_b HSf.out.symm, HWX.out.trans (hb4.out.mono HWX.out.size)⟩
                   | false =>
                     go_wp2_with (go_at_call 30; (with_reducible refine hc.mono ?_); rintro e w4 ⟨rfl, hb4⟩; replace hb4 := Lib.hid hb4)
                     go_roundw
                     case rel =>
                       refine ⟨j + 1, by simp, by omega, Lib.hid ?_, Lib.hid (HX2.out.trans (hb4.out.mono HX2.out.size))⟩
                       rw [take_snoc HR.out.2]
                       intro z hz
                       rcases List.mem_append.mp hz with q | q
                       · exact HA2.out z q
                       · simp only [List.mem_singleton] at q
                         subst q; exact HR.out.1
                     case measure => simp [intOf]; omega)
              · have HN5 := Lib.hid (HNOT.out.1 o5)
                have d5 : decide (op = 5) = false := decide_eq_false o5
                go_wp2
                go_roundw
                case rel =>
                  refine ⟨m + 1, by simp, by omega, Lib.hid ?_, HWX⟩
                  rw [take_snoc HY.out]
                  intro z hz
                  rcases List.mem_append.mp hz with q | q
                  · exact HX.out z q
                  · simp only [List.mem_singleton] at q
                    subst q; exact HN5.out
                case measure => simp [intOf]; omega
            · have hfin : setsS nm (.mk ⟨op, name, strs, .slice a2 n2 p2, .int .i64 i3, .int .i64 x0, .string x1, .int .i64 x2, .slice a7 n7 p7, .slice a8 n8 p8, .slice a9 n9 p9⟩ arms) = false := by
                by_cases o5 : op = 5
                · rw [HNOT.out.2 o5, setsA_any, List.any_eq_false]
                  intro t ht
                  have h1 := HA2.out
                  rw [show arms.take j = arms from List.take_of_length_le (by rw [HB.out.2.1]; omega)] at h1
                  rw [h1 t ht]; simp
                · exact HNOT.out.1 o5
              have HFI := Lib.hid hfin
              clear hfin
              go_wp2
              go_roundw
              case rel =>
                refine ⟨m + 1, by simp, by omega, Lib.hid ?_, HWX⟩
                rw [take_snoc HY.out]
                intro z hz
                rcases List.mem_append.mp hz with q | q
                · exact HX.out z q
                · simp only [List.mem_singleton] at q
                  subst q; exact HFI.out
              case measure => simp [intOf]; omega
    · go_wp2
      go_ret
      refine ⟨ret_b ?_, HW.out⟩
      have hx := HX.out
      rw [List.take_of_length_le (by rw [HN.out]; omega)] at hx
      rw [← HS.out, setsB_any]
      symm
      rw [List.any_eq_false]
      intro s hs q
      rw [hx s hs] at q; cases q
theorem rsets_all : ∀ k, RSetsC k
  | 0 => fun l w A v nm h => absurd h (Nat.not_lt_zero _)
  | k + 1 => rsets_step (rsets_all k)
theorem rsets_any {w : World} {A : Nat → Prop} {v : Value} {l : List Stm} (h : VB w A v l) (nm : ByteArray) : Calls Try.prog 30 #[v, .string nm] w fun e w' => e = .returned (.bool (setsB nm l)) ∧ Below w.heap.size w w' :=
  rsets_all _ l w A v nm (Nat.lt_succ_self _) h
end Go.Proofs.Ytnbinejghkhcjaa.Fu
