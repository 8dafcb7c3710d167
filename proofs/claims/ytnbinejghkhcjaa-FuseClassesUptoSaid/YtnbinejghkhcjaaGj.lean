/- The walk of the reference's Fuse. -/
import Derived.Test.YtnbinejghkhcjaaGh
import Derived.Test.YtnbinejghkhcjaaGb
import Derived.Test.YtnbinejghkhcjaaFz
import Derived.StillTailTactics
namespace Go.Proofs.Ytnbinejghkhcjaa.Fu
open Go.RowKit
set_option linter.unusedVariables false
set_option linter.unusedSimpArgs false
set_option maxHeartbeats 4000000
section
variable {W : World} {A : Nat → Prop} {v : Value} {k : Nat}
set_option maxRecDepth 100000 in
theorem rfuse_step (ih : RFuseC k) (hbt : BothC k) : RFuseC (k + 1) := by
  intro l W A0 v hk hN h0
  obtain ⟨A, hAdef⟩ : ∃ A : Nat → Prop, A = fun b => A0 b ∧ b < W.heap.size := ⟨_, rfl⟩
  have hA : ∀ b, A b → b < W.heap.size := fun b hb => by rw [hAdef] at hb; exact hb.2
  have hA0 : ∀ b, A b → A0 b := fun b hb => by rw [hAdef] at hb; exact hb.1
  have h : VB W A v l := h0.stay (Stay.weaken W (fun b hb q => by rw [hAdef]; exact ⟨q, hb⟩))
  obtain ⟨a, cap, rfl, h2, h3⟩ := h.any
  have hu : cap ≤ 9223372036854775807 := by unfold maxLen at h3; exact h3
  have HV := Lib.hid h
  have HK := Lib.hid (And.intro hk hN)
  obtain ⟨n, hn⟩ : ∃ n, l.length = n := ⟨_, rfl⟩
  have hnl : n ≤ 2097152 := by have := len_szB 1 l; omega
  rw [hn] at h2 ⊢
  have HN := Lib.hid hn
  have IH := Lib.hid ih
  have HA := Lib.hid (And.intro hA hA0)
  have BT := Lib.hid hbt
  clear hbt
  clear hn h hk hN ih h0 hA hA0 hAdef
  go_enter Try.func18, Try.ntmps18
  go_wp2
  go_loopw [3, 4] (fun vo i wr => ∃ m : Nat, i = .int .i64 m ∧ m ≤ n ∧ Hid (FO W wr A vo ((l.take m).foldl (fstep (fuseF k)) []))) (fun _ i _ => n - (intOf i).toNat)
  case atStart => exact ⟨0, rfl, Nat.zero_le _, Lib.hid (FO.nil W A)⟩
  case round =>
    obtain ⟨m, rfl, hm, HJ⟩ := hrel
    by_cases hlt : m < n
    · have hml : m < l.length := by rw [HN.out]; exact hlt
      obtain ⟨y, hy⟩ : ∃ y, l[m]? = some y := ⟨_, getE hml⟩
      have hbel : Below W.heap.size W wr := by obtain ⟨row, q, _⟩ := HJ.out; exact q
      obtain ⟨b, off, cap', u, he, _, _, _, hbs, hat, hho, hva⟩ := HV.out.get m y hy
      simp only [Value.slice.injEq, true_and] at he
      obtain ⟨rfl, -, rfl⟩ := he
      have hone := rawS_one hho hva
      obtain ⟨h, arms⟩ := y
      obtain ⟨op, name, strs, names, inst, e0, e1, e2, e3, e4, args⟩ := h
      simp only [Stm.hd, Stm.arms, rawS] at hat hva hone
      have k0 := fun o : Nat => World.cell?_of_block (w := W) (w' := wr) (a := ⟨b, o, none⟩) (hbel.block b hbs)
      obtain ⟨c0, c1, c2, c3, c4, c5, c6, c7, c8, c9, c10⟩ := hat
      rw [← k0] at c0 c1 c2 c3 c4 c5 c6 c7 c8 c9 c10
      obtain ⟨au, cu, rfl, hcu1, hcu2⟩ := hva.any
      have hcu3 : cu ≤ 9223372036854775807 := by unfold maxLen at hcu2; exact hcu2
      obtain ⟨na, hna⟩ : ∃ na, arms.length = na := ⟨_, rfl⟩
      rw [hna] at c10 hcu1
      obtain ⟨a2, n2, p2, i3, a9, n9, p9, x0, x1, x2, a7, n7, p7, a8, n8, p8, f2, f3, f4, f5, f6, f7, f8, f9⟩ := hho.forms
      subst f2; subst f3; subst f4; subst f5; subst f6; subst f7; subst f8; subst f9
      have HY := Lib.hid hy
      have HB := Lib.hid (And.intro hva (And.intro hna hho))
      have HW := Lib.hid hbel
      obtain ⟨out, hout⟩ : ∃ out, (l.take m).foldl (fstep (fuseF k)) [] = out := ⟨_, rfl⟩
      rw [hout] at HJ
      have HO := Lib.hid hout
      obtain ⟨a3, co3, rfl, hc31, hc32⟩ : ∃ a3 c3, u3 = .slice a3 out.length c3 ∧ out.length ≤ c3 ∧ c3 ≤ 9223372036854775807 := by
        obtain ⟨row, _, q, _⟩ := HJ.out
        exact own_form q
      obtain ⟨no, hno⟩ : ∃ no, out.length = no := ⟨_, rfl⟩
      rw [hno] at HJ hc31 ⊢
      have HNO := Lib.hid hno
      clear hno
      have hnob : no ≤ 2097152 := by
        have h1 := fold_bound k l m _ hy
        rw [hout] at h1
        have h2 := len_szB 1 out
        have h3 := HK.out.2
        rw [HNO.out] at h2
        omega
      clear hy hva hna hho hbel hone k0 hout hcu2
      go_wp2
      obtain ⟨p, hp⟩ : ∃ p, wr.heap.size = p := ⟨_, rfl⟩
      obtain ⟨w1, hw1⟩ : ∃ w1, wr.alloc (.cells #[.int .i64 op, .string name, .slice a2 n2 p2, .int .i64 i3, .int .i64 x0, .string x1, .int .i64 x2, .slice a7 n7 p7, .slice a8 n8 p8, .slice a9 n9 p9, .slice au na cu] 38) = w1 := ⟨_, rfl⟩
      have hb01 : Below wr.heap.size wr w1 := by rw [← hw1]; exact (Below.refl _ _).alloc (Nat.le_refl _) _
      have hpb : w1.heap[p]? = some (.cells #[.int .i64 op, .string name, .slice a2 n2 p2, .int .i64 i3, .int .i64 x0, .string x1, .int .i64 x2, .slice a7 n7 p7, .slice a8 n8 p8, .slice a9 n9 p9, .slice au na cu] 38 (0, 0)) := by
        rw [← hw1, ← hp]; exact heap_alloc_new _ _
      have hpl : p < w1.heap.size := (Array.getElem?_eq_some_iff.1 hpb).1
      rw [hw1, hp]
      have hWp : W.heap.size ≤ p := by rw [← hp]; exact HW.out.size
      have HF := Lib.hid ((HJ.out.toFP hp).below hb01)
      have HW1 := Lib.hid (And.intro (HW.out.trans (hb01.mono HW.out.size)) (And.intro hpb (And.intro hpl hWp)))
      clear c0 c1 c2 c3 c4 c5 c6 c7 c8 c9 c10 hw1 hb01 hpb hpl hp HJ HW hWp
      go_loopw [6, 7] (fun va i wr => ∃ j : Nat, i = .int .i64 j ∧ j ≤ na ∧ Hid (J2 w1 wr A va (mapF (fuseF k) (arms.take j)))) (fun _ i _ => na - (intOf i).toNat)
      case atStart => exact ⟨0, rfl, Nat.zero_le _, Lib.hid (J2.nil w1 A)⟩
      case round =>
        obtain ⟨j, rfl, hj, HI⟩ := hrel
        have hbx : Below W.heap.size W wr := by
          obtain ⟨row, q, _⟩ := HI.out
          exact HW1.out.1.trans (q.mono HW1.out.1.size)
        have hbi : Below w1.heap.size w1 wr := by
          obtain ⟨row, q, _⟩ := HI.out; exact q
        have hpb : wr.heap[p]? = some (.cells #[.int .i64 op, .string name, .slice a2 n2 p2, .int .i64 i3, .int .i64 x0, .string x1, .int .i64 x2, .slice a7 n7 p7, .slice a8 n8 p8, .slice a9 n9 p9, .slice au na cu] 38 (0, 0)) := (hbi.block p HW1.out.2.2.1).trans HW1.out.2.1
        have hpc : wr.cell? ⟨p, 10, none⟩ = some (.slice au na cu) := by rw [cell_of_row _ p 10 _ 38 (0, 0) hpb]; rfl
        have hpl : p < wr.heap.size := (Array.getElem?_eq_some_iff.1 hpb).1
        by_cases hlt2 : j < na
        · obtain ⟨z, hz⟩ : ∃ z, arms[j]? = some z := ⟨_, getE (by rw [HB.out.2.1]; exact hlt2)⟩
          obtain ⟨b2, off2, cap2, u2, he, _, _, _, hbs2, d1, d2, hb2⟩ := (HB.out.1.stay (Stay.below hbx)).get j z hz
          simp only [Value.slice.injEq, true_and] at he
          obtain ⟨rfl, -, rfl⟩ := he
          obtain ⟨con, body⟩ := z
          simp only [Arm.con, Arm.body] at d1 d2 hb2
          obtain ⟨au2, cu2, rfl, _, _⟩ := hb2.any
          obtain ⟨nb, hnb⟩ : ∃ nb, body.length = nb := ⟨_, rfl⟩
          rw [hnb] at d2 hb2
          have HZ := Lib.hid hz
          have hsz : szB 1 body < k ∧ szB 1 body ≤ 2097152 := by
            have h1 := szB_mem 1 (List.mem_of_getElem? HY.out)
            have h2 := szA_mem 1 (List.mem_of_getElem? HZ.out)
            simp only [Stm.arms, Arm.body] at h1 h2
            have h3 := HK.out
            omega
          have hcl := IH.out body wr A _ hsz.1 hsz.2 hb2
          obtain ⟨row, hq1, hown, hq3⟩ := HI.out
          obtain ⟨nl, hnl⟩ : ∃ nl, (mapF (fuseF k) (arms.take j)).length = nl := ⟨_, rfl⟩
          have hnlj : nl = j := by rw [← hnl]; simp [mapF]; have := HB.out.2.1; omega
          rw [hnl] at hown
          have hnaN : na ≤ 2097152 := by
            have h1 := szB_mem 1 (List.mem_of_getElem? HY.out)
            simp only [Stm.arms] at h1
            have h2 := len_szA arms
            have h3 := HK.out
            have h4 := HB.out.2.1
            omega
          have HNLJ := Lib.hid hnlj
          have hnlb : nl ≤ 2097152 := by omega
          clear hnlj
          have HQ := Lib.hid (And.intro hq1 (And.intro hown (And.intro hnl hq3)))
          obtain ⟨i0, hi, hz0, hz1, hz2⟩ := info_parts infoz49
          clear hq1 hown hnl hq3 hsz hz hb2 hnb hbx hbi hpb
          go_wp2_with (first
            | (go_at_call 18
               (with_reducible refine hcl.mono ?_)
               rintro e w2 ⟨v1, rfl, ho2, hb2⟩
               obtain ⟨a1, cp1, rfl, hc1, hc2⟩ := ho2.any
               obtain ⟨nf, hnf⟩ : ∃ nf, (fuseF k body).length = nf := ⟨_, rfl⟩
               rw [hnf] at ho2 hc1 ⊢
               have e10 := (World.cell?_of_block (a := ⟨p, 10, none⟩) (hb2.block _ hpl)).trans hpc
               have e1 := (World.cell?_of_block (a := ⟨b2, off2 + j * 2, none⟩) (hb2.block _ hbs2)).trans d1
               have HO2 := Lib.hid (And.intro ho2 (And.intro hb2 (own_keep HQ.out.2.1 (fun g hg => hb2.block g (HQ.out.2.1.lt g hg).2))))
               clear ho2 hb2)
            | (at_builtin; go_must (refine wpList_append_lies _ rfl _ _ 36 rfl w1.heap.size 49 i0 _ 2 40 Try.underlying36 hi hz0 hz1 hz2 rfl (by decide) _ nl row rfl (HO2.out.2.2.alloc _) ⟨w2.heap.size, 0, none⟩ 1 1 [.string con, .slice a1 nf cp1] rfl rfl ?g1 ?g2 (by decide) ?g3 ?g4 ?g5 (w2.heap.size + 1) (by simp) ?_)))
          case g1 =>
            first
              | exact World.news_of_block (cs := #[.string con, .slice a1 nf cp1]) (t := 49) (fr := (0, 0)) (heap_alloc_new w2 _)
              | (intro j u hj; exact World.news_of_block (cs := #[.string con, .slice a1 nf cp1]) (t := 49) (fr := (0, 0)) (heap_alloc_new w2 _) j u hj)
          case g2 =>
            intro u hu
            simp only [List.mem_cons, List.not_mem_nil, or_false] at hu
            rcases hu with rfl | rfl <;> rfl
          case g3 => unfold maxLen; omega
          case g4 => omega
          case g5 => have := HO2.out.2.1.size; have := HQ.out.1.size; simp; omega
          intro gg capg w3 hown3 hgrow3 hat3 hlt3
          have HG := Lib.hid (J2.snoc (fun b hb => Nat.lt_of_lt_of_le (HA.out.1 b hb) HW1.out.1.size) HQ.out.1 HQ.out.2.1 HQ.out.2.2.1 HQ.out.2.2.2 HO2.out.2.1 HO2.out.1 hown3 hgrow3 (by
            rcases hat3 with r | r
            · exact Or.inl r.symm
            · exact Or.inr (fun g e => by simp [Value.ownBlock] at e; omega)))
          clear hown3 hgrow3 hat3 hcl e10 e1 d1 d2 hpc
          go_wp2
          refine ⟨⟨j + 1, by simp, by omega, Lib.hid ?_⟩, by simp [intOf]; omega⟩
          have e : mapF (fuseF k) (arms.take (j + 1)) = mapF (fuseF k) (arms.take j) ++ [.mk con (fuseF k body)] := by
            rw [take_snoc HZ.out]; simp [mapF, Arm.con, Arm.body]
          rw [e]
          have := HG.out
          exact this
        · have hall : arms.take j = arms := List.take_of_length_le (by rw [HB.out.2.1]; omega)
          rw [hall] at HI
          obtain ⟨ao, co, rfl, hco1, hco2⟩ : ∃ ao co, u6 = .slice ao na co ∧ na ≤ co ∧ co ≤ 9223372036854775807 := by
            obtain ⟨row, _, q, _⟩ := HI.out
            have := own_form q
            simpa [mapF, HB.out.2.1] using this
          have hpf : wr.frozen? ⟨p, 10, none⟩ = false := by simp [World.frozen?, hpb]
          have HPB := Lib.hid hpb
          have HBI := Lib.hid hbi
          clear hall hpb hbi hbx hpl
          by_cases hno : no = 0
          · subst hno
            have hd0 : decide ((0 : Int) > 0) = false := by decide
            go_wp2
            clear hpc hpf
            refine gen_world (S := fun w2 => FP W w2 A (.slice a3 0 co3) out p ∧ VA w2 (fun b => A b ∨ w1.heap.size ≤ b) (.slice ao na co) (mapF (fuseF k) arms) ∧ w2.heap[p]? = some (.cells #[.int .i64 op, .string name, .slice a2 n2 p2, .int .i64 i3, .int .i64 x0, .string x1, .int .i64 x2, .slice a7 n7 p7, .slice a8 n8 p8, .slice a9 n9 p9, .slice ao na co] 38 (0, 0))) ⟨?_, ?_, ?_⟩ ?_
            · exact (HF.out.below HBI.out).setp HW1.out.2.2.2
            · exact HI.out.va.stay ⟨by simp [World.setCell], fun b _ hA => ⟨hA, Below.heap_setCell wr ⟨p, 10, none⟩ _ b (by
                intro e
                have e : b = p := e
                have h1 := HW1.out.2.2
                rcases hA with q | q
                · have := HA.out.1 b q; omega
                · omega)⟩⟩
            · exact heap_setCell_same wr p 10 _ 38 _ HPB.out
            rintro w2 ⟨hF, hVA, hPB⟩
            go_quiet (fail)
            refine gen_world' (S := fun w3 => FP W w3 A (.slice a3 0 co3) out p ∧ VA w3 (fun b => A b ∨ w1.heap.size ≤ b) (.slice ao na co) (mapF (fuseF k) arms) ∧ w3.heap[p]? = some (.cells #[.int .i64 op, .string name, .slice a2 n2 p2, .int .i64 i3, .int .i64 x0, .string x1, .int .i64 x2, .slice a7 n7 p7, .slice a8 n8 p8, .slice a9 n9 p9, .slice ao na co] 38 (0, 0))) ⟨hF.below (below_drewN nq _ w2), hVA.stay (Stay.below (below_drewN nq _ w2)), hPB⟩ ?_
            clear hF hVA hPB
            rintro w3 ⟨hF, hVA, hPB⟩
            obtain ⟨row, hb3, hown, hea, hvp⟩ := hF
            rw [HNO.out] at hown
            have c0 : w3.cell? ⟨p, 0, none⟩ = some (.int .i64 op) := by rw [cell_of_row _ p 0 _ 38 (0, 0) hPB]; rfl
            have c1 : w3.cell? ⟨p, 1, none⟩ = some (.string name) := by rw [cell_of_row _ p 1 _ 38 (0, 0) hPB]; rfl
            have c2 : w3.cell? ⟨p, 2, none⟩ = some (.slice a2 n2 p2) := by rw [cell_of_row _ p 2 _ 38 (0, 0) hPB]; rfl
            have c3 : w3.cell? ⟨p, 3, none⟩ = some (.int .i64 i3) := by rw [cell_of_row _ p 3 _ 38 (0, 0) hPB]; rfl
            have c4 : w3.cell? ⟨p, 4, none⟩ = some (.int .i64 x0) := by rw [cell_of_row _ p 4 _ 38 (0, 0) hPB]; rfl
            have c5 : w3.cell? ⟨p, 5, none⟩ = some (.string x1) := by rw [cell_of_row _ p 5 _ 38 (0, 0) hPB]; rfl
            have c6 : w3.cell? ⟨p, 6, none⟩ = some (.int .i64 x2) := by rw [cell_of_row _ p 6 _ 38 (0, 0) hPB]; rfl
            have c7 : w3.cell? ⟨p, 7, none⟩ = some (.slice a7 n7 p7) := by rw [cell_of_row _ p 7 _ 38 (0, 0) hPB]; rfl
            have c8 : w3.cell? ⟨p, 8, none⟩ = some (.slice a8 n8 p8) := by rw [cell_of_row _ p 8 _ 38 (0, 0) hPB]; rfl
            have c9 : w3.cell? ⟨p, 9, none⟩ = some (.slice a9 n9 p9) := by rw [cell_of_row _ p 9 _ 38 (0, 0) hPB]; rfl
            have c10 : w3.cell? ⟨p, 10, none⟩ = some (.slice ao na co) := by rw [cell_of_row _ p 10 _ 38 (0, 0) hPB]; rfl
            have hHO := Lib.hid hown
            have HQ := Lib.hid (And.intro hb3 (And.intro hea (And.intro hvp hVA)))
            obtain ⟨i0, hi, hz0, hz1, hz2⟩ := info_parts infoz38
            clear hb3 hown hea hvp hVA hPB
            go_wp2_with (at_builtin; go_must (refine wpList_append_lies _ rfl _ _ 22 rfl W.heap.size 38 i0 _ 11 184 Try.underlying22 hi hz0 hz1 hz2 rfl (by decide) _ _ _ rfl (hHO.out.alloc _) ⟨w3.heap.size, 0, none⟩ 1 1 [.int .i64 op, .string name, .slice a2 n2 p2, .int .i64 i3, .int .i64 x0, .string x1, .int .i64 x2, .slice a7 n7 p7, .slice a8 n8 p8, .slice a9 n9 p9, .slice ao na co] rfl rfl ?g1 ?g2 (by decide) ?g3 ?g4 ?g5 (w3.heap.size + 1) (by simp) ?_))
            case g1 =>
              first
                | exact World.news_of_block (cs := #[.int .i64 op, .string name, .slice a2 n2 p2, .int .i64 i3, .int .i64 x0, .string x1, .int .i64 x2, .slice a7 n7 p7, .slice a8 n8 p8, .slice a9 n9 p9, .slice ao na co]) (t := 38) (fr := (0, 0)) (heap_alloc_new w3 _)
                | (intro j u hj; exact World.news_of_block (cs := #[.int .i64 op, .string name, .slice a2 n2 p2, .int .i64 i3, .int .i64 x0, .string x1, .int .i64 x2, .slice a7 n7 p7, .slice a8 n8 p8, .slice a9 n9 p9, .slice ao na co]) (t := 38) (fr := (0, 0)) (heap_alloc_new w3 _) j u hj)
            case g2 =>
              intro u hu
              simp only [List.mem_cons, List.not_mem_nil, or_false] at hu
              rcases hu with rfl | rfl | rfl | rfl | rfl | rfl | rfl | rfl | rfl | rfl | rfl <;> rfl
            case g3 => unfold maxLen; omega
            case g4 => omega
            case g5 => exact Nat.le_trans HQ.out.1.size (by simp)
            intro gg capg w4 hown4 hgrow4 hat4 hlt4
            have HG := Lib.hid (FO.snoc (hd := ⟨op, name, strs, .slice a2 n2 p2, .int .i64 i3, .int .i64 x0, .string x1, .int .i64 x2, .slice a7 n7 p7, .slice a8 n8 p8, .slice a9 n9 p9⟩) HQ.out.1 hHO.out HNO.out HQ.out.2.1 HQ.out.2.2.1 HA.out.1 (HB.out.2.2.stay (Stay.below HQ.out.1)) HQ.out.2.2.2 HW1.out.2.2.1 HW1.out.2.2.2 hown4 hgrow4 (by
              rcases hat4 with r | r
              · exact Or.inl r.symm
              · exact Or.inr (fun g e => by simp [Value.ownBlock] at e; omega)))
            clear hown4 hgrow4 hat4 c0 c1 c2 c3 c4 c5 c6 c7 c8 c9 c10
            go_wp2
            refine ⟨⟨m + 1, by simp, by omega, Lib.hid ?_⟩, by simp [intOf]; omega⟩
            rw [take_snoc HY.out, List.foldl_append, List.foldl_cons, List.foldl_nil, HO.out]
            have hnil : out = [] := List.eq_nil_of_length_eq_zero HNO.out
            have hg := HG.out
            rw [hnil] at hg ⊢
            exact hg
          · obtain ⟨nn, rfl⟩ : ∃ nn, no = nn + 1 := ⟨no - 1, by omega⟩
            clear hno
            go_wp2
            clear hpc hpf
            refine gen_world (S := fun w2 => FP W w2 A (.slice a3 (nn + 1) co3) out p ∧ VA w2 (fun b => A b ∨ w1.heap.size ≤ b) (.slice ao na co) (mapF (fuseF k) arms) ∧ w2.heap[p]? = some (.cells #[.int .i64 op, .string name, .slice a2 n2 p2, .int .i64 i3, .int .i64 x0, .string x1, .int .i64 x2, .slice a7 n7 p7, .slice a8 n8 p8, .slice a9 n9 p9, .slice ao na co] 38 (0, 0))) ⟨?_, ?_, ?_⟩ ?_
            · exact (HF.out.below HBI.out).setp HW1.out.2.2.2
            · exact HI.out.va.stay ⟨by simp [World.setCell], fun b _ hA => ⟨hA, Below.heap_setCell wr ⟨p, 10, none⟩ _ b (by
                intro e
                have e : b = p := e
                have h1 := HW1.out.2.2
                rcases hA with q | q
                · have := HA.out.1 b q; omega
                · omega)⟩⟩
            · exact heap_setCell_same wr p 10 _ 38 _ HPB.out
            rintro w2 ⟨hF, hVA, hPB⟩
            have HF2 := Lib.hid hF
            obtain ⟨row, hb3, hown, hea, hvp⟩ := hF
            rw [HNO.out] at hown
            obtain ⟨t, ht⟩ : ∃ t, out[nn]? = some t := ⟨_, getE (by rw [HNO.out]; omega)⟩
            obtain ⟨ut, hcs, hto, htv⟩ := EB_get nn t hea ht
            obtain ⟨⟨top, tname, tstrs, tnames, tinst, te0, te1, te2, te3, te4, targs⟩, tarms⟩ := t
            simp only [Stm.hd, Stm.arms, rawS] at hcs hto htv
            obtain ⟨b2, m2, r2, j3, b9, m9, r9, y0, y1, y2, b7, m7, r7, b8, m8, r8, f2, f3, f4, f5, f6, f7, f8, f9⟩ := hto.forms
            subst f2; subst f3; subst f4; subst f5; subst f6; subst f7; subst f8; subst f9
            obtain ⟨at_, ct, rfl, hct1, hct2⟩ := htv.any
            have hct3 : ct ≤ 9223372036854775807 := by unfold maxLen at hct2; exact hct2
            obtain ⟨nt, hnt⟩ : ∃ nt, tarms.length = nt := ⟨_, rfl⟩
            rw [hnt] at hcs hct1
            have hform : ∃ g, a3 = some ⟨g, 0, none⟩ := by
              rcases hown.2 with ⟨_, e⟩ | ⟨g, capo, cur, e, _⟩
              · omega
              · cases e; exact ⟨g, rfl⟩
            obtain ⟨g, rfl⟩ := hform
            have hcg : ∀ j, j < 11 → w2.cell? ⟨g, nn * 11 + j, none⟩ = row[nn * 11 + j]? := fun j hj => hown.cellAt (nn * 11 + j) (by omega)
            have g0 := (hcg 0 (by decide)).trans (hcs 0 (by decide))
            have g1 := (hcg 1 (by decide)).trans (hcs 1 (by decide))
            have g2 := (hcg 2 (by decide)).trans (hcs 2 (by decide))
            have g3 := (hcg 3 (by decide)).trans (hcs 3 (by decide))
            have g4 := (hcg 4 (by decide)).trans (hcs 4 (by decide))
            have g5 := (hcg 5 (by decide)).trans (hcs 5 (by decide))
            have g6 := (hcg 6 (by decide)).trans (hcs 6 (by decide))
            have g7 := (hcg 7 (by decide)).trans (hcs 7 (by decide))
            have g8 := (hcg 8 (by decide)).trans (hcs 8 (by decide))
            have g9 := (hcg 9 (by decide)).trans (hcs 9 (by decide))
            have g10 := (hcg 10 (by decide)).trans (hcs 10 (by decide))
            simp only [List.getElem?_cons_zero, List.getElem?_cons_succ, Nat.add_zero] at g0 g1 g2 g3 g4 g5 g6 g7 g8 g9 g10
            have c0 : w2.cell? ⟨p, 0, none⟩ = some (.int .i64 op) := by rw [cell_of_row _ p 0 _ 38 (0, 0) hPB]; rfl
            have c1 : w2.cell? ⟨p, 1, none⟩ = some (.string name) := by rw [cell_of_row _ p 1 _ 38 (0, 0) hPB]; rfl
            have c2 : w2.cell? ⟨p, 2, none⟩ = some (.slice a2 n2 p2) := by rw [cell_of_row _ p 2 _ 38 (0, 0) hPB]; rfl
            have c3 : w2.cell? ⟨p, 3, none⟩ = some (.int .i64 i3) := by rw [cell_of_row _ p 3 _ 38 (0, 0) hPB]; rfl
            have c4 : w2.cell? ⟨p, 4, none⟩ = some (.int .i64 x0) := by rw [cell_of_row _ p 4 _ 38 (0, 0) hPB]; rfl
            have c5 : w2.cell? ⟨p, 5, none⟩ = some (.string x1) := by rw [cell_of_row _ p 5 _ 38 (0, 0) hPB]; rfl
            have c6 : w2.cell? ⟨p, 6, none⟩ = some (.int .i64 x2) := by rw [cell_of_row _ p 6 _ 38 (0, 0) hPB]; rfl
            have c7 : w2.cell? ⟨p, 7, none⟩ = some (.slice a7 n7 p7) := by rw [cell_of_row _ p 7 _ 38 (0, 0) hPB]; rfl
            have c8 : w2.cell? ⟨p, 8, none⟩ = some (.slice a8 n8 p8) := by rw [cell_of_row _ p 8 _ 38 (0, 0) hPB]; rfl
            have c9 : w2.cell? ⟨p, 9, none⟩ = some (.slice a9 n9 p9) := by rw [cell_of_row _ p 9 _ 38 (0, 0) hPB]; rfl
            have c10 : w2.cell? ⟨p, 10, none⟩ = some (.slice ao na co) := by rw [cell_of_row _ p 10 _ 38 (0, 0) hPB]; rfl
            have HT := Lib.hid (And.intro ht (And.intro hnt (And.intro hto htv)))
            have hvbo : VB w2 (fun _ => True) (.slice (some ⟨g, 0, none⟩) (nn + 1) co3) out := VB.own hown HNO.out.symm (fun _ _ => trivial) (EB.stay (Stay.weaken _ (fun b _ _ => trivial)) _ _ hea)
            have hsub := hvbo.sub ht
            rw [Nat.zero_add] at hsub
            have hgl : g < w2.heap.size := (own_block hown (g := g) rfl).2.1
            have hpl : p < w2.heap.size := (Array.getElem?_eq_some_iff.1 hPB).1
            have HVA := Lib.hid hVA
            have HPB2 := Lib.hid hPB
            have HSB := Lib.hid hsub
            have HOW := Lib.hid hown
            have HG := Lib.hid (And.intro g0 (And.intro g1 (And.intro g2 (And.intro g3 (And.intro g4 (And.intro g5 (And.intro g6 (And.intro g7 (And.intro g8 (And.intro g9 g10))))))))))
            have HC := Lib.hid (And.intro c0 (And.intro c1 (And.intro c2 (And.intro c3 (And.intro c4 (And.intro c5 (And.intro c6 (And.intro c7 (And.intro c8 (And.intro c9 c10))))))))))
            clear ht hto htv hb3 hown hea hvp hVA hPB hcs hcg hnt hct2 hvbo hsub
            clear g2 g3 g4 g5 g6 g7 g8 g9 g10 c2 c3 c4 c5 c6 c7 c8 c9 c10
            have hd0 : decide ((nn : Int) + 1 > 0) = true := decide_eq_true (by omega)
            have hd1 : decide ((0 : Int) < (nn : Int) + 1) = true := decide_eq_true (by omega)
            have hwr : IntKind.i64.wrap (nn : Int) = (nn : Int) := by rw [IntKind.wrap_i64]; omega
            have hl1 : (0 : Int) ≤ (nn : Int) := by omega
            have hl2 : (nn : Int) < (nn : Int) + 1 := by omega
            have hl3 : (nn : Int) ≤ (nn : Int) + 1 := by omega
            have hl4 : (nn : Int) ≤ (co3 : Int) := by omega
            have hl5 : ¬ co3 = nn := by omega
            have hl6 : (nn : Int) + 1 ≤ (co3 : Int) := by omega
            by_cases o5 : op = 5
            · subst o5
              by_cases t5 : top = 5
              · subst t5
                by_cases en : tname = name
                · subst en
                  have ht : (tname.toList == tname.toList) = true := by simp
                  have hs1 := rsets_any (HSB.out.stay (Stay.below ((Below.refl w2.heap.size w2).drew))) tname
                  obtain ⟨st, hst⟩ : ∃ st, setsB tname [.mk ⟨5, tname, tstrs, .slice b2 m2 r2, .int .i64 j3, .int .i64 y0, .string y1, .int .i64 y2, .slice b7 m7 r7, .slice b8 m8 r8, .slice b9 m9 r9⟩ tarms] = st := ⟨_, rfl⟩
                  have HST := Lib.hid hst
                  rw [hst] at hs1
                  clear hst
                  cases st with
                  | true =>
                    have htgf : tog (.mk ⟨5, tname, tstrs, .slice b2 m2 r2, .int .i64 j3, .int .i64 y0, .string y1, .int .i64 y2, .slice b7 m7 r7, .slice b8 m8 r8, .slice b9 m9 r9⟩ tarms) (.mk ⟨5, tname, strs, .slice a2 n2 p2, .int .i64 i3, .int .i64 x0, .string x1, .int .i64 x2, .slice a7 n7 p7, .slice a8 n8 p8, .slice a9 n9 p9⟩ (mapF (fuseF k) arms)) = false := by
                      have h := HST.out
                      simp only [setsB, Bool.or_false] at h
                      unfold tog
                      show (_ && !setsS tname (.mk ⟨5, tname, tstrs, .slice b2 m2 r2, .int .i64 j3, .int .i64 y0, .string y1, .int .i64 y2, .slice b7 m7 r7, .slice b8 m8 r8, .slice b9 m9 r9⟩ tarms)) = false
                      rw [h]; simp
                    have HTF := Lib.hid htgf
                    clear htgf
                    go_wp2
                    go_still_tail 34, (by kernel_rfl)
                    change wpList _ _ _ _ _ w2.drew
                    go_wp2_with (first
                      | (go_at_call 30
                         (with_reducible refine hs1.mono ?_)
                         rintro e w3 ⟨rfl, hbz'⟩
                         have hb23 : Below w2.heap.size w2 w3 := ((Below.refl w2.heap.size w2).drew).trans hbz'
                         have hF := HF2.out.below hb23
                         have hVA := HVA.out.stay (Stay.below hb23)
                         have hPB := (hb23.block p hpl).trans HPB2.out
                         obtain ⟨row, hb3, hown, hea, hvp⟩ := hF
                         rw [HNO.out] at hown
                         have c0 : w3.cell? ⟨p, 0, none⟩ = some (.int .i64 5) := by rw [cell_of_row _ p 0 _ 38 (0, 0) hPB]; rfl
                         have c1 : w3.cell? ⟨p, 1, none⟩ = some (.string tname) := by rw [cell_of_row _ p 1 _ 38 (0, 0) hPB]; rfl
                         have c2 : w3.cell? ⟨p, 2, none⟩ = some (.slice a2 n2 p2) := by rw [cell_of_row _ p 2 _ 38 (0, 0) hPB]; rfl
                         have c3 : w3.cell? ⟨p, 3, none⟩ = some (.int .i64 i3) := by rw [cell_of_row _ p 3 _ 38 (0, 0) hPB]; rfl
                         have c4 : w3.cell? ⟨p, 4, none⟩ = some (.int .i64 x0) := by rw [cell_of_row _ p 4 _ 38 (0, 0) hPB]; rfl
                         have c5 : w3.cell? ⟨p, 5, none⟩ = some (.string x1) := by rw [cell_of_row _ p 5 _ 38 (0, 0) hPB]; rfl
                         have c6 : w3.cell? ⟨p, 6, none⟩ = some (.int .i64 x2) := by rw [cell_of_row _ p 6 _ 38 (0, 0) hPB]; rfl
                         have c7 : w3.cell? ⟨p, 7, none⟩ = some (.slice a7 n7 p7) := by rw [cell_of_row _ p 7 _ 38 (0, 0) hPB]; rfl
                         have c8 : w3.cell? ⟨p, 8, none⟩ = some (.slice a8 n8 p8) := by rw [cell_of_row _ p 8 _ 38 (0, 0) hPB]; rfl
                         have c9 : w3.cell? ⟨p, 9, none⟩ = some (.slice a9 n9 p9) := by rw [cell_of_row _ p 9 _ 38 (0, 0) hPB]; rfl
                         have c10 : w3.cell? ⟨p, 10, none⟩ = some (.slice ao na co) := by rw [cell_of_row _ p 10 _ 38 (0, 0) hPB]; rfl
                         have hHO := Lib.hid hown
                         have HQ := Lib.hid (And.intro hb3 (And.intro hea (And.intro hvp hVA)))
                         obtain ⟨i0, hi, hz0, hz1, hz2⟩ := info_parts infoz38
                         clear hb3 hown hea hvp hVA hPB
                         clear hbz' hb23 g0 g1)
                      | (at_builtin; go_must (refine wpList_append_lies _ rfl _ _ 22 rfl W.heap.size 38 i0 _ 11 184 Try.underlying22 hi hz0 hz1 hz2 rfl (by decide) _ _ _ rfl (hHO.out.alloc _) ⟨w3.heap.size, 0, none⟩ 1 1 [.int .i64 5, .string tname, .slice a2 n2 p2, .int .i64 i3, .int .i64 x0, .string x1, .int .i64 x2, .slice a7 n7 p7, .slice a8 n8 p8, .slice a9 n9 p9, .slice ao na co] rfl rfl ?g1 ?g2 (by decide) ?g3 ?g4 ?g5 (w3.heap.size + 1) (by simp) ?_)))
                    case g1 =>
                      first
                        | exact World.news_of_block (cs := #[.int .i64 5, .string tname, .slice a2 n2 p2, .int .i64 i3, .int .i64 x0, .string x1, .int .i64 x2, .slice a7 n7 p7, .slice a8 n8 p8, .slice a9 n9 p9, .slice ao na co]) (t := 38) (fr := (0, 0)) (heap_alloc_new w3 _)
                        | (intro j u hj; exact World.news_of_block (cs := #[.int .i64 5, .string tname, .slice a2 n2 p2, .int .i64 i3, .int .i64 x0, .string x1, .int .i64 x2, .slice a7 n7 p7, .slice a8 n8 p8, .slice a9 n9 p9, .slice ao na co]) (t := 38) (fr := (0, 0)) (heap_alloc_new w3 _) j u hj)
                    case g2 =>
                      intro u hu
                      simp only [List.mem_cons, List.not_mem_nil, or_false] at hu
                      rcases hu with rfl | rfl | rfl | rfl | rfl | rfl | rfl | rfl | rfl | rfl | rfl <;> rfl
                    case g3 => unfold maxLen; omega
                    case g4 => omega
                    case g5 => exact Nat.le_trans HQ.out.1.size (by simp)
                    intro gg capg w4 hown4 hgrow4 hat4 hlt4
                    have HG := Lib.hid (FO.snoc (hd := ⟨5, tname, strs, .slice a2 n2 p2, .int .i64 i3, .int .i64 x0, .string x1, .int .i64 x2, .slice a7 n7 p7, .slice a8 n8 p8, .slice a9 n9 p9⟩) HQ.out.1 hHO.out HNO.out HQ.out.2.1 HQ.out.2.2.1 HA.out.1 (HB.out.2.2.stay (Stay.below HQ.out.1)) HQ.out.2.2.2 HW1.out.2.2.1 HW1.out.2.2.2 hown4 hgrow4 (by
                      rcases hat4 with r | r
                      · exact Or.inl r.symm
                      · exact Or.inr (fun g e => by simp [Value.ownBlock] at e; omega)))
                    clear hown4 hgrow4 hat4 c0 c1 c2 c3 c4 c5 c6 c7 c8 c9 c10
                    go_wp2
                    refine ⟨⟨m + 1, by simp, by omega, Lib.hid ?_⟩, by simp [intOf]; omega⟩
                    rw [take_snoc HY.out, List.foldl_append, List.foldl_cons, List.foldl_nil, HO.out]
                    have hft : fstep (fuseF k) out (.mk ⟨5, tname, strs, .slice a2 n2 p2, .int .i64 i3, .int .i64 x0, .string x1, .int .i64 x2, .slice a7 n7 p7, .slice a8 n8 p8, .slice a9 n9 p9⟩ arms) = out ++ [.mk ⟨5, tname, strs, .slice a2 n2 p2, .int .i64 i3, .int .i64 x0, .string x1, .int .i64 x2, .slice a7 n7 p7, .slice a8 n8 p8, .slice a9 n9 p9⟩ (mapF (fuseF k) arms)] := fstep_false _ _ _ nn _ HNO.out HT.out.1 HTF.out
                    rw [hft]
                    exact HG.out
                  | false =>
                    have htgt : tog (.mk ⟨5, tname, tstrs, .slice b2 m2 r2, .int .i64 j3, .int .i64 y0, .string y1, .int .i64 y2, .slice b7 m7 r7, .slice b8 m8 r8, .slice b9 m9 r9⟩ tarms) (.mk ⟨5, tname, strs, .slice a2 n2 p2, .int .i64 i3, .int .i64 x0, .string x1, .int .i64 x2, .slice a7 n7 p7, .slice a8 n8 p8, .slice a9 n9 p9⟩ (mapF (fuseF k) arms)) = true := by
                      have h := HST.out
                      simp only [setsB, Bool.or_false] at h
                      unfold tog
                      show (_ && !setsS tname (.mk ⟨5, tname, tstrs, .slice b2 m2 r2, .int .i64 j3, .int .i64 y0, .string y1, .int .i64 y2, .slice b7 m7 r7, .slice b8 m8 r8, .slice b9 m9 r9⟩ tarms)) = true
                      rw [h, decide_eq_true ⟨rfl, rfl, rfl⟩]; rfl
                    have HTT := Lib.hid htgt
                    have hsz : szA 1 (tarms ++ mapF (fuseF k) arms) ≤ k ∧ szA 1 (tarms ++ mapF (fuseF k) arms) ≤ 2097152 := by
                      have h1 := fold_bound k l m _ HY.out
                      rw [HO.out] at h1
                      have h2 := szB_mem 1 (List.mem_of_getElem? HT.out.1)
                      have h3 := szA_mapF 1 (szB_fuse 1 k) arms
                      rw [szS_eq] at h1
                      simp only [Stm.arms] at h1 h2
                      have h5 := HK.out
                      rw [szA_append]
                      refine ⟨by omega, by omega⟩
                    have hbW2 : Below W.heap.size W w2 := by obtain ⟨row, q, _⟩ := HF2.out; exact q
                    have hgp : g < p := by obtain ⟨row, _, _, _, q⟩ := HF2.out; exact q g rfl
                    have hWg : W.heap.size ≤ g := (HOW.out.lt g rfl).1
                    have hbc : ∀ w', Below w2.heap.size w2 w' → Calls Try.prog 35 #[.agg #[.int .i64 5, .string tname, .slice b2 m2 r2, .int .i64 j3, .int .i64 y0, .string y1, .int .i64 y2, .slice b7 m7 r7, .slice b8 m8 r8, .slice b9 m9 r9, .slice at_ nt ct], .agg #[.int .i64 5, .string tname, .slice a2 n2 p2, .int .i64 i3, .int .i64 x0, .string x1, .int .i64 x2, .slice a7 n7 p7, .slice a8 n8 p8, .slice a9 n9 p9, .slice ao na co]] w' fun e w'' => ∃ a n c, e = .returned (.agg #[.int .i64 5, .string tname, .slice none 0 0, .int .i64 0, .int .i64 0, .string ⟨#[]⟩, .int .i64 0, .slice none 0 0, .slice none 0 0, .slice none 0 0, .slice a n c]) ∧ VA w'' (fun b => (fun b => ((A b ∨ W.heap.size ≤ b) ∧ (Value.slice (some ⟨g, 0, none⟩) (nn + 1) co3).ownBlock ≠ some b) ∧ b < w2.heap.size) b ∨ w'.heap.size ≤ b) (.slice a n c) (join (fuseF k) (tarms ++ mapF (fuseF k) arms)) ∧ Below w'.heap.size w' w'' := fun w' hb => by
                      have hne : ∀ b, A b → b < W.heap.size := HA.out.1
                      have st1 : Stay w2 (fun b => ((A b ∨ W.heap.size ≤ b) ∧ (Value.slice (some ⟨g, 0, none⟩) (nn + 1) co3).ownBlock ≠ some b) ∧ b < p) w' (fun b => ((A b ∨ W.heap.size ≤ b) ∧ (Value.slice (some ⟨g, 0, none⟩) (nn + 1) co3).ownBlock ≠ some b) ∧ b < w2.heap.size) := ⟨hb.size, fun b hbl q => ⟨⟨q.1, hbl⟩, hb.block b hbl⟩⟩
                      have st2 : Stay W A w' (fun b => ((A b ∨ W.heap.size ≤ b) ∧ (Value.slice (some ⟨g, 0, none⟩) (nn + 1) co3).ownBlock ≠ some b) ∧ b < w2.heap.size) := ⟨Nat.le_trans hbW2.size hb.size, fun b hbl q => ⟨⟨⟨Or.inl q, fun e => by simp [Value.ownBlock] at e; omega⟩, Nat.lt_of_lt_of_le hbl hbW2.size⟩, (hb.block b (Nat.lt_of_lt_of_le hbl hbW2.size)).trans (hbW2.block b hbl)⟩⟩
                      have st3 : Stay w2 (fun b => A b ∨ w1.heap.size ≤ b) w' (fun b => ((A b ∨ W.heap.size ≤ b) ∧ (Value.slice (some ⟨g, 0, none⟩) (nn + 1) co3).ownBlock ≠ some b) ∧ b < w2.heap.size) := ⟨hb.size, fun b hbl q => ⟨⟨⟨by
                        rcases q with r | r
                        · exact Or.inl r
                        · exact Or.inr (by have := HW1.out.2.2; omega), fun e => by
                          simp [Value.ownBlock] at e
                          have := HW1.out.2.2
                          rcases q with r | r
                          · have := hne b r; omega
                          · omega⟩, hbl⟩, hb.block b hbl⟩⟩
                      have hT1 := HT.out.2.2.2
                      rw [HT.out.2.1] at hT1
                      exact BT.out ⟨5, tname, tstrs, .slice b2 m2 r2, .int .i64 j3, .int .i64 y0, .string y1, .int .i64 y2, .slice b7 m7 r7, .slice b8 m8 r8, .slice b9 m9 r9⟩ ⟨5, tname, strs, .slice a2 n2 p2, .int .i64 i3, .int .i64 x0, .string x1, .int .i64 x2, .slice a7 n7 p7, .slice a8 n8 p8, .slice a9 n9 p9⟩ (.slice at_ nt ct) (.slice ao na co) tarms (mapF (fuseF k) arms) w' (fun b => ((A b ∨ W.heap.size ≤ b) ∧ (Value.slice (some ⟨g, 0, none⟩) (nn + 1) co3).ownBlock ≠ some b) ∧ b < w2.heap.size) hsz.1 hsz.2 (fun b q => Nat.lt_of_lt_of_le q.2 hb.size) (HT.out.2.2.1.stay st1) (HB.out.2.2.stay st2) (hT1.stay st1) (HVA.out.stay st3)
                    have hSS : ∀ w', Below w2.heap.size w2 w' → w'.cell? ⟨g, nn * 11, none⟩ = some (.int .i64 5) ∧ w'.cell? ⟨g, nn * 11 + 1, none⟩ = some (.string tname) ∧ w'.cell? ⟨g, nn * 11 + 2, none⟩ = some (.slice b2 m2 r2) ∧ w'.cell? ⟨g, nn * 11 + 3, none⟩ = some (.int .i64 j3) ∧ w'.cell? ⟨g, nn * 11 + 4, none⟩ = some (.int .i64 y0) ∧ w'.cell? ⟨g, nn * 11 + 5, none⟩ = some (.string y1) ∧ w'.cell? ⟨g, nn * 11 + 6, none⟩ = some (.int .i64 y2) ∧ w'.cell? ⟨g, nn * 11 + 7, none⟩ = some (.slice b7 m7 r7) ∧ w'.cell? ⟨g, nn * 11 + 8, none⟩ = some (.slice b8 m8 r8) ∧ w'.cell? ⟨g, nn * 11 + 9, none⟩ = some (.slice b9 m9 r9) ∧ w'.cell? ⟨g, nn * 11 + 10, none⟩ = some (.slice at_ nt ct) ∧ w'.cell? ⟨p, 0, none⟩ = some (.int .i64 5) ∧ w'.cell? ⟨p, 1, none⟩ = some (.string tname) ∧ w'.cell? ⟨p, 2, none⟩ = some (.slice a2 n2 p2) ∧ w'.cell? ⟨p, 3, none⟩ = some (.int .i64 i3) ∧ w'.cell? ⟨p, 4, none⟩ = some (.int .i64 x0) ∧ w'.cell? ⟨p, 5, none⟩ = some (.string x1) ∧ w'.cell? ⟨p, 6, none⟩ = some (.int .i64 x2) ∧ w'.cell? ⟨p, 7, none⟩ = some (.slice a7 n7 p7) ∧ w'.cell? ⟨p, 8, none⟩ = some (.slice a8 n8 p8) ∧ w'.cell? ⟨p, 9, none⟩ = some (.slice a9 n9 p9) ∧ w'.cell? ⟨p, 10, none⟩ = some (.slice ao na co) := fun w' hb => ⟨(World.cell?_of_block (hb.block _ hgl)).trans HG.out.1, (World.cell?_of_block (hb.block _ hgl)).trans HG.out.2.1, (World.cell?_of_block (hb.block _ hgl)).trans HG.out.2.2.1, (World.cell?_of_block (hb.block _ hgl)).trans HG.out.2.2.2.1, (World.cell?_of_block (hb.block _ hgl)).trans HG.out.2.2.2.2.1, (World.cell?_of_block (hb.block _ hgl)).trans HG.out.2.2.2.2.2.1, (World.cell?_of_block (hb.block _ hgl)).trans HG.out.2.2.2.2.2.2.1, (World.cell?_of_block (hb.block _ hgl)).trans HG.out.2.2.2.2.2.2.2.1, (World.cell?_of_block (hb.block _ hgl)).trans HG.out.2.2.2.2.2.2.2.2.1, (World.cell?_of_block (hb.block _ hgl)).trans HG.out.2.2.2.2.2.2.2.2.2.1, (World.cell?_of_block (hb.block _ hgl)).trans HG.out.2.2.2.2.2.2.2.2.2.2, (World.cell?_of_block (hb.block _ hpl)).trans HC.out.1, (World.cell?_of_block (hb.block _ hpl)).trans HC.out.2.1, (World.cell?_of_block (hb.block _ hpl)).trans HC.out.2.2.1, (World.cell?_of_block (hb.block _ hpl)).trans HC.out.2.2.2.1, (World.cell?_of_block (hb.block _ hpl)).trans HC.out.2.2.2.2.1, (World.cell?_of_block (hb.block _ hpl)).trans HC.out.2.2.2.2.2.1, (World.cell?_of_block (hb.block _ hpl)).trans HC.out.2.2.2.2.2.2.1, (World.cell?_of_block (hb.block _ hpl)).trans HC.out.2.2.2.2.2.2.2.1, (World.cell?_of_block (hb.block _ hpl)).trans HC.out.2.2.2.2.2.2.2.2.1, (World.cell?_of_block (hb.block _ hpl)).trans HC.out.2.2.2.2.2.2.2.2.2.1, (World.cell?_of_block (hb.block _ hpl)).trans HC.out.2.2.2.2.2.2.2.2.2.2⟩
                    clear htgt hsz
                    go_wp2
                    go_still_tail 34, (by kernel_rfl)
                    change wpList _ _ _ _ _ w2.drew
                    go_wp2_with (go_at_call 30; (with_reducible refine hs1.mono ?_); rintro e wz ⟨rfl, hbz'⟩; have hbz : Below w2.heap.size w2 wz := ((Below.refl w2.heap.size w2).drew).trans hbz'; clear hbz')
                    have hbcz := hbc _ hbz.drew
                    have hbcy := hbc _ ((hbz.alloc hbz.size (.cells #[.int .i64 0, .string ⟨#[]⟩, .slice none 0 0, .int .i64 0, .int .i64 0, .string ⟨#[]⟩, .int .i64 0, .slice none 0 0, .slice none 0 0, .slice none 0 0, .slice none 0 0] 38)).drew)
                    have hk1 := hSS _ hbz
                    have hk2 := hSS _ hbz.drew
                    have hk3 := hSS _ ((hbz.alloc hbz.size (.cells #[.int .i64 0, .string ⟨#[]⟩, .slice none 0 0, .int .i64 0, .int .i64 0, .string ⟨#[]⟩, .int .i64 0, .slice none 0 0, .slice none 0 0, .slice none 0 0, .slice none 0 0] 38)).drew)
                    have hk4 := hSS _ (hbz.drew.alloc hbz.size (.cells #[.int .i64 0, .string ⟨#[]⟩, .slice none 0 0, .int .i64 0, .int .i64 0, .string ⟨#[]⟩, .int .i64 0, .slice none 0 0, .slice none 0 0, .slice none 0 0, .slice none 0 0] 38))
                    go_region_held3 (fun w' => w'.cell? ⟨g, nn * 11, none⟩ = some (.int .i64 5) ∧ w'.cell? ⟨g, nn * 11 + 1, none⟩ = some (.string tname) ∧ w'.cell? ⟨g, nn * 11 + 2, none⟩ = some (.slice b2 m2 r2) ∧ w'.cell? ⟨g, nn * 11 + 3, none⟩ = some (.int .i64 j3) ∧ w'.cell? ⟨g, nn * 11 + 4, none⟩ = some (.int .i64 y0) ∧ w'.cell? ⟨g, nn * 11 + 5, none⟩ = some (.string y1) ∧ w'.cell? ⟨g, nn * 11 + 6, none⟩ = some (.int .i64 y2) ∧ w'.cell? ⟨g, nn * 11 + 7, none⟩ = some (.slice b7 m7 r7) ∧ w'.cell? ⟨g, nn * 11 + 8, none⟩ = some (.slice b8 m8 r8) ∧ w'.cell? ⟨g, nn * 11 + 9, none⟩ = some (.slice b9 m9 r9) ∧ w'.cell? ⟨g, nn * 11 + 10, none⟩ = some (.slice at_ nt ct) ∧ w'.cell? ⟨p, 0, none⟩ = some (.int .i64 5) ∧ w'.cell? ⟨p, 1, none⟩ = some (.string tname) ∧ w'.cell? ⟨p, 2, none⟩ = some (.slice a2 n2 p2) ∧ w'.cell? ⟨p, 3, none⟩ = some (.int .i64 i3) ∧ w'.cell? ⟨p, 4, none⟩ = some (.int .i64 x0) ∧ w'.cell? ⟨p, 5, none⟩ = some (.string x1) ∧ w'.cell? ⟨p, 6, none⟩ = some (.int .i64 x2) ∧ w'.cell? ⟨p, 7, none⟩ = some (.slice a7 n7 p7) ∧ w'.cell? ⟨p, 8, none⟩ = some (.slice a8 n8 p8) ∧ w'.cell? ⟨p, 9, none⟩ = some (.slice a9 n9 p9) ∧ w'.cell? ⟨p, 10, none⟩ = some (.slice ao na co))
                      (first | (with_reducible exact hS2) | (with_reducible exact hk1) | (with_reducible exact hk2) | (with_reducible exact hk3) | (with_reducible exact hSM) | (with_reducible exact hSN) | (with_reducible exact hSA _) | (with_reducible exact hk4))
                      (first
                        | (go_at_call 35
                           (with_reducible refine hbcz.mono ?_)
                           rintro e w4 ⟨a8x, nx, cx, rfl, hv4, hb4⟩
                           have hb24 : Below w2.heap.size w2 w4 := (hbz.drew).trans (hb4.mono hbz.size)
                           have hS2 := hSS w4 hb24
                           have hSA := fun o => hSS (w4.alloc o) (hb24.alloc hb24.size o))
                        | (go_at_call 35
                           (with_reducible refine hbcy.mono ?_)
                           rintro e w4 ⟨a8x, nx, cx, rfl, hv4, hb4⟩
                           have hb24 : Below w2.heap.size w2 w4 := ((hbz.alloc hbz.size _).drew).trans (hb4.mono (by have := hbz.size; simp [World.drew]; omega))
                           have hx : w4.heap[wz.heap.size]? = some (.cells #[.int .i64 0, .string ⟨#[]⟩, .slice none 0 0, .int .i64 0, .int .i64 0, .string ⟨#[]⟩, .int .i64 0, .slice none 0 0, .slice none 0 0, .slice none 0 0, .slice none 0 0] 38 (0, 0)) := (hb4.block _ (by simp [World.drew])).trans (heap_alloc_new wz _)
                           have xx0 : w4.cell? ⟨wz.heap.size, 0, none⟩ = some (.int .i64 0) := by rw [cell_of_row _ wz.heap.size 0 _ 38 (0, 0) hx]; rfl
                           have y0' : w4.frozen? ⟨wz.heap.size, 0, none⟩ = false := by simp [World.frozen?, hx]
                           have xx1 : w4.cell? ⟨wz.heap.size, 1, none⟩ = some (.string ⟨#[]⟩) := by rw [cell_of_row _ wz.heap.size 1 _ 38 (0, 0) hx]; rfl
                           have y1' : w4.frozen? ⟨wz.heap.size, 1, none⟩ = false := by simp [World.frozen?, hx]
                           have xx2 : w4.cell? ⟨wz.heap.size, 2, none⟩ = some (.slice none 0 0) := by rw [cell_of_row _ wz.heap.size 2 _ 38 (0, 0) hx]; rfl
                           have y2' : w4.frozen? ⟨wz.heap.size, 2, none⟩ = false := by simp [World.frozen?, hx]
                           have xx3 : w4.cell? ⟨wz.heap.size, 3, none⟩ = some (.int .i64 0) := by rw [cell_of_row _ wz.heap.size 3 _ 38 (0, 0) hx]; rfl
                           have y3' : w4.frozen? ⟨wz.heap.size, 3, none⟩ = false := by simp [World.frozen?, hx]
                           have xx4 : w4.cell? ⟨wz.heap.size, 4, none⟩ = some (.int .i64 0) := by rw [cell_of_row _ wz.heap.size 4 _ 38 (0, 0) hx]; rfl
                           have y4' : w4.frozen? ⟨wz.heap.size, 4, none⟩ = false := by simp [World.frozen?, hx]
                           have xx5 : w4.cell? ⟨wz.heap.size, 5, none⟩ = some (.string ⟨#[]⟩) := by rw [cell_of_row _ wz.heap.size 5 _ 38 (0, 0) hx]; rfl
                           have y5' : w4.frozen? ⟨wz.heap.size, 5, none⟩ = false := by simp [World.frozen?, hx]
                           have xx6 : w4.cell? ⟨wz.heap.size, 6, none⟩ = some (.int .i64 0) := by rw [cell_of_row _ wz.heap.size 6 _ 38 (0, 0) hx]; rfl
                           have y6' : w4.frozen? ⟨wz.heap.size, 6, none⟩ = false := by simp [World.frozen?, hx]
                           have xx7 : w4.cell? ⟨wz.heap.size, 7, none⟩ = some (.slice none 0 0) := by rw [cell_of_row _ wz.heap.size 7 _ 38 (0, 0) hx]; rfl
                           have y7' : w4.frozen? ⟨wz.heap.size, 7, none⟩ = false := by simp [World.frozen?, hx]
                           have xx8 : w4.cell? ⟨wz.heap.size, 8, none⟩ = some (.slice none 0 0) := by rw [cell_of_row _ wz.heap.size 8 _ 38 (0, 0) hx]; rfl
                           have y8' : w4.frozen? ⟨wz.heap.size, 8, none⟩ = false := by simp [World.frozen?, hx]
                           have xx9 : w4.cell? ⟨wz.heap.size, 9, none⟩ = some (.slice none 0 0) := by rw [cell_of_row _ wz.heap.size 9 _ 38 (0, 0) hx]; rfl
                           have y9' : w4.frozen? ⟨wz.heap.size, 9, none⟩ = false := by simp [World.frozen?, hx]
                           have xx10 : w4.cell? ⟨wz.heap.size, 10, none⟩ = some (.slice none 0 0) := by rw [cell_of_row _ wz.heap.size 10 _ 38 (0, 0) hx]; rfl
                           have y10' : w4.frozen? ⟨wz.heap.size, 10, none⟩ = false := by simp [World.frozen?, hx]
                           have hS2 := hSS w4 hb24
                           have hSMe : (((((((((((w4.setCell ⟨wz.heap.size, 0, none⟩ (.int .i64 5)).setCell ⟨wz.heap.size, 1, none⟩ (.string tname)).setCell ⟨wz.heap.size, 2, none⟩ (.slice none 0 0)).setCell ⟨wz.heap.size, 3, none⟩ (.int .i64 0)).setCell ⟨wz.heap.size, 4, none⟩ (.int .i64 0)).setCell ⟨wz.heap.size, 5, none⟩ (.string ⟨#[]⟩)).setCell ⟨wz.heap.size, 6, none⟩ (.int .i64 0)).setCell ⟨wz.heap.size, 7, none⟩ (.slice none 0 0)).setCell ⟨wz.heap.size, 8, none⟩ (.slice none 0 0)).setCell ⟨wz.heap.size, 9, none⟩ (.slice none 0 0)).setCell ⟨wz.heap.size, 10, none⟩ (.slice a8x nx cx)) = w4.setCells wz.heap.size 0 [.int .i64 5, .string tname, .slice none 0 0, .int .i64 0, .int .i64 0, .string ⟨#[]⟩, .int .i64 0, .slice none 0 0, .slice none 0 0, .slice none 0 0, .slice a8x nx cx] := by simp only [World.setCells]
                           have hSM := hSS _ (below_many (g := wz.heap.size) hbz.size [.int .i64 5, .string tname, .slice none 0 0, .int .i64 0, .int .i64 0, .string ⟨#[]⟩, .int .i64 0, .slice none 0 0, .slice none 0 0, .slice none 0 0, .slice a8x nx cx] 0 w4 hb24)
                           have hSN := hSM
                           rw [← hSMe] at hSN)
                        | fail)
                    focus
                      refine gen_world' (S := fun w5 => Below w2.heap.size w2 w5 ∧ w5.heap[w4.heap.size]? = some (.cells #[.int .i64 5, .string tname, .slice none 0 0, .int .i64 0, .int .i64 0, .string ⟨#[]⟩, .int .i64 0, .slice none 0 0, .slice none 0 0, .slice none 0 0, .slice a8x nx cx] 38 (0, 0)) ∧ VA w5 (fun b => (fun b => ((A b ∨ W.heap.size ≤ b) ∧ (Value.slice (some ⟨g, 0, none⟩) (nn + 1) co3).ownBlock ≠ some b) ∧ b < w2.heap.size) b ∨ wz.heap.size ≤ b) (.slice a8x nx cx) (join (fuseF k) (tarms ++ mapF (fuseF k) arms))) ⟨hb24.alloc hb24.size _, heap_alloc_new w4 _, hv4.stay (Stay.below ((Below.refl _ _).alloc (Nat.le_refl _) _))⟩ ?_
                      obtain ⟨px, hpx⟩ : ∃ px, w4.heap.size = px := ⟨_, rfl⟩
                      rw [hpx]
                      have HPX := Lib.hid hpx
                      clear hpx
                    rotate_left
                    focus
                      refine gen_world' (S := fun w5 => Below w2.heap.size w2 w5 ∧ w5.heap[wz.heap.size]? = some (.cells #[.int .i64 5, .string tname, .slice none 0 0, .int .i64 0, .int .i64 0, .string ⟨#[]⟩, .int .i64 0, .slice none 0 0, .slice none 0 0, .slice none 0 0, .slice a8x nx cx] 38 (0, 0)) ∧ VA w5 (fun b => (fun b => ((A b ∨ W.heap.size ≤ b) ∧ (Value.slice (some ⟨g, 0, none⟩) (nn + 1) co3).ownBlock ≠ some b) ∧ b < w2.heap.size) b ∨ wz.heap.size ≤ b) (.slice a8x nx cx) (join (fuseF k) (tarms ++ mapF (fuseF k) arms))) ⟨below_many (g := wz.heap.size) hbz.size _ 0 w4 hb24, heap_many_at (g := wz.heap.size) (t := 38) [.int .i64 5, .string tname, .slice none 0 0, .int .i64 0, .int .i64 0, .string ⟨#[]⟩, .int .i64 0, .slice none 0 0, .slice none 0 0, .slice none 0 0, .slice a8x nx cx] [] [.int .i64 0, .string ⟨#[]⟩, .slice none 0 0, .int .i64 0, .int .i64 0, .string ⟨#[]⟩, .int .i64 0, .slice none 0 0, .slice none 0 0, .slice none 0 0, .slice none 0 0] w4 rfl hx, hv4.stay ⟨by rw [size_many]; exact Nat.le_refl _, fun b _ q => by
                        rcases q with r | r
                        · exact ⟨Or.inl r, heap_many (fun e => by have := r.2; have := hbz.size; omega) _ _ _⟩
                        · have r' : wz.heap.size + 1 ≤ b := by simpa [World.drew] using r
                          exact ⟨Or.inr (by omega), heap_many (by omega) _ _ _⟩⟩⟩ ?_
                      obtain ⟨px, hpx⟩ : ∃ px, wz.heap.size = px := ⟨_, rfl⟩
                      rw [hpx]
                      have HPX := Lib.hid hpx
                      clear hpx
                      clear hx hSMe hSM hSN xx0 xx1 xx2 xx3 xx4 xx5 xx6 xx7 xx8 xx9 xx10 y0' y1' y2' y3' y4' y5' y6' y7' y8' y9' y10'
                    rotate_left
                    all_goals
                      rintro w5 ⟨hb25, hpx5, hva5⟩
                      have hown5 : w5.ownsRow W.heap.size 38 11 (.slice (some ⟨g, 0, none⟩) (nn + 1) co3) (nn + 1) row := own_keep HOW.out (fun g' e => hb25.block g' (HOW.out.lt g' e).2)
                      have hth : ∀ j, j < 11 → ∃ u, w5.cell? ⟨g, nn * 11 + j, none⟩ = some u := fun j hj => by
                        have h1 := hown5.1
                        rw [hown5.cellAt (nn * 11 + j) (by omega), List.getElem?_eq_getElem (by omega)]
                        exact ⟨_, rfl⟩
                      have l0 : w5.cell? ⟨px, 0, none⟩ = some (.int .i64 5) := by rw [cell_of_row _ px 0 _ 38 (0, 0) hpx5]; rfl
                      have l1 : w5.cell? ⟨px, 1, none⟩ = some (.string tname) := by rw [cell_of_row _ px 1 _ 38 (0, 0) hpx5]; rfl
                      have l2 : w5.cell? ⟨px, 2, none⟩ = some (.slice none 0 0) := by rw [cell_of_row _ px 2 _ 38 (0, 0) hpx5]; rfl
                      have l3 : w5.cell? ⟨px, 3, none⟩ = some (.int .i64 0) := by rw [cell_of_row _ px 3 _ 38 (0, 0) hpx5]; rfl
                      have l4 : w5.cell? ⟨px, 4, none⟩ = some (.int .i64 0) := by rw [cell_of_row _ px 4 _ 38 (0, 0) hpx5]; rfl
                      have l5 : w5.cell? ⟨px, 5, none⟩ = some (.string ⟨#[]⟩) := by rw [cell_of_row _ px 5 _ 38 (0, 0) hpx5]; rfl
                      have l6 : w5.cell? ⟨px, 6, none⟩ = some (.int .i64 0) := by rw [cell_of_row _ px 6 _ 38 (0, 0) hpx5]; rfl
                      have l7 : w5.cell? ⟨px, 7, none⟩ = some (.slice none 0 0) := by rw [cell_of_row _ px 7 _ 38 (0, 0) hpx5]; rfl
                      have l8 : w5.cell? ⟨px, 8, none⟩ = some (.slice none 0 0) := by rw [cell_of_row _ px 8 _ 38 (0, 0) hpx5]; rfl
                      have l9 : w5.cell? ⟨px, 9, none⟩ = some (.slice none 0 0) := by rw [cell_of_row _ px 9 _ 38 (0, 0) hpx5]; rfl
                      have l10 : w5.cell? ⟨px, 10, none⟩ = some (.slice a8x nx cx) := by rw [cell_of_row _ px 10 _ 38 (0, 0) hpx5]; rfl
                      obtain ⟨q0, k0⟩ : ∃ u, w5.cell? ⟨g, nn * 11, none⟩ = some u := hth 0 (by decide)
                      have z0 : w5.frozen? ⟨g, nn * 11, none⟩ = false := hown5.frozenAt _
                      obtain ⟨q1, k1⟩ : ∃ u, w5.cell? ⟨g, nn * 11 + 1, none⟩ = some u := hth 1 (by decide)
                      have z1 : w5.frozen? ⟨g, nn * 11 + 1, none⟩ = false := hown5.frozenAt _
                      obtain ⟨q2, k2⟩ : ∃ u, w5.cell? ⟨g, nn * 11 + 2, none⟩ = some u := hth 2 (by decide)
                      have z2 : w5.frozen? ⟨g, nn * 11 + 2, none⟩ = false := hown5.frozenAt _
                      obtain ⟨q3, k3⟩ : ∃ u, w5.cell? ⟨g, nn * 11 + 3, none⟩ = some u := hth 3 (by decide)
                      have z3 : w5.frozen? ⟨g, nn * 11 + 3, none⟩ = false := hown5.frozenAt _
                      obtain ⟨q4, k4⟩ : ∃ u, w5.cell? ⟨g, nn * 11 + 4, none⟩ = some u := hth 4 (by decide)
                      have z4 : w5.frozen? ⟨g, nn * 11 + 4, none⟩ = false := hown5.frozenAt _
                      obtain ⟨q5, k5⟩ : ∃ u, w5.cell? ⟨g, nn * 11 + 5, none⟩ = some u := hth 5 (by decide)
                      have z5 : w5.frozen? ⟨g, nn * 11 + 5, none⟩ = false := hown5.frozenAt _
                      obtain ⟨q6, k6⟩ : ∃ u, w5.cell? ⟨g, nn * 11 + 6, none⟩ = some u := hth 6 (by decide)
                      have z6 : w5.frozen? ⟨g, nn * 11 + 6, none⟩ = false := hown5.frozenAt _
                      obtain ⟨q7, k7⟩ : ∃ u, w5.cell? ⟨g, nn * 11 + 7, none⟩ = some u := hth 7 (by decide)
                      have z7 : w5.frozen? ⟨g, nn * 11 + 7, none⟩ = false := hown5.frozenAt _
                      obtain ⟨q8, k8⟩ : ∃ u, w5.cell? ⟨g, nn * 11 + 8, none⟩ = some u := hth 8 (by decide)
                      have z8 : w5.frozen? ⟨g, nn * 11 + 8, none⟩ = false := hown5.frozenAt _
                      obtain ⟨q9, k9⟩ : ∃ u, w5.cell? ⟨g, nn * 11 + 9, none⟩ = some u := hth 9 (by decide)
                      have z9 : w5.frozen? ⟨g, nn * 11 + 9, none⟩ = false := hown5.frozenAt _
                      obtain ⟨q10, k10⟩ : ∃ u, w5.cell? ⟨g, nn * 11 + 10, none⟩ = some u := hth 10 (by decide)
                      have z10 : w5.frozen? ⟨g, nn * 11 + 10, none⟩ = false := hown5.frozenAt _
                      have HB5 := Lib.hid (And.intro hb25 (And.intro hva5 hbz.size))
                      clear hb25 hva5 hown5 hth hpx5 hS2 hk1 hk2 hk3 hk4 hSS hb4 hv4 hb24 hbc hbcz hbcy g0 g1 c0 c1
                      go_wp2
                      refine ⟨⟨m + 1, by simp, by omega, Lib.hid ?_⟩, by simp [intOf]; omega⟩
                      rw [take_snoc HY.out, List.foldl_append, List.foldl_cons, List.foldl_nil, HO.out]
                      have hft : fstep (fuseF k) out (.mk ⟨5, tname, strs, .slice a2 n2 p2, .int .i64 i3, .int .i64 x0, .string x1, .int .i64 x2, .slice a7 n7 p7, .slice a8 n8 p8, .slice a9 n9 p9⟩ arms) = out.set nn (.mk (caseHd tname) (join (fuseF k) (tarms ++ mapF (fuseF k) arms))) := fstep_true _ _ _ nn _ HNO.out HT.out.1 HTT.out
                      rw [hft]
                      exact FO.turn (v5 := .slice a8x nx cx) (name := tname) HF2.out HNO.out HB5.out.1 (HB5.out.2.1.stay (Stay.weaken _ (fun b _ h => by
                        rcases h with r | r
                        · exact r.1
                        · have h1 := HB5.out.2.2
                          have h2 := hbW2.size
                          have h3 := HPX.out
                          refine ⟨Or.inr (by omega), fun e => ?_⟩
                          simp [Value.ownBlock] at e
                          omega)))
                · have ht : (tname.toList == name.toList) = false := by rw [str_eq]; exact decide_eq_false en
                  have HEN := Lib.hid en
                  go_wp2
                  go_quiet (fail)
                  have htgf : tog (.mk ⟨5, tname, tstrs, .slice b2 m2 r2, .int .i64 j3, .int .i64 y0, .string y1, .int .i64 y2, .slice b7 m7 r7, .slice b8 m8 r8, .slice b9 m9 r9⟩ tarms) (.mk ⟨5, name, strs, .slice a2 n2 p2, .int .i64 i3, .int .i64 x0, .string x1, .int .i64 x2, .slice a7 n7 p7, .slice a8 n8 p8, .slice a9 n9 p9⟩ (mapF (fuseF k) arms)) = false := by
                    unfold tog; rw [decide_eq_false (fun h => HEN.out h.2.2)]; rfl
                  have HTF := Lib.hid htgf
                  refine gen_world' (S := fun w3 => Below w2.heap.size w2 w3) (below_drewN _ _ _) ?_
                  intro w3 hb23
                  have hF := HF2.out.below hb23
                  have hVA := HVA.out.stay (Stay.below hb23)
                  have hPB := (hb23.block p hpl).trans HPB2.out
                  clear htgf hb23 g0 g1 c0 c1
                  obtain ⟨row, hb3, hown, hea, hvp⟩ := hF
                  rw [HNO.out] at hown
                  have c0 : w3.cell? ⟨p, 0, none⟩ = some (.int .i64 5) := by rw [cell_of_row _ p 0 _ 38 (0, 0) hPB]; rfl
                  have c1 : w3.cell? ⟨p, 1, none⟩ = some (.string name) := by rw [cell_of_row _ p 1 _ 38 (0, 0) hPB]; rfl
                  have c2 : w3.cell? ⟨p, 2, none⟩ = some (.slice a2 n2 p2) := by rw [cell_of_row _ p 2 _ 38 (0, 0) hPB]; rfl
                  have c3 : w3.cell? ⟨p, 3, none⟩ = some (.int .i64 i3) := by rw [cell_of_row _ p 3 _ 38 (0, 0) hPB]; rfl
                  have c4 : w3.cell? ⟨p, 4, none⟩ = some (.int .i64 x0) := by rw [cell_of_row _ p 4 _ 38 (0, 0) hPB]; rfl
                  have c5 : w3.cell? ⟨p, 5, none⟩ = some (.string x1) := by rw [cell_of_row _ p 5 _ 38 (0, 0) hPB]; rfl
                  have c6 : w3.cell? ⟨p, 6, none⟩ = some (.int .i64 x2) := by rw [cell_of_row _ p 6 _ 38 (0, 0) hPB]; rfl
                  have c7 : w3.cell? ⟨p, 7, none⟩ = some (.slice a7 n7 p7) := by rw [cell_of_row _ p 7 _ 38 (0, 0) hPB]; rfl
                  have c8 : w3.cell? ⟨p, 8, none⟩ = some (.slice a8 n8 p8) := by rw [cell_of_row _ p 8 _ 38 (0, 0) hPB]; rfl
                  have c9 : w3.cell? ⟨p, 9, none⟩ = some (.slice a9 n9 p9) := by rw [cell_of_row _ p 9 _ 38 (0, 0) hPB]; rfl
                  have c10 : w3.cell? ⟨p, 10, none⟩ = some (.slice ao na co) := by rw [cell_of_row _ p 10 _ 38 (0, 0) hPB]; rfl
                  have hHO := Lib.hid hown
                  have HQ := Lib.hid (And.intro hb3 (And.intro hea (And.intro hvp hVA)))
                  obtain ⟨i0, hi, hz0, hz1, hz2⟩ := info_parts infoz38
                  clear hb3 hown hea hvp hVA hPB
                  go_wp2_with (at_builtin; go_must (refine wpList_append_lies _ rfl _ _ 22 rfl W.heap.size 38 i0 _ 11 184 Try.underlying22 hi hz0 hz1 hz2 rfl (by decide) _ _ _ rfl (hHO.out.alloc _) ⟨w3.heap.size, 0, none⟩ 1 1 [.int .i64 5, .string name, .slice a2 n2 p2, .int .i64 i3, .int .i64 x0, .string x1, .int .i64 x2, .slice a7 n7 p7, .slice a8 n8 p8, .slice a9 n9 p9, .slice ao na co] rfl rfl ?g1 ?g2 (by decide) ?g3 ?g4 ?g5 (w3.heap.size + 1) (by simp) ?_))
                  case g1 =>
                    first
                      | exact World.news_of_block (cs := #[.int .i64 5, .string name, .slice a2 n2 p2, .int .i64 i3, .int .i64 x0, .string x1, .int .i64 x2, .slice a7 n7 p7, .slice a8 n8 p8, .slice a9 n9 p9, .slice ao na co]) (t := 38) (fr := (0, 0)) (heap_alloc_new w3 _)
                      | (intro j u hj; exact World.news_of_block (cs := #[.int .i64 5, .string name, .slice a2 n2 p2, .int .i64 i3, .int .i64 x0, .string x1, .int .i64 x2, .slice a7 n7 p7, .slice a8 n8 p8, .slice a9 n9 p9, .slice ao na co]) (t := 38) (fr := (0, 0)) (heap_alloc_new w3 _) j u hj)
                  case g2 =>
                    intro u hu
                    simp only [List.mem_cons, List.not_mem_nil, or_false] at hu
                    rcases hu with rfl | rfl | rfl | rfl | rfl | rfl | rfl | rfl | rfl | rfl | rfl <;> rfl
                  case g3 => unfold maxLen; omega
                  case g4 => omega
                  case g5 => exact Nat.le_trans HQ.out.1.size (by simp)
                  intro gg capg w4 hown4 hgrow4 hat4 hlt4
                  have HG := Lib.hid (FO.snoc (hd := ⟨5, name, strs, .slice a2 n2 p2, .int .i64 i3, .int .i64 x0, .string x1, .int .i64 x2, .slice a7 n7 p7, .slice a8 n8 p8, .slice a9 n9 p9⟩) HQ.out.1 hHO.out HNO.out HQ.out.2.1 HQ.out.2.2.1 HA.out.1 (HB.out.2.2.stay (Stay.below HQ.out.1)) HQ.out.2.2.2 HW1.out.2.2.1 HW1.out.2.2.2 hown4 hgrow4 (by
                    rcases hat4 with r | r
                    · exact Or.inl r.symm
                    · exact Or.inr (fun g e => by simp [Value.ownBlock] at e; omega)))
                  clear hown4 hgrow4 hat4 c0 c1 c2 c3 c4 c5 c6 c7 c8 c9 c10
                  go_wp2
                  refine ⟨⟨m + 1, by simp, by omega, Lib.hid ?_⟩, by simp [intOf]; omega⟩
                  rw [take_snoc HY.out, List.foldl_append, List.foldl_cons, List.foldl_nil, HO.out]
                  have hft : fstep (fuseF k) out (.mk ⟨5, name, strs, .slice a2 n2 p2, .int .i64 i3, .int .i64 x0, .string x1, .int .i64 x2, .slice a7 n7 p7, .slice a8 n8 p8, .slice a9 n9 p9⟩ arms) = out ++ [.mk ⟨5, name, strs, .slice a2 n2 p2, .int .i64 i3, .int .i64 x0, .string x1, .int .i64 x2, .slice a7 n7 p7, .slice a8 n8 p8, .slice a9 n9 p9⟩ (mapF (fuseF k) arms)] := fstep_false _ _ _ nn _ HNO.out HT.out.1 HTF.out
                  rw [hft]
                  exact HG.out
              · have d5 : decide (top = 5) = false := decide_eq_false t5
                have d5' : (top == 5) = false := by simpa using t5
                have HEN := Lib.hid t5
                go_wp2
                go_quiet (fail)
                have htgf : tog (.mk ⟨top, tname, tstrs, .slice b2 m2 r2, .int .i64 j3, .int .i64 y0, .string y1, .int .i64 y2, .slice b7 m7 r7, .slice b8 m8 r8, .slice b9 m9 r9⟩ tarms) (.mk ⟨5, name, strs, .slice a2 n2 p2, .int .i64 i3, .int .i64 x0, .string x1, .int .i64 x2, .slice a7 n7 p7, .slice a8 n8 p8, .slice a9 n9 p9⟩ (mapF (fuseF k) arms)) = false := by
                  unfold tog; rw [decide_eq_false (fun h => HEN.out h.1)]; rfl
                have HTF := Lib.hid htgf
                refine gen_world' (S := fun w3 => Below w2.heap.size w2 w3) (below_drewN _ _ _) ?_
                intro w3 hb23
                have hF := HF2.out.below hb23
                have hVA := HVA.out.stay (Stay.below hb23)
                have hPB := (hb23.block p hpl).trans HPB2.out
                clear htgf hb23 g0 g1 c0 c1
                obtain ⟨row, hb3, hown, hea, hvp⟩ := hF
                rw [HNO.out] at hown
                have c0 : w3.cell? ⟨p, 0, none⟩ = some (.int .i64 5) := by rw [cell_of_row _ p 0 _ 38 (0, 0) hPB]; rfl
                have c1 : w3.cell? ⟨p, 1, none⟩ = some (.string name) := by rw [cell_of_row _ p 1 _ 38 (0, 0) hPB]; rfl
                have c2 : w3.cell? ⟨p, 2, none⟩ = some (.slice a2 n2 p2) := by rw [cell_of_row _ p 2 _ 38 (0, 0) hPB]; rfl
                have c3 : w3.cell? ⟨p, 3, none⟩ = some (.int .i64 i3) := by rw [cell_of_row _ p 3 _ 38 (0, 0) hPB]; rfl
                have c4 : w3.cell? ⟨p, 4, none⟩ = some (.int .i64 x0) := by rw [cell_of_row _ p 4 _ 38 (0, 0) hPB]; rfl
                have c5 : w3.cell? ⟨p, 5, none⟩ = some (.string x1) := by rw [cell_of_row _ p 5 _ 38 (0, 0) hPB]; rfl
                have c6 : w3.cell? ⟨p, 6, none⟩ = some (.int .i64 x2) := by rw [cell_of_row _ p 6 _ 38 (0, 0) hPB]; rfl
                have c7 : w3.cell? ⟨p, 7, none⟩ = some (.slice a7 n7 p7) := by rw [cell_of_row _ p 7 _ 38 (0, 0) hPB]; rfl
                have c8 : w3.cell? ⟨p, 8, none⟩ = some (.slice a8 n8 p8) := by rw [cell_of_row _ p 8 _ 38 (0, 0) hPB]; rfl
                have c9 : w3.cell? ⟨p, 9, none⟩ = some (.slice a9 n9 p9) := by rw [cell_of_row _ p 9 _ 38 (0, 0) hPB]; rfl
                have c10 : w3.cell? ⟨p, 10, none⟩ = some (.slice ao na co) := by rw [cell_of_row _ p 10 _ 38 (0, 0) hPB]; rfl
                have hHO := Lib.hid hown
                have HQ := Lib.hid (And.intro hb3 (And.intro hea (And.intro hvp hVA)))
                obtain ⟨i0, hi, hz0, hz1, hz2⟩ := info_parts infoz38
                clear hb3 hown hea hvp hVA hPB
                go_wp2_with (at_builtin; go_must (refine wpList_append_lies _ rfl _ _ 22 rfl W.heap.size 38 i0 _ 11 184 Try.underlying22 hi hz0 hz1 hz2 rfl (by decide) _ _ _ rfl (hHO.out.alloc _) ⟨w3.heap.size, 0, none⟩ 1 1 [.int .i64 5, .string name, .slice a2 n2 p2, .int .i64 i3, .int .i64 x0, .string x1, .int .i64 x2, .slice a7 n7 p7, .slice a8 n8 p8, .slice a9 n9 p9, .slice ao na co] rfl rfl ?g1 ?g2 (by decide) ?g3 ?g4 ?g5 (w3.heap.size + 1) (by simp) ?_))
                case g1 =>
                  first
                    | exact World.news_of_block (cs := #[.int .i64 5, .string name, .slice a2 n2 p2, .int .i64 i3, .int .i64 x0, .string x1, .int .i64 x2, .slice a7 n7 p7, .slice a8 n8 p8, .slice a9 n9 p9, .slice ao na co]) (t := 38) (fr := (0, 0)) (heap_alloc_new w3 _)
                    | (intro j u hj; exact World.news_of_block (cs := #[.int .i64 5, .string name, .slice a2 n2 p2, .int .i64 i3, .int .i64 x0, .string x1, .int .i64 x2, .slice a7 n7 p7, .slice a8 n8 p8, .slice a9 n9 p9, .slice ao na co]) (t := 38) (fr := (0, 0)) (heap_alloc_new w3 _) j u hj)
                case g2 =>
                  intro u hu
                  simp only [List.mem_cons, List.not_mem_nil, or_false] at hu
                  rcases hu with rfl | rfl | rfl | rfl | rfl | rfl | rfl | rfl | rfl | rfl | rfl <;> rfl
                case g3 => unfold maxLen; omega
                case g4 => omega
                case g5 => exact Nat.le_trans HQ.out.1.size (by simp)
                intro gg capg w4 hown4 hgrow4 hat4 hlt4
                have HG := Lib.hid (FO.snoc (hd := ⟨5, name, strs, .slice a2 n2 p2, .int .i64 i3, .int .i64 x0, .string x1, .int .i64 x2, .slice a7 n7 p7, .slice a8 n8 p8, .slice a9 n9 p9⟩) HQ.out.1 hHO.out HNO.out HQ.out.2.1 HQ.out.2.2.1 HA.out.1 (HB.out.2.2.stay (Stay.below HQ.out.1)) HQ.out.2.2.2 HW1.out.2.2.1 HW1.out.2.2.2 hown4 hgrow4 (by
                  rcases hat4 with r | r
                  · exact Or.inl r.symm
                  · exact Or.inr (fun g e => by simp [Value.ownBlock] at e; omega)))
                clear hown4 hgrow4 hat4 c0 c1 c2 c3 c4 c5 c6 c7 c8 c9 c10
                go_wp2
                refine ⟨⟨m + 1, by simp, by omega, Lib.hid ?_⟩, by simp [intOf]; omega⟩
                rw [take_snoc HY.out, List.foldl_append, List.foldl_cons, List.foldl_nil, HO.out]
                have hft : fstep (fuseF k) out (.mk ⟨5, name, strs, .slice a2 n2 p2, .int .i64 i3, .int .i64 x0, .string x1, .int .i64 x2, .slice a7 n7 p7, .slice a8 n8 p8, .slice a9 n9 p9⟩ arms) = out ++ [.mk ⟨5, name, strs, .slice a2 n2 p2, .int .i64 i3, .int .i64 x0, .string x1, .int .i64 x2, .slice a7 n7 p7, .slice a8 n8 p8, .slice a9 n9 p9⟩ (mapF (fuseF k) arms)] := fstep_false _ _ _ nn _ HNO.out HT.out.1 HTF.out
                rw [hft]
                exact HG.out
            · have d5 : decide (op = 5) = false := decide_eq_false o5
              have d5' : (op == 5) = false := by simpa using o5
              have HEN := Lib.hid o5
              go_wp2
              go_quiet (fail)
              have htgf : tog (.mk ⟨top, tname, tstrs, .slice b2 m2 r2, .int .i64 j3, .int .i64 y0, .string y1, .int .i64 y2, .slice b7 m7 r7, .slice b8 m8 r8, .slice b9 m9 r9⟩ tarms) (.mk ⟨op, name, strs, .slice a2 n2 p2, .int .i64 i3, .int .i64 x0, .string x1, .int .i64 x2, .slice a7 n7 p7, .slice a8 n8 p8, .slice a9 n9 p9⟩ (mapF (fuseF k) arms)) = false := by
                unfold tog; rw [decide_eq_false (fun h => HEN.out h.2.1)]; rfl
              have HTF := Lib.hid htgf
              refine gen_world' (S := fun w3 => Below w2.heap.size w2 w3) (below_drewN _ _ _) ?_
              intro w3 hb23
              have hF := HF2.out.below hb23
              have hVA := HVA.out.stay (Stay.below hb23)
              have hPB := (hb23.block p hpl).trans HPB2.out
              clear htgf hb23 g0 g1 c0 c1
              obtain ⟨row, hb3, hown, hea, hvp⟩ := hF
              rw [HNO.out] at hown
              have c0 : w3.cell? ⟨p, 0, none⟩ = some (.int .i64 op) := by rw [cell_of_row _ p 0 _ 38 (0, 0) hPB]; rfl
              have c1 : w3.cell? ⟨p, 1, none⟩ = some (.string name) := by rw [cell_of_row _ p 1 _ 38 (0, 0) hPB]; rfl
              have c2 : w3.cell? ⟨p, 2, none⟩ = some (.slice a2 n2 p2) := by rw [cell_of_row _ p 2 _ 38 (0, 0) hPB]; rfl
              have c3 : w3.cell? ⟨p, 3, none⟩ = some (.int .i64 i3) := by rw [cell_of_row _ p 3 _ 38 (0, 0) hPB]; rfl
              have c4 : w3.cell? ⟨p, 4, none⟩ = some (.int .i64 x0) := by rw [cell_of_row _ p 4 _ 38 (0, 0) hPB]; rfl
              have c5 : w3.cell? ⟨p, 5, none⟩ = some (.string x1) := by rw [cell_of_row _ p 5 _ 38 (0, 0) hPB]; rfl
              have c6 : w3.cell? ⟨p, 6, none⟩ = some (.int .i64 x2) := by rw [cell_of_row _ p 6 _ 38 (0, 0) hPB]; rfl
              have c7 : w3.cell? ⟨p, 7, none⟩ = some (.slice a7 n7 p7) := by rw [cell_of_row _ p 7 _ 38 (0, 0) hPB]; rfl
              have c8 : w3.cell? ⟨p, 8, none⟩ = some (.slice a8 n8 p8) := by rw [cell_of_row _ p 8 _ 38 (0, 0) hPB]; rfl
              have c9 : w3.cell? ⟨p, 9, none⟩ = some (.slice a9 n9 p9) := by rw [cell_of_row _ p 9 _ 38 (0, 0) hPB]; rfl
              have c10 : w3.cell? ⟨p, 10, none⟩ = some (.slice ao na co) := by rw [cell_of_row _ p 10 _ 38 (0, 0) hPB]; rfl
              have hHO := Lib.hid hown
              have HQ := Lib.hid (And.intro hb3 (And.intro hea (And.intro hvp hVA)))
              obtain ⟨i0, hi, hz0, hz1, hz2⟩ := info_parts infoz38
              clear hb3 hown hea hvp hVA hPB
              go_wp2_with (at_builtin; go_must (refine wpList_append_lies _ rfl _ _ 22 rfl W.heap.size 38 i0 _ 11 184 Try.underlying22 hi hz0 hz1 hz2 rfl (by decide) _ _ _ rfl (hHO.out.alloc _) ⟨w3.heap.size, 0, none⟩ 1 1 [.int .i64 op, .string name, .slice a2 n2 p2, .int .i64 i3, .int .i64 x0, .string x1, .int .i64 x2, .slice a7 n7 p7, .slice a8 n8 p8, .slice a9 n9 p9, .slice ao na co] rfl rfl ?g1 ?g2 (by decide) ?g3 ?g4 ?g5 (w3.heap.size + 1) (by simp) ?_))
              case g1 =>
                first
                  | exact World.news_of_block (cs := #[.int .i64 op, .string name, .slice a2 n2 p2, .int .i64 i3, .int .i64 x0, .string x1, .int .i64 x2, .slice a7 n7 p7, .slice a8 n8 p8, .slice a9 n9 p9, .slice ao na co]) (t := 38) (fr := (0, 0)) (heap_alloc_new w3 _)
                  | (intro j u hj; exact World.news_of_block (cs := #[.int .i64 op, .string name, .slice a2 n2 p2, .int .i64 i3, .int .i64 x0, .string x1, .int .i64 x2, .slice a7 n7 p7, .slice a8 n8 p8, .slice a9 n9 p9, .slice ao na co]) (t := 38) (fr := (0, 0)) (heap_alloc_new w3 _) j u hj)
              case g2 =>
                intro u hu
                simp only [List.mem_cons, List.not_mem_nil, or_false] at hu
                rcases hu with rfl | rfl | rfl | rfl | rfl | rfl | rfl | rfl | rfl | rfl | rfl <;> rfl
              case g3 => unfold maxLen; omega
              case g4 => omega
              case g5 => exact Nat.le_trans HQ.out.1.size (by simp)
              intro gg capg w4 hown4 hgrow4 hat4 hlt4
              have HG := Lib.hid (FO.snoc (hd := ⟨op, name, strs, .slice a2 n2 p2, .int .i64 i3, .int .i64 x0, .string x1, .int .i64 x2, .slice a7 n7 p7, .slice a8 n8 p8, .slice a9 n9 p9⟩) HQ.out.1 hHO.out HNO.out HQ.out.2.1 HQ.out.2.2.1 HA.out.1 (HB.out.2.2.stay (Stay.below HQ.out.1)) HQ.out.2.2.2 HW1.out.2.2.1 HW1.out.2.2.2 hown4 hgrow4 (by
                rcases hat4 with r | r
                · exact Or.inl r.symm
                · exact Or.inr (fun g e => by simp [Value.ownBlock] at e; omega)))
              clear hown4 hgrow4 hat4 c0 c1 c2 c3 c4 c5 c6 c7 c8 c9 c10
              go_wp2
              refine ⟨⟨m + 1, by simp, by omega, Lib.hid ?_⟩, by simp [intOf]; omega⟩
              rw [take_snoc HY.out, List.foldl_append, List.foldl_cons, List.foldl_nil, HO.out]
              have hft : fstep (fuseF k) out (.mk ⟨op, name, strs, .slice a2 n2 p2, .int .i64 i3, .int .i64 x0, .string x1, .int .i64 x2, .slice a7 n7 p7, .slice a8 n8 p8, .slice a9 n9 p9⟩ arms) = out ++ [.mk ⟨op, name, strs, .slice a2 n2 p2, .int .i64 i3, .int .i64 x0, .string x1, .int .i64 x2, .slice a7 n7 p7, .slice a8 n8 p8, .slice a9 n9 p9⟩ (mapF (fuseF k) arms)] := fstep_false _ _ _ nn _ HNO.out HT.out.1 HTF.out
              rw [hft]
              exact HG.out
    · have hall : l.take m = l := List.take_of_length_le (by rw [HN.out]; omega)
      rw [hall] at HJ
      obtain ⟨row, hb, hown, hea⟩ := HJ.out
      obtain ⟨ao, co, rfl, _⟩ := own_form hown
      go_wp2
      go_ret
      exact ⟨_, rfl, VB.own hown rfl (fun g e => Or.inr (hown.lt g e).1) (EB.stay (Stay.weaken _ (fun b _ h => h.1.imp (HA.out.2 b) id)) _ _ hea), hb⟩
end
end Go.Proofs.Ytnbinejghkhcjaa.Fu
