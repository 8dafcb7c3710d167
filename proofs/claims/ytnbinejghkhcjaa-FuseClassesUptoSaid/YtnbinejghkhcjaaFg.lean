/- The walk of Fuse. -/
import Derived.Test.YtnbinejghkhcjaaFs
namespace Go.Proofs.Ytnbinejghkhcjaa.Fu
open Go.RowKit
set_option linter.unusedVariables false
set_option linter.unusedSimpArgs false
set_option maxHeartbeats 4000000
theorem size38 : (Try.prog.info? 38).map (·.size) = some 11 := by kernel_rfl
section
variable {W : World} {A : Nat → Prop} {v : Value} {k : Nat}
set_option maxRecDepth 100000 in
theorem fuse_step (ih : FuseC k) : FuseC (k + 1) := by
  intro l W A0 v hk hN h0
  obtain ⟨A, hAdef⟩ : ∃ A : Nat → Prop, A = fun b => A0 b ∧ b < W.heap.size := ⟨_, rfl⟩
  have hA : ∀ b, A b → b < W.heap.size := fun b hb => by rw [hAdef] at hb; exact hb.2
  have hA0 : ∀ b, A b → A0 b := fun b hb => by rw [hAdef] at hb; exact hb.1
  have h : VB W A v l := h0.stay (Stay.weaken W (fun b hb q => by rw [hAdef]; exact ⟨q, hb⟩))
  obtain ⟨a, cap, rfl, h2, h3⟩ := h.any
  have hu : cap ≤ 9223372036854775807 := by unfold maxLen at h3; exact h3
  have HV := Lib.hid h
  have HK := Lib.hid (And.intro hk hN)
  obtain ⟨n, hn⟩ : ∃ n, l.length = n := ⟨_, rfl⟩
  have hnl : n ≤ 2097152 := by have := len_szB 1 l; omega
  rw [hn] at h2 ⊢
  have HN := Lib.hid hn
  have IH := Lib.hid ih
  have HA := Lib.hid (And.intro hA hA0)
  clear hn h hk hN ih h0 hA hA0 hAdef
  go_enter Try.func13, Try.ntmps13
  go_wp2
  go_loopw [3, 12] (fun vo i wr => ∃ m : Nat, i = .int .i64 m ∧ m ≤ n ∧ Hid (FO W wr A vo ((l.take m).foldl (fstep (fuseF k)) []))) (fun _ i _ => n - (intOf i).toNat)
  case atStart => exact ⟨0, rfl, Nat.zero_le _, Lib.hid (FO.nil W A)⟩
  case round =>
    obtain ⟨m, rfl, hm, HJ⟩ := hrel
    by_cases hlt : m < n
    · have hml : m < l.length := by rw [HN.out]; exact hlt
      obtain ⟨y, hy⟩ : ∃ y, l[m]? = some y := ⟨_, getE hml⟩
      have hbel : Below W.heap.size W wr := by obtain ⟨row, q, _⟩ := HJ.out; exact q
      obtain ⟨b, off, cap', u, he, _, _, _, hbs, hat, hho, hva⟩ := HV.out.get m y hy
      simp only [Value.slice.injEq, true_and] at he
      obtain ⟨rfl, -, rfl⟩ := he
      have hone := rawS_one hho hva
      obtain ⟨h, arms⟩ := y
      obtain ⟨op, name, strs, names, inst, e0, e1, e2, e3, e4, args⟩ := h
      simp only [Stm.hd, Stm.arms, rawS] at hat hva hone
      have k0 := fun o : Nat => World.cell?_of_block (w := W) (w' := wr) (a := ⟨b, o, none⟩) (hbel.block b hbs)
      obtain ⟨c0, c1, c2, c3, c4, c5, c6, c7, c8, c9, c10⟩ := hat
      rw [← k0] at c0 c1 c2 c3 c4 c5 c6 c7 c8 c9 c10
      obtain ⟨au, cu, rfl, hcu1, hcu2⟩ := hva.any
      have hcu3 : cu ≤ 9223372036854775807 := by unfold maxLen at hcu2; exact hcu2
      obtain ⟨na, hna⟩ : ∃ na, arms.length = na := ⟨_, rfl⟩
      rw [hna] at c10 hcu1
      obtain ⟨a2, n2, p2, i3, a9, n9, p9, x0, x1, x2, a7, n7, p7, a8, n8, p8, f2, f3, f4, f5, f6, f7, f8, f9⟩ := hho.forms
      subst f2; subst f3; subst f4; subst f5; subst f6; subst f7; subst f8; subst f9
      have HY := Lib.hid hy
      have HB := Lib.hid (And.intro hva (And.intro hna hho))
      have HW := Lib.hid hbel
      obtain ⟨out, hout⟩ : ∃ out, (l.take m).foldl (fstep (fuseF k)) [] = out := ⟨_, rfl⟩
      rw [hout] at HJ
      have HO := Lib.hid hout
      obtain ⟨a3, co3, rfl, hc31, hc32⟩ : ∃ a3 c3, u3 = .slice a3 out.length c3 ∧ out.length ≤ c3 ∧ c3 ≤ 9223372036854775807 := by
        obtain ⟨row, _, q, _⟩ := HJ.out
        exact own_form q
      obtain ⟨no, hno⟩ : ∃ no, out.length = no := ⟨_, rfl⟩
      rw [hno] at HJ hc31 ⊢
      have HNO := Lib.hid hno
      clear hno
      have hnob : no ≤ 2097152 := by
        have h1 := fold_bound k l m _ hy
        rw [hout] at h1
        have h2 := len_szB 1 out
        have h3 := HK.out.2
        rw [HNO.out] at h2
        omega
      clear hy hva hna hho hbel hone k0 hout hcu2
      go_wp2
      obtain ⟨p, hp⟩ : ∃ p, wr.heap.size = p := ⟨_, rfl⟩
      obtain ⟨w1, hw1⟩ : ∃ w1, wr.alloc (.cells #[.int .i64 op, .string name, .slice a2 n2 p2, .int .i64 i3, .int .i64 x0, .string x1, .int .i64 x2, .slice a7 n7 p7, .slice a8 n8 p8, .slice a9 n9 p9, .slice au na cu] 38) = w1 := ⟨_, rfl⟩
      have hb01 : Below wr.heap.size wr w1 := by rw [← hw1]; exact (Below.refl _ _).alloc (Nat.le_refl _) _
      have hpb : w1.heap[p]? = some (.cells #[.int .i64 op, .string name, .slice a2 n2 p2, .int .i64 i3, .int .i64 x0, .string x1, .int .i64 x2, .slice a7 n7 p7, .slice a8 n8 p8, .slice a9 n9 p9, .slice au na cu] 38 (0, 0)) := by
        rw [← hw1, ← hp]; exact heap_alloc_new _ _
      have hpl : p < w1.heap.size := (Array.getElem?_eq_some_iff.1 hpb).1
      rw [hw1, hp]
      have hWp : W.heap.size ≤ p := by rw [← hp]; exact HW.out.size
      have HF := Lib.hid ((HJ.out.toFP hp).below hb01)
      have HW1 := Lib.hid (And.intro (HW.out.trans (hb01.mono HW.out.size)) (And.intro hpb (And.intro hpl hWp)))
      clear c0 c1 c2 c3 c4 c5 c6 c7 c8 c9 c10 hw1 hb01 hpb hpl hp HJ HW hWp
      go_loopw [6, 19] (fun va i wr => ∃ j : Nat, i = .int .i64 j ∧ j ≤ na ∧ Hid (J2 w1 wr A va (mapF (fuseF k) (arms.take j)))) (fun _ i _ => na - (intOf i).toNat)
      case atStart => exact ⟨0, rfl, Nat.zero_le _, Lib.hid (J2.nil w1 A)⟩
      case round =>
        obtain ⟨j, rfl, hj, HI⟩ := hrel
        have hbx : Below W.heap.size W wr := by
          obtain ⟨row, q, _⟩ := HI.out
          exact HW1.out.1.trans (q.mono HW1.out.1.size)
        by_cases hlt2 : j < na
        · obtain ⟨z, hz⟩ : ∃ z, arms[j]? = some z := ⟨_, getE (by rw [HB.out.2.1]; exact hlt2)⟩
          obtain ⟨b2, off2, cap2, u2, he, _, _, _, hbs2, d1, d2, hb2⟩ := HB.out.1.get j z hz
          simp only [Value.slice.injEq, true_and] at he
          obtain ⟨rfl, -, rfl⟩ := he
          have d1 := (World.cell?_of_block (a := ⟨b2, off2 + j * 2, none⟩) (hbx.block b2 hbs2)).trans d1
          have d2 := (World.cell?_of_block (a := ⟨b2, off2 + j * 2 + 1, none⟩) (hbx.block b2 hbs2)).trans d2
          obtain ⟨con, body⟩ := z
          simp only [Arm.con, Arm.body] at d1 d2 hb2
          obtain ⟨au2, cu2, rfl, _, _⟩ := hb2.any
          obtain ⟨nb, hnb⟩ : ∃ nb, body.length = nb := ⟨_, rfl⟩
          rw [hnb] at d2 hb2
          have HZ := Lib.hid (And.intro hz hb2)
          have HBX := Lib.hid hbx
          clear hz hb2 hnb hbx
          have hsz : szB 1 body < k ∧ szB 1 body ≤ 2097152 := by
            have h1 := szB_mem 1 (List.mem_of_getElem? HY.out)
            have h2 := szA_mem 1 (List.mem_of_getElem? HZ.out.1)
            simp only [Stm.arms, Arm.body] at h1 h2
            have h3 := HK.out
            omega
          have hcl : ∀ w', Below W.heap.size W w' → Calls Try.prog 13 #[.slice au2 nb cu2] w' fun e w2 => ∃ v', e = .returned v' ∧ VB w2 (fun b => A b ∨ w'.heap.size ≤ b) v' (fuseF k body) ∧ Below w'.heap.size w' w2 :=
            fun w' hb => IH.out body w' A _ hsz.1 hsz.2 (HZ.out.2.stay (Stay.below hb))
          obtain ⟨row, hq1, hown, hq3⟩ := HI.out
          obtain ⟨nl, hnl⟩ : ∃ nl, (mapF (fuseF k) (arms.take j)).length = nl := ⟨_, rfl⟩
          have hnlj : nl = j := by rw [← hnl]; simp [mapF]; have := HB.out.2.1; omega
          rw [hnl] at hown
          have hnaN : na ≤ 2097152 := by
            have h1 := szB_mem 1 (List.mem_of_getElem? HY.out)
            simp only [Stm.arms] at h1
            have h2 := len_szA arms
            have h3 := HK.out
            have h4 := HB.out.2.1
            omega
          have hvq : ∀ g, u6.ownBlock = some g → g < wr.heap.size := fun g e => (hown.lt g e).2
          obtain ⟨q, hq⟩ : ∃ q, wr.heap.size = q := ⟨_, rfl⟩
          obtain ⟨wq, hwq⟩ : ∃ wq, wr.alloc (.cells #[.string con, .slice au2 nb cu2] 49) = wq := ⟨_, rfl⟩
          have hbq : Below wr.heap.size wr wq := by rw [← hwq]; exact (Below.refl _ _).alloc (Nat.le_refl _) _
          have hC : wq.cell? ⟨q, 0, none⟩ = some (.string con) ∧ wq.cell? ⟨q, 1, none⟩ = some (.slice au2 nb cu2) := by
            rw [← hwq, ← hq]
            exact ⟨by rw [cell_of_row _ wr.heap.size 0 _ 49 (0, 0) (heap_alloc_new _ _)]; rfl, by rw [cell_of_row _ wr.heap.size 1 _ 49 (0, 0) (heap_alloc_new _ _)]; rfl⟩
          have hq1l : q < wq.heap.size := by rw [← hwq, ← hq]; simp
          have hHO := Lib.hid (own_keep hown (fun g hg => hbq.block g (hvq g hg)))
          have HBW : Hid (Below W.heap.size W wq) := Lib.hid (HBX.out.trans (hbq.mono HBX.out.size))
          have hvp : u6.ownBlock ≠ some q := fun e => by have := hvq q e; omega
          have HQ := Lib.hid (And.intro hq1 (And.intro hown (And.intro hnl (And.intro hq3 hbq))))
          have HHQ := Lib.hid hq
          obtain ⟨i0, hi, hz0, hz1, hz2⟩ := info_parts infoz49
          have hw1l : w1.heap.size ≤ wq.heap.size := Nat.le_trans hq1.size hbq.size
          have HWQ := Lib.hid hwq
          clear hq1 hown hnl hq3 hbq hsz hvq hwq hq
          go_wp2
          rw [HWQ.out, HHQ.out]
          clear d1 d2 HWQ
          go_region_held3 (fun w' => w'.cell? ⟨q, 0, none⟩ = some (.string con) ∧ w'.cell? ⟨q, 1, none⟩ = some (.slice au2 nb cu2))
            (first | go_keep | (exact hS2) | (exact hS3))
            (first
              | (go_at_call 13
                 (first | (with_reducible refine (hcl _ HBW.out).mono ?_) | (with_reducible refine (hcl _ HBW.out.drew).mono ?_))
                 rintro e w2 ⟨v1, rfl, ho2, hb2⟩
                 obtain ⟨a1, cp1, rfl, hc1, hc2⟩ := ho2.any
                 obtain ⟨nf, hnf⟩ : ∃ nf, (fuseF k body).length = nf := ⟨_, rfl⟩
                 rw [hnf] at ho2 hc1 ⊢
                 have hS2 : w2.cell? ⟨q, 0, none⟩ = some (.string con) ∧ w2.cell? ⟨q, 1, none⟩ = some (.slice au2 nb cu2) := ⟨(World.cell?_of_block (a := ⟨q, 0, none⟩) (hb2.block _ hq1l)).trans hC.1, (World.cell?_of_block (a := ⟨q, 1, none⟩) (hb2.block _ hq1l)).trans hC.2⟩)
              | (refine step_append_lies _ (by rfl) _ _ _ (by rfl) w1.heap.size 49 i0 _ 2 40 Try.underlying36 hi hz0 hz1 hz2 rfl (by omega) u6 nl row (by rfl) (((own_keep hHO.out (fun g hg => hb2.block g (hHO.out.lt g hg).2)).alloc _).drew)
                  ⟨w2.heap.size, 0, none⟩ 1 1 [.string con, .slice a1 nf cp1] (by rfl) (by rfl) (World.news_of_block (cs := #[.string con, .slice a1 nf cp1]) (t := 49) (fr := (0, 0)) (heap_alloc_new w2 _)) (by simp [Value.oneCell'])
                  (by omega) (by unfold maxLen; omega) (by omega) (Nat.le_trans hw1l (Nat.le_trans hb2.size (by simp))) (w2.heap.size + 1) (by simp) ?_
                 intro gg capg w3 hown3 hgrow3 hat3 hlt3
                 have hpw2 : q < w2.heap.size := Nat.lt_of_lt_of_le hq1l hb2.size
                 have hS3 : w3.cell? ⟨q, 0, none⟩ = some (.string con) ∧ w3.cell? ⟨q, 1, none⟩ = some (.slice au2 nb cu2) := ⟨(World.cell?_of_block (a := ⟨q, 0, none⟩) ((hgrow3.block q (by simp; omega) (Ne.symm hvp)).trans (Below.heap_alloc w2 _ q hpw2))).trans hS2.1, (World.cell?_of_block (a := ⟨q, 1, none⟩) ((hgrow3.block q (by simp; omega) (Ne.symm hvp)).trans (Below.heap_alloc w2 _ q hpw2))).trans hS2.2⟩))
          have hb2' : Below wr.heap.size wr w2 := HQ.out.2.2.2.2.trans ((((Below.refl wq.heap.size wq).drew).trans hb2).mono HQ.out.2.2.2.2.size)
          have ho2' : VB w2 (fun b => A b ∨ wr.heap.size ≤ b) (.slice a1 nf cp1) (fuseF k body) := VB.stay ho2 (Stay.weaken _ (fun b _ hb => by
            rcases hb with q | q
            · exact Or.inl q
            · exact Or.inr (Nat.le_trans HQ.out.2.2.2.2.size q)))
          have HG := Lib.hid (J2.snoc (fun b hb => Nat.lt_of_lt_of_le (HA.out.1 b hb) HW1.out.1.size) HQ.out.1 HQ.out.2.1 HQ.out.2.2.1 HQ.out.2.2.2.1 hb2' ho2' hown3 hgrow3 (by
            rcases hat3 with r | r
            · exact Or.inl r.symm
            · exact Or.inr (fun g e => by simp [Value.ownBlock] at e; omega)))
          clear hC hS2 hS3 hown3 hgrow3 hat3 hcl ho2 hb2 hb2' ho2'
          go_wp2
          go_roundw
          case rel =>
            refine ⟨j + 1, by simp, by omega, Lib.hid ?_⟩
            have e : mapF (fuseF k) (arms.take (j + 1)) = mapF (fuseF k) (arms.take j) ++ [.mk con (fuseF k body)] := by
              rw [take_snoc HZ.out.1]; simp [mapF, Arm.con, Arm.body]
            rw [e]
            have := HG.out
            rw [hnlj] at this
            exact this
          case measure => simp [intOf]; omega
        · have hall : arms.take j = arms := List.take_of_length_le (by rw [HB.out.2.1]; omega)
          rw [hall] at HI
          obtain ⟨va, hva⟩ : ∃ va, va = u6 := ⟨_, rfl⟩
          obtain ⟨ao, co, rfl, hco1, hco2⟩ : ∃ ao co, u6 = .slice ao na co ∧ na ≤ co ∧ co ≤ 9223372036854775807 := by
            obtain ⟨row, _, q, _⟩ := HI.out
            have := own_form q
            simpa [mapF, HB.out.2.1] using this
          have hbi : Below w1.heap.size w1 wr := by
            obtain ⟨row, q, _⟩ := HI.out; exact q
          have hpb : wr.heap[p]? = some (.cells #[.int .i64 op, .string name, .slice a2 n2 p2, .int .i64 i3, .int .i64 x0, .string x1, .int .i64 x2, .slice a7 n7 p7, .slice a8 n8 p8, .slice a9 n9 p9, .slice au na cu] 38 (0, 0)) := (hbi.block p HW1.out.2.2.1).trans HW1.out.2.1
          have hpc : wr.cell? ⟨p, 10, none⟩ = some (.slice au na cu) := by rw [cell_of_row _ p 10 _ 38 (0, 0) hpb]; rfl
          have hpf : wr.frozen? ⟨p, 10, none⟩ = false := by simp [World.frozen?, hpb]
          have HPB := Lib.hid hpb
          have HBI := Lib.hid hbi
          clear hall hva hpb hbi hbx
          by_cases hno : no = 0
          · subst hno
            go_wp2
            clear hpc hpf
            refine gen_world (S := fun w2 => FP W w2 A (.slice a3 0 co3) out p ∧ VA w2 (fun b => A b ∨ w1.heap.size ≤ b) (.slice ao na co) (mapF (fuseF k) arms) ∧ w2.heap[p]? = some (.cells #[.int .i64 op, .string name, .slice a2 n2 p2, .int .i64 i3, .int .i64 x0, .string x1, .int .i64 x2, .slice a7 n7 p7, .slice a8 n8 p8, .slice a9 n9 p9, .slice ao na co] 38 (0, 0))) ⟨?_, ?_, ?_⟩ ?_
            · exact (HF.out.below HBI.out).setp HW1.out.2.2.2
            · exact HI.out.va.stay ⟨by simp [World.setCell], fun b _ hA => ⟨hA, Below.heap_setCell wr ⟨p, 10, none⟩ _ b (by
                intro e
                have e : b = p := e
                have h1 := HW1.out.2.2
                rcases hA with q | q
                · have := HA.out.1 b q; omega
                · omega)⟩⟩
            · exact heap_setCell_same wr p 10 _ 38 _ HPB.out
            rintro w2 ⟨hF, hVA, hPB⟩
            go_quiet (fail)
            refine gen_world' (S := fun w3 => FP W w3 A (.slice a3 0 co3) out p ∧ VA w3 (fun b => A b ∨ w1.heap.size ≤ b) (.slice ao na co) (mapF (fuseF k) arms) ∧ w3.heap[p]? = some (.cells #[.int .i64 op, .string name, .slice a2 n2 p2, .int .i64 i3, .int .i64 x0, .string x1, .int .i64 x2, .slice a7 n7 p7, .slice a8 n8 p8, .slice a9 n9 p9, .slice ao na co] 38 (0, 0))) ⟨hF.below (below_drewN nq _ w2), hVA.stay (Stay.below (below_drewN nq _ w2)), hPB⟩ ?_
            clear hF hVA hPB
            rintro w3 ⟨hF, hVA, hPB⟩
            obtain ⟨row, hb3, hown, hea, hvp⟩ := hF
            rw [HNO.out] at hown
            have c0 : w3.cell? ⟨p, 0, none⟩ = some (.int .i64 op) := by rw [cell_of_row _ p 0 _ 38 (0, 0) hPB]; rfl
            have c1 : w3.cell? ⟨p, 1, none⟩ = some (.string name) := by rw [cell_of_row _ p 1 _ 38 (0, 0) hPB]; rfl
            have c2 : w3.cell? ⟨p, 2, none⟩ = some (.slice a2 n2 p2) := by rw [cell_of_row _ p 2 _ 38 (0, 0) hPB]; rfl
            have c3 : w3.cell? ⟨p, 3, none⟩ = some (.int .i64 i3) := by rw [cell_of_row _ p 3 _ 38 (0, 0) hPB]; rfl
            have c4 : w3.cell? ⟨p, 4, none⟩ = some (.int .i64 x0) := by rw [cell_of_row _ p 4 _ 38 (0, 0) hPB]; rfl
            have c5 : w3.cell? ⟨p, 5, none⟩ = some (.string x1) := by rw [cell_of_row _ p 5 _ 38 (0, 0) hPB]; rfl
            have c6 : w3.cell? ⟨p, 6, none⟩ = some (.int .i64 x2) := by rw [cell_of_row _ p 6 _ 38 (0, 0) hPB]; rfl
            have c7 : w3.cell? ⟨p, 7, none⟩ = some (.slice a7 n7 p7) := by rw [cell_of_row _ p 7 _ 38 (0, 0) hPB]; rfl
            have c8 : w3.cell? ⟨p, 8, none⟩ = some (.slice a8 n8 p8) := by rw [cell_of_row _ p 8 _ 38 (0, 0) hPB]; rfl
            have c9 : w3.cell? ⟨p, 9, none⟩ = some (.slice a9 n9 p9) := by rw [cell_of_row _ p 9 _ 38 (0, 0) hPB]; rfl
            have c10 : w3.cell? ⟨p, 10, none⟩ = some (.slice ao na co) := by rw [cell_of_row _ p 10 _ 38 (0, 0) hPB]; rfl
            have hHO := Lib.hid hown
            have HQ := Lib.hid (And.intro hb3 (And.intro hea (And.intro hvp hVA)))
            obtain ⟨i0, hi, hz0, hz1, hz2⟩ := info_parts infoz38
            clear hb3 hown hea hvp hVA hPB
            go_wp2_with (at_builtin; go_must (refine wpList_append_lies _ rfl _ _ 22 rfl W.heap.size 38 i0 _ 11 184 Try.underlying22 hi hz0 hz1 hz2 rfl (by decide) _ _ _ rfl (hHO.out.alloc _) ⟨w3.heap.size, 0, none⟩ 1 1 [.int .i64 op, .string name, .slice a2 n2 p2, .int .i64 i3, .int .i64 x0, .string x1, .int .i64 x2, .slice a7 n7 p7, .slice a8 n8 p8, .slice a9 n9 p9, .slice ao na co] rfl rfl ?g1 ?g2 (by decide) ?g3 ?g4 ?g5 (w3.heap.size + 1) (by simp) ?_))
            case g1 =>
              first
                | exact World.news_of_block (cs := #[.int .i64 op, .string name, .slice a2 n2 p2, .int .i64 i3, .int .i64 x0, .string x1, .int .i64 x2, .slice a7 n7 p7, .slice a8 n8 p8, .slice a9 n9 p9, .slice ao na co]) (t := 38) (fr := (0, 0)) (heap_alloc_new w3 _)
                | (intro j u hj; exact World.news_of_block (cs := #[.int .i64 op, .string name, .slice a2 n2 p2, .int .i64 i3, .int .i64 x0, .string x1, .int .i64 x2, .slice a7 n7 p7, .slice a8 n8 p8, .slice a9 n9 p9, .slice ao na co]) (t := 38) (fr := (0, 0)) (heap_alloc_new w3 _) j u hj)
            case g2 =>
              intro u hu
              simp only [List.mem_cons, List.not_mem_nil, or_false] at hu
              rcases hu with rfl | rfl | rfl | rfl | rfl | rfl | rfl | rfl | rfl | rfl | rfl <;> rfl
            case g3 => unfold maxLen; omega
            case g4 => omega
            case g5 => exact Nat.le_trans HQ.out.1.size (by simp)
            intro gg capg w4 hown4 hgrow4 hat4 hlt4
            have HG := Lib.hid (FO.snoc (hd := ⟨op, name, strs, .slice a2 n2 p2, .int .i64 i3, .int .i64 x0, .string x1, .int .i64 x2, .slice a7 n7 p7, .slice a8 n8 p8, .slice a9 n9 p9⟩) HQ.out.1 hHO.out HNO.out HQ.out.2.1 HQ.out.2.2.1 HA.out.1 (HB.out.2.2.stay (Stay.below HQ.out.1)) HQ.out.2.2.2 HW1.out.2.2.1 HW1.out.2.2.2 hown4 hgrow4 (by
              rcases hat4 with r | r
              · exact Or.inl r.symm
              · exact Or.inr (fun g e => by simp [Value.ownBlock] at e; omega)))
            clear hown4 hgrow4 hat4 c0 c1 c2 c3 c4 c5 c6 c7 c8 c9 c10
            go_wp2
            refine ⟨⟨m + 1, by simp, by omega, Lib.hid ?_⟩, by simp [intOf]; omega⟩
            rw [take_snoc HY.out, List.foldl_append, List.foldl_cons, List.foldl_nil, HO.out]
            have hnil : out = [] := List.eq_nil_of_length_eq_zero HNO.out
            have hg := HG.out
            rw [hnil] at hg ⊢
            exact hg
          · obtain ⟨nn, rfl⟩ : ∃ nn, no = nn + 1 := ⟨no - 1, by omega⟩
            clear hno
            go_wp2
            clear hpc hpf
            refine gen_world (S := fun w2 => FP W w2 A (.slice a3 (nn + 1) co3) out p ∧ VA w2 (fun b => A b ∨ w1.heap.size ≤ b) (.slice ao na co) (mapF (fuseF k) arms) ∧ w2.heap[p]? = some (.cells #[.int .i64 op, .string name, .slice a2 n2 p2, .int .i64 i3, .int .i64 x0, .string x1, .int .i64 x2, .slice a7 n7 p7, .slice a8 n8 p8, .slice a9 n9 p9, .slice ao na co] 38 (0, 0))) ⟨?_, ?_, ?_⟩ ?_
            · exact (HF.out.below HBI.out).setp HW1.out.2.2.2
            · exact HI.out.va.stay ⟨by simp [World.setCell], fun b _ hA => ⟨hA, Below.heap_setCell wr ⟨p, 10, none⟩ _ b (by
                intro e
                have e : b = p := e
                have h1 := HW1.out.2.2
                rcases hA with q | q
                · have := HA.out.1 b q; omega
                · omega)⟩⟩
            · exact heap_setCell_same wr p 10 _ 38 _ HPB.out
            rintro w2 ⟨hF, hVA, hPB⟩
            have HF2 := Lib.hid hF
            obtain ⟨row, hb3, hown, hea, hvp⟩ := hF
            rw [HNO.out] at hown
            obtain ⟨t, ht⟩ : ∃ t, out[nn]? = some t := ⟨_, getE (by rw [HNO.out]; omega)⟩
            obtain ⟨ut, hcs, hto, htv⟩ := EB_get nn t hea ht
            obtain ⟨⟨top, tname, tstrs, tnames, tinst, te0, te1, te2, te3, te4, targs⟩, tarms⟩ := t
            simp only [Stm.hd, Stm.arms, rawS] at hcs hto htv
            obtain ⟨b2, m2, r2, j3, b9, m9, r9, y0, y1, y2, b7, m7, r7, b8, m8, r8, f2, f3, f4, f5, f6, f7, f8, f9⟩ := hto.forms
            subst f2; subst f3; subst f4; subst f5; subst f6; subst f7; subst f8; subst f9
            obtain ⟨at_, ct, rfl, hct1, hct2⟩ := htv.any
            have hct3 : ct ≤ 9223372036854775807 := by unfold maxLen at hct2; exact hct2
            obtain ⟨nt, hnt⟩ : ∃ nt, tarms.length = nt := ⟨_, rfl⟩
            rw [hnt] at hcs hct1
            have hform : ∃ g, a3 = some ⟨g, 0, none⟩ := by
              rcases hown.2 with ⟨_, e⟩ | ⟨g, capo, cur, e, _⟩
              · omega
              · cases e; exact ⟨g, rfl⟩
            obtain ⟨g, rfl⟩ := hform
            have hcg : ∀ j, j < 11 → w2.cell? ⟨g, nn * 11 + j, none⟩ = row[nn * 11 + j]? := fun j hj => hown.cellAt (nn * 11 + j) (by omega)
            have g0 := (hcg 0 (by decide)).trans (hcs 0 (by decide))
            have g1 := (hcg 1 (by decide)).trans (hcs 1 (by decide))
            have g2 := (hcg 2 (by decide)).trans (hcs 2 (by decide))
            have g3 := (hcg 3 (by decide)).trans (hcs 3 (by decide))
            have g4 := (hcg 4 (by decide)).trans (hcs 4 (by decide))
            have g5 := (hcg 5 (by decide)).trans (hcs 5 (by decide))
            have g6 := (hcg 6 (by decide)).trans (hcs 6 (by decide))
            have g7 := (hcg 7 (by decide)).trans (hcs 7 (by decide))
            have g8 := (hcg 8 (by decide)).trans (hcs 8 (by decide))
            have g9 := (hcg 9 (by decide)).trans (hcs 9 (by decide))
            have g10 := (hcg 10 (by decide)).trans (hcs 10 (by decide))
            simp only [List.getElem?_cons_zero, List.getElem?_cons_succ, Nat.add_zero] at g0 g1 g2 g3 g4 g5 g6 g7 g8 g9 g10
            have c0 : w2.cell? ⟨p, 0, none⟩ = some (.int .i64 op) := by rw [cell_of_row _ p 0 _ 38 (0, 0) hPB]; rfl
            have c1 : w2.cell? ⟨p, 1, none⟩ = some (.string name) := by rw [cell_of_row _ p 1 _ 38 (0, 0) hPB]; rfl
            have c2 : w2.cell? ⟨p, 2, none⟩ = some (.slice a2 n2 p2) := by rw [cell_of_row _ p 2 _ 38 (0, 0) hPB]; rfl
            have c3 : w2.cell? ⟨p, 3, none⟩ = some (.int .i64 i3) := by rw [cell_of_row _ p 3 _ 38 (0, 0) hPB]; rfl
            have c4 : w2.cell? ⟨p, 4, none⟩ = some (.int .i64 x0) := by rw [cell_of_row _ p 4 _ 38 (0, 0) hPB]; rfl
            have c5 : w2.cell? ⟨p, 5, none⟩ = some (.string x1) := by rw [cell_of_row _ p 5 _ 38 (0, 0) hPB]; rfl
            have c6 : w2.cell? ⟨p, 6, none⟩ = some (.int .i64 x2) := by rw [cell_of_row _ p 6 _ 38 (0, 0) hPB]; rfl
            have c7 : w2.cell? ⟨p, 7, none⟩ = some (.slice a7 n7 p7) := by rw [cell_of_row _ p 7 _ 38 (0, 0) hPB]; rfl
            have c8 : w2.cell? ⟨p, 8, none⟩ = some (.slice a8 n8 p8) := by rw [cell_of_row _ p 8 _ 38 (0, 0) hPB]; rfl
            have c9 : w2.cell? ⟨p, 9, none⟩ = some (.slice a9 n9 p9) := by rw [cell_of_row _ p 9 _ 38 (0, 0) hPB]; rfl
            have c10 : w2.cell? ⟨p, 10, none⟩ = some (.slice ao na co) := by rw [cell_of_row _ p 10 _ 38 (0, 0) hPB]; rfl
            have htog := fun w' (hb : Below w2.heap.size w2 w') => together_any (h' := ⟨op, name, strs, .slice a2 n2 p2, .int .i64 i3, .int .i64 x0, .string x1, .int .i64 x2, .slice a7 n7 p7, .slice a8 n8 p8, .slice a9 n9 p9⟩) (u' := .slice ao na co) (arms' := mapF (fuseF k) arms) (hto.stay (Stay.below hb)) (htv.stay (Stay.below hb))
            obtain ⟨tg, htg⟩ : ∃ tg, tog (.mk ⟨top, tname, tstrs, .slice b2 m2 r2, .int .i64 j3, .int .i64 y0, .string y1, .int .i64 y2, .slice b7 m7 r7, .slice b8 m8 r8, .slice b9 m9 r9⟩ tarms) (.mk ⟨op, name, strs, .slice a2 n2 p2, .int .i64 i3, .int .i64 x0, .string x1, .int .i64 x2, .slice a7 n7 p7, .slice a8 n8 p8, .slice a9 n9 p9⟩ (mapF (fuseF k) arms)) = tg := ⟨_, rfl⟩
            simp only [htg, rawS, hnt] at htog
            have HT := Lib.hid (And.intro ht (And.intro htg (And.intro hnt (And.intro hto htv))))
            have HR := Lib.hid (And.intro hb3 (And.intro hown (And.intro hea hvp)))
            have HVA := Lib.hid hVA
            have HPB2 := Lib.hid hPB
            clear ht htg hto htv hb3 hown hea hvp hVA hPB hcs hcg hnt hct2
            have hgl : g < w2.heap.size := (own_block HR.out.2.1 (g := g) rfl).2.1
            have hpl : p < w2.heap.size := (Array.getElem?_eq_some_iff.1 HPB2.out).1
            have hSS : ∀ w', Below w2.heap.size w2 w' → w'.cell? ⟨g, nn * 11, none⟩ = some (.int .i64 top) ∧ w'.cell? ⟨g, nn * 11 + 1, none⟩ = some (.string tname) ∧ w'.cell? ⟨g, nn * 11 + 2, none⟩ = some (.slice b2 m2 r2) ∧ w'.cell? ⟨g, nn * 11 + 3, none⟩ = some (.int .i64 j3) ∧ w'.cell? ⟨g, nn * 11 + 4, none⟩ = some (.int .i64 y0) ∧ w'.cell? ⟨g, nn * 11 + 5, none⟩ = some (.string y1) ∧ w'.cell? ⟨g, nn * 11 + 6, none⟩ = some (.int .i64 y2) ∧ w'.cell? ⟨g, nn * 11 + 7, none⟩ = some (.slice b7 m7 r7) ∧ w'.cell? ⟨g, nn * 11 + 8, none⟩ = some (.slice b8 m8 r8) ∧ w'.cell? ⟨g, nn * 11 + 9, none⟩ = some (.slice b9 m9 r9) ∧ w'.cell? ⟨g, nn * 11 + 10, none⟩ = some (.slice at_ nt ct) ∧ w'.cell? ⟨p, 0, none⟩ = some (.int .i64 op) ∧ w'.cell? ⟨p, 1, none⟩ = some (.string name) ∧ w'.cell? ⟨p, 2, none⟩ = some (.slice a2 n2 p2) ∧ w'.cell? ⟨p, 3, none⟩ = some (.int .i64 i3) ∧ w'.cell? ⟨p, 4, none⟩ = some (.int .i64 x0) ∧ w'.cell? ⟨p, 5, none⟩ = some (.string x1) ∧ w'.cell? ⟨p, 6, none⟩ = some (.int .i64 x2) ∧ w'.cell? ⟨p, 7, none⟩ = some (.slice a7 n7 p7) ∧ w'.cell? ⟨p, 8, none⟩ = some (.slice a8 n8 p8) ∧ w'.cell? ⟨p, 9, none⟩ = some (.slice a9 n9 p9) ∧ w'.cell? ⟨p, 10, none⟩ = some (.slice ao na co) := fun w' hb => ⟨(World.cell?_of_block (hb.block _ hgl)).trans g0, (World.cell?_of_block (hb.block _ hgl)).trans g1, (World.cell?_of_block (hb.block _ hgl)).trans g2, (World.cell?_of_block (hb.block _ hgl)).trans g3, (World.cell?_of_block (hb.block _ hgl)).trans g4, (World.cell?_of_block (hb.block _ hgl)).trans g5, (World.cell?_of_block (hb.block _ hgl)).trans g6, (World.cell?_of_block (hb.block _ hgl)).trans g7, (World.cell?_of_block (hb.block _ hgl)).trans g8, (World.cell?_of_block (hb.block _ hgl)).trans g9, (World.cell?_of_block (hb.block _ hgl)).trans g10, (World.cell?_of_block (hb.block _ hpl)).trans c0, (World.cell?_of_block (hb.block _ hpl)).trans c1, (World.cell?_of_block (hb.block _ hpl)).trans c2, (World.cell?_of_block (hb.block _ hpl)).trans c3, (World.cell?_of_block (hb.block _ hpl)).trans c4, (World.cell?_of_block (hb.block _ hpl)).trans c5, (World.cell?_of_block (hb.block _ hpl)).trans c6, (World.cell?_of_block (hb.block _ hpl)).trans c7, (World.cell?_of_block (hb.block _ hpl)).trans c8, (World.cell?_of_block (hb.block _ hpl)).trans c9, (World.cell?_of_block (hb.block _ hpl)).trans c10⟩
            have hd : decide (0 ≤ (nn : Int)) = true := decide_eq_true (by omega)
            have hd0 : (0 : Int) ≤ (nn : Int) := by omega
            have hd1 : (nn : Int) < (nn : Int) + 1 := by omega
            have hd2 : (nn : Int) < ((nn + 1 : Nat) : Int) := by omega
            have htog1 := htog _ ((Below.refl w2.heap.size w2).drew)
            go_region_held3 (fun w' => w'.cell? ⟨g, nn * 11, none⟩ = some (.int .i64 top) ∧ w'.cell? ⟨g, nn * 11 + 1, none⟩ = some (.string tname) ∧ w'.cell? ⟨g, nn * 11 + 2, none⟩ = some (.slice b2 m2 r2) ∧ w'.cell? ⟨g, nn * 11 + 3, none⟩ = some (.int .i64 j3) ∧ w'.cell? ⟨g, nn * 11 + 4, none⟩ = some (.int .i64 y0) ∧ w'.cell? ⟨g, nn * 11 + 5, none⟩ = some (.string y1) ∧ w'.cell? ⟨g, nn * 11 + 6, none⟩ = some (.int .i64 y2) ∧ w'.cell? ⟨g, nn * 11 + 7, none⟩ = some (.slice b7 m7 r7) ∧ w'.cell? ⟨g, nn * 11 + 8, none⟩ = some (.slice b8 m8 r8) ∧ w'.cell? ⟨g, nn * 11 + 9, none⟩ = some (.slice b9 m9 r9) ∧ w'.cell? ⟨g, nn * 11 + 10, none⟩ = some (.slice at_ nt ct) ∧ w'.cell? ⟨p, 0, none⟩ = some (.int .i64 op) ∧ w'.cell? ⟨p, 1, none⟩ = some (.string name) ∧ w'.cell? ⟨p, 2, none⟩ = some (.slice a2 n2 p2) ∧ w'.cell? ⟨p, 3, none⟩ = some (.int .i64 i3) ∧ w'.cell? ⟨p, 4, none⟩ = some (.int .i64 x0) ∧ w'.cell? ⟨p, 5, none⟩ = some (.string x1) ∧ w'.cell? ⟨p, 6, none⟩ = some (.int .i64 x2) ∧ w'.cell? ⟨p, 7, none⟩ = some (.slice a7 n7 p7) ∧ w'.cell? ⟨p, 8, none⟩ = some (.slice a8 n8 p8) ∧ w'.cell? ⟨p, 9, none⟩ = some (.slice a9 n9 p9) ∧ w'.cell? ⟨p, 10, none⟩ = some (.slice ao na co))
              (first | (exact hS2) | (exact hSS _ (Below.refl _ _)) | (exact hSS _ ((Below.refl w2.heap.size w2).drew)))
              (first
                | (go_at_call 27
                   (first | (with_reducible refine htog1.mono ?_) | (refine htog1.mono ?_))
                   rintro e w3 ⟨rfl, hb3⟩
                   have hb3' : Below w2.heap.size w2 w3 := ((Below.refl w2.heap.size w2).drew).trans hb3
                   have hS2 := hSS w3 hb3')
                | fail)
            refine gen_world' (S := fun w3 => FP W w3 A (.slice (some ⟨g, 0, none⟩) (nn + 1) co3) out p ∧ VA w3 (fun b => A b ∨ w1.heap.size ≤ b) (.slice ao na co) (mapF (fuseF k) arms) ∧ w3.heap[p]? = some (.cells #[.int .i64 op, .string name, .slice a2 n2 p2, .int .i64 i3, .int .i64 x0, .string x1, .int .i64 x2, .slice a7 n7 p7, .slice a8 n8 p8, .slice a9 n9 p9, .slice ao na co] 38 (0, 0)) ∧ w3.cell? ⟨g, nn * 11 + 10, none⟩ = some (.slice at_ nt ct) ∧ VA w3 (fun b => ((A b ∨ W.heap.size ≤ b) ∧ (Value.slice (some ⟨g, 0, none⟩) (nn + 1) co3).ownBlock ≠ some b) ∧ b < p) (.slice at_ tarms.length ct) tarms) ⟨HF2.out.below hb3', HVA.out.stay (Stay.below hb3'), (hb3'.block p hpl).trans HPB2.out, (World.cell?_of_block (hb3'.block _ hgl)).trans g10, HT.out.2.2.2.2.stay (Stay.below hb3')⟩ ?_
            clear g0 g1 g2 g3 g4 g5 g6 g7 g8 g9 g10 c0 c1 c2 c3 c4 c5 c6 c7 c8 c9 c10 hSS htog htog1 hS2 hd hd0 hd1 hd2 HR HPB2 HF2 HVA
            clear hb3' hb3
            rintro w3 ⟨hF, hVA, hPB, hTC, hTV⟩
            cases tg with
            | false =>
              clear hTC hTV
              obtain ⟨row, hb3, hown, hea, hvp⟩ := hF
              rw [HNO.out] at hown
              have c0 : w3.cell? ⟨p, 0, none⟩ = some (.int .i64 op) := by rw [cell_of_row _ p 0 _ 38 (0, 0) hPB]; rfl
              have c1 : w3.cell? ⟨p, 1, none⟩ = some (.string name) := by rw [cell_of_row _ p 1 _ 38 (0, 0) hPB]; rfl
              have c2 : w3.cell? ⟨p, 2, none⟩ = some (.slice a2 n2 p2) := by rw [cell_of_row _ p 2 _ 38 (0, 0) hPB]; rfl
              have c3 : w3.cell? ⟨p, 3, none⟩ = some (.int .i64 i3) := by rw [cell_of_row _ p 3 _ 38 (0, 0) hPB]; rfl
              have c4 : w3.cell? ⟨p, 4, none⟩ = some (.int .i64 x0) := by rw [cell_of_row _ p 4 _ 38 (0, 0) hPB]; rfl
              have c5 : w3.cell? ⟨p, 5, none⟩ = some (.string x1) := by rw [cell_of_row _ p 5 _ 38 (0, 0) hPB]; rfl
              have c6 : w3.cell? ⟨p, 6, none⟩ = some (.int .i64 x2) := by rw [cell_of_row _ p 6 _ 38 (0, 0) hPB]; rfl
              have c7 : w3.cell? ⟨p, 7, none⟩ = some (.slice a7 n7 p7) := by rw [cell_of_row _ p 7 _ 38 (0, 0) hPB]; rfl
              have c8 : w3.cell? ⟨p, 8, none⟩ = some (.slice a8 n8 p8) := by rw [cell_of_row _ p 8 _ 38 (0, 0) hPB]; rfl
              have c9 : w3.cell? ⟨p, 9, none⟩ = some (.slice a9 n9 p9) := by rw [cell_of_row _ p 9 _ 38 (0, 0) hPB]; rfl
              have c10 : w3.cell? ⟨p, 10, none⟩ = some (.slice ao na co) := by rw [cell_of_row _ p 10 _ 38 (0, 0) hPB]; rfl
              have hHO := Lib.hid hown
              have HQ := Lib.hid (And.intro hb3 (And.intro hea (And.intro hvp hVA)))
              obtain ⟨i0, hi, hz0, hz1, hz2⟩ := info_parts infoz38
              clear hb3 hown hea hvp hVA hPB
              go_wp2_with (at_builtin; go_must (refine wpList_append_lies _ rfl _ _ 22 rfl W.heap.size 38 i0 _ 11 184 Try.underlying22 hi hz0 hz1 hz2 rfl (by decide) _ _ _ rfl (hHO.out.alloc _) ⟨w3.heap.size, 0, none⟩ 1 1 [.int .i64 op, .string name, .slice a2 n2 p2, .int .i64 i3, .int .i64 x0, .string x1, .int .i64 x2, .slice a7 n7 p7, .slice a8 n8 p8, .slice a9 n9 p9, .slice ao na co] rfl rfl ?g1 ?g2 (by decide) ?g3 ?g4 ?g5 (w3.heap.size + 1) (by simp) ?_))
              case g1 =>
                first
                  | exact World.news_of_block (cs := #[.int .i64 op, .string name, .slice a2 n2 p2, .int .i64 i3, .int .i64 x0, .string x1, .int .i64 x2, .slice a7 n7 p7, .slice a8 n8 p8, .slice a9 n9 p9, .slice ao na co]) (t := 38) (fr := (0, 0)) (heap_alloc_new w3 _)
                  | (intro j u hj; exact World.news_of_block (cs := #[.int .i64 op, .string name, .slice a2 n2 p2, .int .i64 i3, .int .i64 x0, .string x1, .int .i64 x2, .slice a7 n7 p7, .slice a8 n8 p8, .slice a9 n9 p9, .slice ao na co]) (t := 38) (fr := (0, 0)) (heap_alloc_new w3 _) j u hj)
              case g2 =>
                intro u hu
                simp only [List.mem_cons, List.not_mem_nil, or_false] at hu
                rcases hu with rfl | rfl | rfl | rfl | rfl | rfl | rfl | rfl | rfl | rfl | rfl <;> rfl
              case g3 => unfold maxLen; omega
              case g4 => omega
              case g5 => exact Nat.le_trans HQ.out.1.size (by simp)
              intro gg capg w4 hown4 hgrow4 hat4 hlt4
              have HG := Lib.hid (FO.snoc (hd := ⟨op, name, strs, .slice a2 n2 p2, .int .i64 i3, .int .i64 x0, .string x1, .int .i64 x2, .slice a7 n7 p7, .slice a8 n8 p8, .slice a9 n9 p9⟩) HQ.out.1 hHO.out HNO.out HQ.out.2.1 HQ.out.2.2.1 HA.out.1 (HB.out.2.2.stay (Stay.below HQ.out.1)) HQ.out.2.2.2 HW1.out.2.2.1 HW1.out.2.2.2 hown4 hgrow4 (by
                rcases hat4 with r | r
                · exact Or.inl r.symm
                · exact Or.inr (fun g e => by simp [Value.ownBlock] at e; omega)))
              clear hown4 hgrow4 hat4 c0 c1 c2 c3 c4 c5 c6 c7 c8 c9 c10
              go_wp2
              refine ⟨⟨m + 1, by simp, by omega, Lib.hid ?_⟩, by simp [intOf]; omega⟩
              rw [take_snoc HY.out, List.foldl_append, List.foldl_cons, List.foldl_nil, HO.out]
              have hft : fstep (fuseF k) out (.mk ⟨op, name, strs, .slice a2 n2 p2, .int .i64 i3, .int .i64 x0, .string x1, .int .i64 x2, .slice a7 n7 p7, .slice a8 n8 p8, .slice a9 n9 p9⟩ arms) = out ++ [.mk ⟨op, name, strs, .slice a2 n2 p2, .int .i64 i3, .int .i64 x0, .string x1, .int .i64 x2, .slice a7 n7 p7, .slice a8 n8 p8, .slice a9 n9 p9⟩ (mapF (fuseF k) arms)] := fstep_false _ _ _ nn _ HNO.out HT.out.1 HT.out.2.1
              rw [hft]
              exact HG.out
            | true =>
              have HSZ : Hid (szA 1 (tarms ++ mapF (fuseF k) arms) ≤ k ∧ szA 1 (tarms ++ mapF (fuseF k) arms) ≤ 2097152 ∧ tarms.length + (mapF (fuseF k) arms).length ≤ 4194304) := by
                refine Lib.hid ?_
                have h1 := fold_bound k l m _ HY.out
                rw [HO.out] at h1
                have h2 := szB_mem 1 (List.mem_of_getElem? HT.out.1)
                have h3 := szA_mapF 1 (szB_fuse 1 k) arms
                have h4 := len_szA (tarms ++ mapF (fuseF k) arms)
                rw [szS_eq] at h1
                simp only [Stm.arms] at h1 h2
                have h5 := HK.out
                rw [List.length_append] at h4
                rw [szA_append] at h4 ⊢
                refine ⟨by omega, by omega, by omega⟩
              have hown : ∃ row, w3.ownsRow W.heap.size 38 11 (.slice (some ⟨g, 0, none⟩) (nn + 1) co3) (nn + 1) row := by
                obtain ⟨row, _, q, _⟩ := hF
                rw [HNO.out] at q
                exact ⟨row, q⟩
              have hgp : g < p := by
                obtain ⟨row, _, _, _, q⟩ := hF
                exact q g rfl
              have c1 : w3.cell? ⟨p, 1, none⟩ = some (.string name) := by rw [cell_of_row _ p 1 _ 38 (0, 0) hPB]; rfl
              have c10 : w3.cell? ⟨p, 10, none⟩ = some (.slice ao na co) := by rw [cell_of_row _ p 10 _ 38 (0, 0) hPB]; rfl
              have hbW : Below W.heap.size W w3 := by obtain ⟨row, q, _⟩ := hF; exact q
              have hgl3 : g < w3.heap.size := by obtain ⟨row, q⟩ := hown; exact (q.lt g rfl).2
              have hpl3 : p < w3.heap.size := (Array.getElem?_eq_some_iff.1 hPB).1
              have HF3 := Lib.hid hF
              obtain ⟨row, hown⟩ := hown
              have hgW : W.heap.size ≤ g := (hown.lt g rfl).1
              have HOW := Lib.hid hown
              have HB3 := Lib.hid hbW
              have hTV2 : VA w3 (fun b => (A b ∨ W.heap.size ≤ b) ∧ (Value.slice (some ⟨g, 0, none⟩) (nn + 1) co3).ownBlock ≠ some b) (.slice at_ nt ct) tarms := by
                rw [HT.out.2.2.1] at hTV
                exact hTV.stay (Stay.weaken _ (fun b _ h => h.1))
              have hVA2 : VA w3 (fun b => (A b ∨ W.heap.size ≤ b) ∧ (Value.slice (some ⟨g, 0, none⟩) (nn + 1) co3).ownBlock ≠ some b) (.slice ao na co) (mapF (fuseF k) arms) := by
                refine hVA.stay (Stay.weaken _ (fun b _ h => ?_))
                have h1 := HW1.out.2.2
                refine ⟨?_, fun e => ?_⟩
                · rcases h with r | r
                  · exact Or.inl r
                  · exact Or.inr (by omega)
                · simp [Value.ownBlock] at e
                  subst e
                  rcases h with r | r
                  · have := HA.out.1 _ r; omega
                  · omega
              have HTV := Lib.hid hTV2
              have HVA2 := Lib.hid hVA2
              clear hF hVA hPB hTV hown hbW hTV2 hVA2
              have hcc := fun (w' : World) (gg : Nat) (hb : Below w3.heap.size w3 w') (hh : w'.heap[gg]? = some (.cells #[.slice at_ nt ct, .slice ao na co] 36 (0, 0))) => concat_any gg 36 hh (HTV.out.stay (Stay.below hb)) (HVA2.out.stay (Stay.below hb)) HSZ.out.2.2
              have hd0 : (0 : Int) ≤ (nn : Int) := by omega
              have hd1 : (nn : Int) < (nn : Int) + 1 := by omega
              have hd2 : (nn : Int) < ((nn + 1 : Nat) : Int) := by omega
              go_wp2
              obtain ⟨nj, hnj⟩ : ∃ nj, (join (fuseF k) (tarms ++ mapF (fuseF k) arms)).length = nj := ⟨_, rfl⟩
              have HNJ := Lib.hid hnj
              obtain ⟨na4, hna4⟩ : ∃ na4, tarms.length + (mapF (fuseF k) arms).length = na4 := ⟨_, rfl⟩
              have HNA4 := Lib.hid hna4
              simp only [hna4] at hcc
              clear hnj hna4
              have hgp1 : p ≠ g := by omega
              have hgp2 : g ≠ p := by omega
              have hS0 : ∀ w', Below w3.heap.size w3 w' → w'.cell? ⟨p, 1, none⟩ = some (.string name) ∧ w'.cell? ⟨p, 10, none⟩ = some (.slice ao na co) := fun w' hb => ⟨(World.cell?_of_block (a := ⟨p, 1, none⟩) (hb.block _ hpl3)).trans c1, (World.cell?_of_block (a := ⟨p, 10, none⟩) (hb.block _ hpl3)).trans c10⟩
              refine wp_region_held_drew (S := fun w' => w'.cell? ⟨p, 1, none⟩ = some (.string name) ∧ w'.cell? ⟨p, 10, none⟩ = some (.slice ao na co)) (by kernel_rfl) (hS0 _ ((Below.refl w3.heap.size w3).drew)) (fun hHeld => ?_)
              refine wpAnyH_take (i := 0) (oi := { dst := some 48, op := .move (.tmp 3), type := 22, pos := "fuse.go:60", after := #[], guard := none }) (v := ?_) rfl (by kernel_rfl) (by kernel_rfl) (by kernel_rfl) (fun _ _ _ h => h) (Or.inl ⟨by rfl, ?_⟩) (by assumption) ?_
              rotate_left
              · (intro w hSw; (try dsimp only at hSw); go_simp; try with_reducible rfl)
              try simp only [Act.put, List.setIfInBounds_toArray, List.set_cons_zero, List.set_cons_succ]
              refine wpAnyH_take (i := 1) (oi := { dst := some 49, op := .move (.tmp 9), type := 3, pos := "fuse.go:60", after := #[], guard := none }) (v := ?_) rfl (by kernel_rfl) (by kernel_rfl) (by kernel_rfl) (fun _ _ _ h => h) (Or.inl ⟨by rfl, ?_⟩) (by assumption) ?_
              rotate_left
              · (intro w hSw; (try dsimp only at hSw); go_simp; try with_reducible rfl)
              try simp only [Act.put, List.setIfInBounds_toArray, List.set_cons_zero, List.set_cons_succ]
              refine wpAnyH_take (i := 2) (oi := { dst := some 50, op := .fieldAddr 38 (.tmp 5) 1, type := 0, pos := "fuse.go:60", after := #[], guard := none }) (v := ?_) rfl (by kernel_rfl) (by kernel_rfl) (by kernel_rfl) (fun _ _ _ h => h) (Or.inl ⟨by rfl, ?_⟩) (by assumption) ?_
              rotate_left
              · (intro w hSw; (try dsimp only at hSw); go_simp; try with_reducible rfl)
              try simp only [Act.put, List.setIfInBounds_toArray, List.set_cons_zero, List.set_cons_succ]
              refine wpAnyH_take (i := 3) (oi := { dst := some 51, op := .load 9 (.tmp 50), type := 9, pos := "fuse.go:60", after := #[{ on := 2, ground := .data }], guard := none }) (v := ?_) rfl (by kernel_rfl) (by kernel_rfl) (by kernel_rfl) (fun _ _ _ h => h) (Or.inl ⟨by rfl, ?_⟩) (by assumption) ?_
              rotate_left
              · (intro w hSw; (try dsimp only at hSw); go_simp; try with_reducible rfl)
              try simp only [Act.put, List.setIfInBounds_toArray, List.set_cons_zero, List.set_cons_succ]
              refine wpAnyH_take (i := 4) (oi := { dst := some 52, op := .move (.tmp 3), type := 22, pos := "fuse.go:60", after := #[], guard := none }) (v := ?_) rfl (by kernel_rfl) (by kernel_rfl) (by kernel_rfl) (fun _ _ _ h => h) (Or.inl ⟨by rfl, ?_⟩) (by assumption) ?_
              rotate_left
              · (intro w hSw; (try dsimp only at hSw); go_simp; try with_reducible rfl)
              try simp only [Act.put, List.setIfInBounds_toArray, List.set_cons_zero, List.set_cons_succ]
              refine wpAnyH_take (i := 5) (oi := { dst := some 53, op := .move (.tmp 9), type := 3, pos := "fuse.go:60", after := #[], guard := none }) (v := ?_) rfl (by kernel_rfl) (by kernel_rfl) (by kernel_rfl) (fun _ _ _ h => h) (Or.inl ⟨by rfl, ?_⟩) (by assumption) ?_
              rotate_left
              · (intro w hSw; (try dsimp only at hSw); go_simp; try with_reducible rfl)
              try simp only [Act.put, List.setIfInBounds_toArray, List.set_cons_zero, List.set_cons_succ]
              refine wpAnyH_take (i := 6) (oi := { dst := some 54, op := .indexAddr 22 (.tmp 52) (.tmp 53), type := 0, pos := "fuse.go:60", after := #[{ on := 4, ground := .data }, { on := 5, ground := .data }], guard := none }) (v := ?_) rfl (by kernel_rfl) (by kernel_rfl) (by kernel_rfl) (fun _ _ _ h => h) (Or.inl ⟨by rfl, ?_⟩) (by assumption) ?_
              rotate_left
              · (intro w hSw; (try dsimp only at hSw); go_simp; try with_reducible rfl)
              try simp only [Act.put, List.setIfInBounds_toArray, List.set_cons_zero, List.set_cons_succ]
              refine wpAnyH_take (i := 7) (oi := { dst := some 55, op := .fieldAddr 38 (.tmp 54) 6, type := 0, pos := "fuse.go:60", after := #[{ on := 6, ground := .data }], guard := none }) (v := ?_) rfl (by kernel_rfl) (by kernel_rfl) (by kernel_rfl) (fun _ _ _ h => h) (Or.inl ⟨by rfl, ?_⟩) (by assumption) ?_
              rotate_left
              · (intro w hSw; (try dsimp only at hSw); go_simp; try with_reducible rfl)
              try simp only [Act.put, List.setIfInBounds_toArray, List.set_cons_zero, List.set_cons_succ]
              refine wpAnyH_take (i := 9) (oi := { dst := some 57, op := .fieldAddr 38 (.tmp 5) 6, type := 0, pos := "fuse.go:60", after := #[], guard := none }) (v := ?_) rfl (by kernel_rfl) (by kernel_rfl) (by kernel_rfl) (fun _ _ _ h => h) (Or.inl ⟨by rfl, ?_⟩) (by assumption) ?_
              rotate_left
              · (intro w hSw; (try dsimp only at hSw); go_simp; try with_reducible rfl)
              try simp only [Act.put, List.setIfInBounds_toArray, List.set_cons_zero, List.set_cons_succ]
              refine wpAnyH_take (i := 10) (oi := { dst := some 58, op := .load 36 (.tmp 57), type := 36, pos := "fuse.go:60", after := #[{ on := 9, ground := .data }], guard := none }) (v := ?_) rfl (by kernel_rfl) (by kernel_rfl) (by kernel_rfl) (fun _ _ _ h => h) (Or.inl ⟨by rfl, ?_⟩) (by assumption) ?_
              rotate_left
              · (intro w hSw; (try dsimp only at hSw); go_simp; try with_reducible rfl)
              try simp only [Act.put, List.setIfInBounds_toArray, List.set_cons_zero, List.set_cons_succ]
              refine wpAnyH_ready (rs := [8]) (by kernel_rfl) (by simp) ?_
              refine AllReadyH.cons (o := { dst := some 56, op := .load 36 (.tmp 55), type := 36, pos := "fuse.go:60", after := #[{ on := 7, ground := .data }], guard := none }) rfl (fun K hK => ?_) AllReadyH.nil
              go_simp
              refine hK.out _ _ ?_ (fun hHeld => ?_)
              · (try dsimp only); (first | go_keep | (exact hS2) | (exact hS3) | (exact hS0 _ (Below.refl _ _)) | (exact hS0 _ ((Below.refl w3.heap.size w3).drew)))
              clear hK K
              try simp only [Act.put, List.setIfInBounds_toArray, List.set_cons_zero, List.set_cons_succ]
              refine wpAnyH_ready (rs := [11]) (by kernel_rfl) (by simp) ?_
              refine AllReadyH.cons (o := { dst := some 59, op := .buildSlice 66 2 #[(0, .tmp 56), (1, .tmp 58)], type := 66, pos := "fuse.go:60", after := #[{ on := 8, ground := .data }, { on := 10, ground := .data }], guard := none }) rfl (fun K hK => ?_) AllReadyH.nil
              go_simp
              refine hK.out _ _ ?_ (fun hHeld => ?_)
              · (try dsimp only); (first | go_keep | (exact hS2) | (exact hS3) | (exact hS0 _ (Below.refl _ _)) | (exact hS0 _ ((Below.refl w3.heap.size w3).drew)))
              clear hK K
              try simp only [Act.put, List.setIfInBounds_toArray, List.set_cons_zero, List.set_cons_succ]
              refine wpAnyH_ready (rs := [12]) (by kernel_rfl) (by simp) ?_
              refine AllReadyH.cons (o := { dst := some 60, op := .call { callee := .value (.func 29), args := #[.tmp 59], argTypes := #[66] }, type := 36, pos := "fuse.go:60", after := #[{ on := 11, ground := .data }], guard := none }) rfl (fun K hK => ?_) AllReadyH.nil
              go_simp
              go_at_call 29
              refine (hcc _ w3.heap.size (((Below.refl w3.heap.size w3).alloc (Nat.le_refl _) _).drew) (heap_alloc_new w3 _)).mono ?_
              rintro e w4 ⟨v1, row1, rfl, ho4, he4, hb4⟩
              obtain ⟨a4, cp4, rfl, hc41, hc42⟩ := own_form ho4
              have hb34 : Below w3.heap.size w3 w4 := ((((Below.refl w3.heap.size w3).alloc (Nat.le_refl _) _).drew).trans (hb4.mono (by simp [World.drew])))
              have hv4 : VA w4 (fun b => (A b ∨ W.heap.size ≤ b) ∧ (Value.slice (some ⟨g, 0, none⟩) (nn + 1) co3).ownBlock ≠ some b) (.slice a4 na4 cp4) (tarms ++ mapF (fuseF k) arms) := VA.own ho4 (by rw [List.length_append]; exact HNA4.out.symm) (fun g' e => ⟨Or.inr (Nat.le_trans HB3.out.size (Nat.le_trans (by simp [World.drew]) (ho4.lt g' e).1)), fun q => by
                have h1 := (ho4.lt g' e).1
                simp [Value.ownBlock] at q
                simp [World.drew] at h1
                omega⟩) (EA.stay (Stay.below hb4) _ _ he4)
              have HV4 := Lib.hid hv4
              have hS2 := hS0 w4 hb34
              clear ho4 he4 hv4 hcc
              refine hK.out _ _ ?_ (fun hHeld => ?_)
              · (try dsimp only); (first | go_keep | (exact hS2) | (exact hS3) | (exact hS0 _ (Below.refl _ _)) | (exact hS0 _ ((Below.refl w3.heap.size w3).drew)))
              clear hK K
              try simp only [Act.put, List.setIfInBounds_toArray, List.set_cons_zero, List.set_cons_succ]
              refine wpAnyH_ready (rs := [13]) (by kernel_rfl) (by simp) ?_
              refine AllReadyH.cons (o := { dst := some 61, op := .call { callee := .value (.func 28), args := #[.tmp 60], argTypes := #[36] }, type := 36, pos := "fuse.go:60", after := #[{ on := 12, ground := .data }, { on := 12, ground := .chain }], guard := none }) rfl (fun K hK => ?_) AllReadyH.nil
              go_simp
              go_at_call 28
              refine (join_any IH.out HSZ.out.1 HSZ.out.2.1 HV4.out).mono ?_
              rintro e w5 ⟨v5, rfl, hv5, hb5⟩
              obtain ⟨a5, cp5, rfl, hc51, hc52⟩ := hv5.any
              rw [HNJ.out] at hv5 hc51 ⊢
              have hb35 : Below w3.heap.size w3 w5 := hb34.trans (hb5.mono hb34.size)
              have hown5 : w5.ownsRow W.heap.size 38 11 (.slice (some ⟨g, 0, none⟩) (nn + 1) co3) (nn + 1) row := own_keep HOW.out (fun g' e => hb35.block g' (HOW.out.lt g' e).2)
              have hth : ∀ j, j < 11 → ∃ u, w5.cell? ⟨g, nn * 11 + j, none⟩ = some u := fun j hj => by
                have h1 := hown5.1
                rw [hown5.cellAt (nn * 11 + j) (by omega), List.getElem?_eq_getElem (by omega)]
                exact ⟨_, rfl⟩
              obtain ⟨q0, k0⟩ : ∃ u, w5.cell? ⟨g, nn * 11, none⟩ = some u := hth 0 (by decide)
              have z0 : w5.frozen? ⟨g, nn * 11, none⟩ = false := hown5.frozenAt _
              obtain ⟨q1, k1⟩ : ∃ u, w5.cell? ⟨g, nn * 11 + 1, none⟩ = some u := hth 1 (by decide)
              have z1 : w5.frozen? ⟨g, nn * 11 + 1, none⟩ = false := hown5.frozenAt _
              obtain ⟨q2, k2⟩ : ∃ u, w5.cell? ⟨g, nn * 11 + 2, none⟩ = some u := hth 2 (by decide)
              have z2 : w5.frozen? ⟨g, nn * 11 + 2, none⟩ = false := hown5.frozenAt _
              obtain ⟨q3, k3⟩ : ∃ u, w5.cell? ⟨g, nn * 11 + 3, none⟩ = some u := hth 3 (by decide)
              have z3 : w5.frozen? ⟨g, nn * 11 + 3, none⟩ = false := hown5.frozenAt _
              obtain ⟨q4, k4⟩ : ∃ u, w5.cell? ⟨g, nn * 11 + 4, none⟩ = some u := hth 4 (by decide)
              have z4 : w5.frozen? ⟨g, nn * 11 + 4, none⟩ = false := hown5.frozenAt _
              obtain ⟨q5, k5⟩ : ∃ u, w5.cell? ⟨g, nn * 11 + 5, none⟩ = some u := hth 5 (by decide)
              have z5 : w5.frozen? ⟨g, nn * 11 + 5, none⟩ = false := hown5.frozenAt _
              obtain ⟨q6, k6⟩ : ∃ u, w5.cell? ⟨g, nn * 11 + 6, none⟩ = some u := hth 6 (by decide)
              have z6 : w5.frozen? ⟨g, nn * 11 + 6, none⟩ = false := hown5.frozenAt _
              obtain ⟨q7, k7⟩ : ∃ u, w5.cell? ⟨g, nn * 11 + 7, none⟩ = some u := hth 7 (by decide)
              have z7 : w5.frozen? ⟨g, nn * 11 + 7, none⟩ = false := hown5.frozenAt _
              obtain ⟨q8, k8⟩ : ∃ u, w5.cell? ⟨g, nn * 11 + 8, none⟩ = some u := hth 8 (by decide)
              have z8 : w5.frozen? ⟨g, nn * 11 + 8, none⟩ = false := hown5.frozenAt _
              obtain ⟨q9, k9⟩ : ∃ u, w5.cell? ⟨g, nn * 11 + 9, none⟩ = some u := hth 9 (by decide)
              have z9 : w5.frozen? ⟨g, nn * 11 + 9, none⟩ = false := hown5.frozenAt _
              obtain ⟨q10, k10⟩ : ∃ u, w5.cell? ⟨g, nn * 11 + 10, none⟩ = some u := hth 10 (by decide)
              have z10 : w5.frozen? ⟨g, nn * 11 + 10, none⟩ = false := hown5.frozenAt _
              have HV5 := Lib.hid hv5
              have hS3 := hS0 w5 hb35
              have HB5 := Lib.hid hb35
              clear hv5 hb5 hb35 hown5 hth
              refine hK.out _ _ ?_ (fun hHeld => ?_)
              · (try dsimp only); (first | go_keep | (exact hS2) | (exact hS3) | (exact hS0 _ (Below.refl _ _)) | (exact hS0 _ ((Below.refl w3.heap.size w3).drew)))
              clear hK K
              try simp only [Act.put, List.setIfInBounds_toArray, List.set_cons_zero, List.set_cons_succ]
              refine wpAnyH_take (i := 14) (oi := { dst := some 62, op := .build 38 #[(0, .const (.int .i64 5)), (1, .tmp 51), (6, .tmp 61)], type := 38, pos := "fuse.go:60", after := #[{ on := 3, ground := .data }, { on := 13, ground := .data }], guard := none }) (v := ?_) rfl (by kernel_rfl) (by kernel_rfl) (by kernel_rfl) (fun _ _ _ h => h) (Or.inl ⟨by rfl, ?_⟩) (by assumption) ?_
              rotate_left
              · (intro w hSw; (try dsimp only at hSw); go_simp; try with_reducible rfl)
              try simp only [Act.put, List.setIfInBounds_toArray, List.set_cons_zero, List.set_cons_succ]
              refine wpAnyH_take (i := 15) (oi := { dst := some 63, op := .indexAddr 22 (.tmp 48) (.tmp 49), type := 0, pos := "fuse.go:60", after := #[{ on := 0, ground := .data }, { on := 1, ground := .data }, { on := 0, ground := .phase }, { on := 1, ground := .phase }, { on := 2, ground := .phase }, { on := 3, ground := .phase }, { on := 4, ground := .phase }, { on := 5, ground := .phase }, { on := 6, ground := .phase }, { on := 7, ground := .phase }, { on := 8, ground := .phase }, { on := 9, ground := .phase }, { on := 10, ground := .phase }, { on := 11, ground := .phase }, { on := 12, ground := .phase }, { on := 13, ground := .phase }, { on := 14, ground := .phase }], guard := none }) (v := ?_) rfl (by kernel_rfl) (by kernel_rfl) (by kernel_rfl) (fun _ _ _ h => h) (Or.inl ⟨by rfl, ?_⟩) (by assumption) ?_
              rotate_left
              · (intro w hSw; (try dsimp only at hSw); go_simp; try with_reducible rfl)
              try simp only [Act.put, List.setIfInBounds_toArray, List.set_cons_zero, List.set_cons_succ]
              refine wpAnyH_ready (rs := [16]) (by kernel_rfl) (by simp) ?_
              refine AllReadyH.cons (o := { dst := none, op := .store 38 (.tmp 63) (.tmp 62), type := 0, pos := "fuse.go:60", after := #[{ on := 15, ground := .data }, { on := 14, ground := .data }, { on := 13, ground := .chain }, { on := 0, ground := .phase }, { on := 1, ground := .phase }, { on := 2, ground := .phase }, { on := 3, ground := .phase }, { on := 4, ground := .phase }, { on := 5, ground := .phase }, { on := 6, ground := .phase }, { on := 7, ground := .phase }, { on := 8, ground := .phase }, { on := 9, ground := .phase }, { on := 10, ground := .phase }, { on := 11, ground := .phase }, { on := 12, ground := .phase }, { on := 13, ground := .phase }, { on := 14, ground := .phase }], guard := none }) rfl (fun K hK => ?_) AllReadyH.nil
              go_simp
              refine hK.out _ _ ?_ (fun hHeld => ?_)
              · (try dsimp only); (first | go_keep | (exact hS2) | (exact hS3) | (exact hS0 _ (Below.refl _ _)) | (exact hS0 _ ((Below.refl w3.heap.size w3).drew)))
              clear hK K
              try simp only [Act.put, List.setIfInBounds_toArray, List.set_cons_zero, List.set_cons_succ]
              refine wpAnyH_done (by kernel_rfl) ?_ _
              refine gen_world' (S := fun w6 => FO W w6 A (.slice (some ⟨g, 0, none⟩) (nn + 1) co3) (out.set nn (.mk (caseHd name) (join (fuseF k) (tarms ++ mapF (fuseF k) arms))))) ?_ ?_
              · exact FO.turn HF3.out HNO.out HB5.out (HV5.out.stay (Stay.weaken _ (fun b _ h => by
                  rcases h with r | r
                  · exact r
                  · have h1 := hb34.size
                    have h2 := HB3.out.size
                    refine ⟨Or.inr (by omega), fun e => ?_⟩
                    simp [Value.ownBlock] at e
                    omega)))
              · intro w6 hF6
                have HF6 := Lib.hid hF6
                clear hF6 hS0 hS2 hS3 c1 c10 hb34 k0 k1 k2 k3 k4 k5 k6 k7 k8 k9 k10 q0 q1 q2 q3 q4 q5 q6 q7 q8 q9 q10 z0 z1 z2 z3 z4 z5 z6 z7 z8 z9 z10 HV4 HV5 HB5
                go_wp2
                refine ⟨⟨m + 1, by simp, by omega, Lib.hid ?_⟩, by simp [intOf]; omega⟩
                rw [take_snoc HY.out, List.foldl_append, List.foldl_cons, List.foldl_nil, HO.out]
                have hft : fstep (fuseF k) out (.mk ⟨op, name, strs, .slice a2 n2 p2, .int .i64 i3, .int .i64 x0, .string x1, .int .i64 x2, .slice a7 n7 p7, .slice a8 n8 p8, .slice a9 n9 p9⟩ arms) = out.set nn (.mk (caseHd name) (join (fuseF k) (tarms ++ mapF (fuseF k) arms))) := fstep_true _ _ _ nn _ HNO.out HT.out.1 HT.out.2.1
                rw [hft]
                exact HF6.out
    · have hall : l.take m = l := List.take_of_length_le (by rw [HN.out]; omega)
      rw [hall] at HJ
      obtain ⟨row, hb, hown, hea⟩ := HJ.out
      obtain ⟨ao, co, rfl, _⟩ := own_form hown
      go_wp2
      go_ret
      exact ⟨_, rfl, VB.own hown rfl (fun g e => Or.inr (hown.lt g e).1) (EB.stay (Stay.weaken _ (fun b _ h => h.1.imp (HA.out.2 b) id)) _ _ hea), hb⟩
end
end Go.Proofs.Ytnbinejghkhcjaa.Fu
