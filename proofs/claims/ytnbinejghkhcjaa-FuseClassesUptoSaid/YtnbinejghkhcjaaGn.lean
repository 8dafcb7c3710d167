/- The walk of the law FuseClasses. -/
import Derived.Test.YtnbinejghkhcjaaGl
import Derived.Test.YtnbinejghkhcjaaGm
import Derived.Test.YtnbinejghkhcjaaGj
namespace Go.Proofs.Ytnbinejghkhcjaa.Fu
open Go.RowKit
set_option linter.unusedVariables false
set_option linter.unusedSimpArgs false
set_option maxHeartbeats 4000000
theorem rfuse_all : ∀ k, RFuseC k
  | 0 => fun l w A v h => absurd h (Nat.not_lt_zero _)
  | k + 1 => rfuse_step (rfuse_all k) (both_step (rfuse_all k))
theorem ClOk.forms {w : World} {A : Nat → Prop} {c : Cl} (h : ClOk w A c) : ∃ nm a1 n1 c1 a2 n2 c2 a3 n3 c3 a4 n4 c4 a5 n5 c5 a6 n6 c6, ∀ u, rawC c u = [.string nm, .slice a1 n1 c1, .slice a2 n2 c2, .slice a3 n3 c3, .slice a4 n4 c4, .slice a5 n5 c5, .slice a6 n6 c6, u] := by
  obtain ⟨nm, ci, co, cv', cm, cf, cns, cst⟩ := c
  obtain ⟨_, h1⟩ := h.hi
  obtain ⟨_, h2⟩ := h.ho
  obtain ⟨_, h3⟩ := h.hv
  obtain ⟨_, h4⟩ := h.hm
  obtain ⟨_, h5⟩ := h.hf
  obtain ⟨_, h6⟩ := h.hn
  obtain ⟨_, _, e1, _⟩ := Row.any h1
  obtain ⟨_, _, e2, _⟩ := Row.any h2
  obtain ⟨_, _, e3, _⟩ := Row.any h3
  obtain ⟨_, _, e4, _⟩ := Row.any h4
  obtain ⟨_, _, e5, _⟩ := Row.any h5
  obtain ⟨_, _, e6, _⟩ := Row.any h6
  simp only at e1 e2 e3 e4 e5 e6
  exact ⟨nm, _, _, _, _, _, _, _, _, _, _, _, _, _, _, _, _, _, _, fun u => by simp only [rawC]; rw [e1, e2, e3, e4, e5, e6]⟩
theorem CJ.vc {W wr : World} {A : Nat → Prop} {v : Value} {l : List Cl} (h : CJ W wr A v l) : VC wr (fun b => A b ∨ W.heap.size ≤ b) v l := by
  obtain ⟨row, h1, h2, h3⟩ := h
  exact ⟨row, Row.own h2 (fun g hg => Or.inr (h2.lt g hg).1), EC.stay (Stay.weaken _ (fun b _ q => q.1)) _ _ h3⟩
set_option maxRecDepth 100000 in
theorem classesLaw_any {W : World} {A0 : Nat → Prop} {v : Value} {l : List Cl} {K : Nat} (hK : ∀ c ∈ l, szB 1 c.step < K) (hN : ∀ c ∈ l, szB 1 c.step ≤ 2097152) (hl : l.length ≤ 2097152) (h0 : VC W A0 v l) :
    Calls Try.prog 8 #[v] W fun e w' => e = .returned (.bool true) ∧ Below W.heap.size W w' := by
  obtain ⟨A, hAdef⟩ : ∃ A : Nat → Prop, A = fun b => A0 b ∧ b < W.heap.size := ⟨_, rfl⟩
  have hA : ∀ b, A b → b < W.heap.size := fun b hb => by rw [hAdef] at hb; exact hb.2
  have h : VC W A v l := h0.stay ⟨Nat.le_refl _, fun b hb q => ⟨by rw [hAdef]; exact ⟨q, hb⟩, rfl⟩⟩
  obtain ⟨a, cap, rfl, h2, h3⟩ := h.any
  have hu : cap ≤ 9223372036854775807 := by unfold maxLen at h3; exact h3
  obtain ⟨n, hn⟩ : ∃ n, l.length = n := ⟨_, rfl⟩
  rw [hn] at h h2 hl ⊢
  have HV := Lib.hid h
  have HK := Lib.hid (And.intro hK (And.intro hN (And.intro hA hn)))
  clear h hK hN hA hn h0 hAdef
  go_enter Try.func8, Try.ntmps8
  go_wp2_with (first
    | (go_at_call 9
       (with_reducible refine (lives_any _).mono ?_)
       rintro e w1 ⟨rfl, hb1⟩
       have hc1 := classes_any HK.out.1 HK.out.2.1 (by rw [HK.out.2.2.2]; exact hl) (fun b q => Nat.lt_of_lt_of_le (HK.out.2.2.1 b q) hb1.size) (HV.out.stay (Stay.below hb1))
       have HB1 := Lib.hid hb1
       clear hb1)
    | (go_at_call 17
       (with_reducible refine hc1.mono ?_)
       rintro e w2 ⟨v2, rfl, hj2⟩
       obtain ⟨a2', cap2, rfl, hq1, hq2⟩ := hj2.vc.any
       rw [List.length_map, HK.out.2.2.2] at hj2 hq1 ⊢
       have hq3 : cap2 ≤ 9223372036854775807 := by unfold maxLen at hq2; exact hq2
       have HB2 : Hid (Below W.heap.size W w2) := Lib.hid (by obtain ⟨_, q, _⟩ := hj2; exact HB1.out.trans (q.mono HB1.out.size))
       have HF2 := Lib.hid hj2.vc
       clear hj2 hq2 hc1))
  go_loopw [4] (fun i wr => ∃ j : Nat, i = .int .i64 j ∧ j ≤ n ∧ Hid (Below w2.heap.size w2 wr)) (fun i _ => n - (intOf i).toNat)
  case atStart => exact ⟨0, rfl, Nat.zero_le _, Lib.hid (Below.refl _ _)⟩
  case round =>
    obtain ⟨j, rfl, hj, HX⟩ := hrel
    have HWX := Lib.hid (HB2.out.trans (HX.out.mono HB2.out.size))
    by_cases hlt : j < n
    · obtain ⟨c, hcj⟩ : ∃ c, l[j]? = some c := ⟨_, getE (by rw [HK.out.2.2.2]; exact hlt)⟩
      have hcf : (l.map (fz K))[j]? = some (fz K c) := by rw [List.getElem?_map, hcj]; rfl
      obtain ⟨b, off, _, u, he, _, _, _, hbl, hcl, hok, hvb⟩ := (HV.out.stay (Stay.below HWX.out)).get j c hcj
      simp only [Value.slice.injEq] at he
      obtain ⟨rfl, -, rfl⟩ := he
      obtain ⟨bf, offf, _, uf, he, _, _, _, hbfl, hclf, _, hvbf⟩ := (HF2.out.stay (Stay.below HX.out)).get j _ hcf
      simp only [Value.slice.injEq] at he
      obtain ⟨rfl, -, rfl⟩ := he
      obtain ⟨nm, a1, n1, c1, a2, n2, c2, a3, n3, c3, a4, n4, c4, a5, n5, c5, a6, n6, c6, hraw⟩ := hok.forms
      have hrawf : ∀ u, rawC (fz K c) u = rawC c u := fun u => rfl
      obtain ⟨au, cu, rfl, _, _⟩ := hvb.any
      obtain ⟨auf, cuf, rfl, _, _⟩ := hvbf.any
      obtain ⟨nu, hnu⟩ : ∃ nu, c.step.length = nu := ⟨_, rfl⟩
      obtain ⟨nf, hnf⟩ : ∃ nf, (fz K c).step.length = nf := ⟨_, rfl⟩
      rw [hraw, hnu] at hcl
      rw [hrawf, hraw, hnf] at hclf
      rw [hnu] at hvb
      rw [hnf] at hvbf
      have d0 : wr.cell? ⟨b, off + j * 8, none⟩ = some (.string nm) := hcl 0 (by decide)
      have d1 : wr.cell? ⟨b, off + j * 8 + 1, none⟩ = some (.slice a1 n1 c1) := hcl 1 (by decide)
      have d2 : wr.cell? ⟨b, off + j * 8 + 2, none⟩ = some (.slice a2 n2 c2) := hcl 2 (by decide)
      have d3 : wr.cell? ⟨b, off + j * 8 + 3, none⟩ = some (.slice a3 n3 c3) := hcl 3 (by decide)
      have d4 : wr.cell? ⟨b, off + j * 8 + 4, none⟩ = some (.slice a4 n4 c4) := hcl 4 (by decide)
      have d5 : wr.cell? ⟨b, off + j * 8 + 5, none⟩ = some (.slice a5 n5 c5) := hcl 5 (by decide)
      have d6 : wr.cell? ⟨b, off + j * 8 + 6, none⟩ = some (.slice a6 n6 c6) := hcl 6 (by decide)
      have d7 : wr.cell? ⟨b, off + j * 8 + 7, none⟩ = some (.slice au nu cu) := hcl 7 (by decide)
      have HFC := Lib.hid (And.intro hbfl hclf)
      have HOK := Lib.hid (And.intro hok (And.intro hvbf hraw))
      have hm1 : (0 : Int) ≤ (j : Int) := by omega
      have hm2 : (j : Int) < (n : Int) := by omega
      have d7a : ∀ o, (wr.alloc o).cell? ⟨b, off + j * 8 + 7, none⟩ = some (.slice au nu cu) := fun o => (World.cell?_alloc_past _ _ _ hbl).trans d7
      have hrf : ∀ w', Below wr.heap.size wr w' → Calls Try.prog 18 #[.slice au nu cu] w' fun e w'' => ∃ v', e = .returned v' ∧ VB w'' (fun b => A b ∨ w'.heap.size ≤ b) v' (fuseF K c.step) ∧ Below w'.heap.size w' w'' := fun w' hb => rfuse_all K c.step w' A _ (HK.out.1 c (List.mem_of_getElem? hcj)) (HK.out.2.1 c (List.mem_of_getElem? hcj)) (hvb.stay (Stay.below hb))
      have hr1 := hrf _ ((Below.refl wr.heap.size wr).alloc (Nat.le_refl _) (.cells #[.string nm, .slice a1 n1 c1, .slice a2 n2 c2, .slice a3 n3 c3, .slice a4 n4 c4, .slice a5 n5 c5, .slice a6 n6 c6, .slice au nu cu] 43))
      clear hcl hclf hok hvbf hraw hrawf hbfl hcf hrf
      go_wp2_with (go_at_call 18
                   (with_reducible refine hr1.mono ?_)
                   rintro e w3 ⟨v3, rfl, hv3, hb3⟩
                   obtain ⟨a8, c8, rfl, _, _⟩ := hv3.any
                   obtain ⟨n8, hn8⟩ : ∃ n8, (fuseF K c.step).length = n8 := ⟨_, rfl⟩
                   rw [hn8] at hv3 ⊢
                   have hpb3 := (hb3.block wr.heap.size (by simp)).trans (heap_alloc_new wr (.cells #[.string nm, .slice a1 n1 c1, .slice a2 n2 c2, .slice a3 n3 c3, .slice a4 n4 c4, .slice a5 n5 c5, .slice a6 n6 c6, .slice au nu cu] 43))
                   have k7 : w3.cell? ⟨wr.heap.size, 7, none⟩ = some (.slice au nu cu) := by rw [cell_of_row _ wr.heap.size 7 _ 43 (0, 0) hpb3]; rfl
                   have z7 : w3.frozen? ⟨wr.heap.size, 7, none⟩ = false := by simp [World.frozen?, hpb3]
                   have HB3 : Hid (Below wr.heap.size wr w3) := Lib.hid (((Below.refl wr.heap.size wr).alloc (Nat.le_refl _) _).trans (hb3.mono (by simp)))
                   have HV3 := Lib.hid (And.intro hv3 hpb3)
                   clear hv3 hb3 hpb3)
      refine gen_world (S := fun w5 => Below wr.heap.size wr w5 ∧ w5.heap[wr.heap.size]? = some (.cells #[.string nm, .slice a1 n1 c1, .slice a2 n2 c2, .slice a3 n3 c3, .slice a4 n4 c4, .slice a5 n5 c5, .slice a6 n6 c6, .slice a8 n8 c8] 43 (0, 0)) ∧ VB w5 (fun b => A b ∨ wr.heap.size < b) (.slice a8 n8 c8) (fuseF K c.step)) ⟨HB3.out.setCell (Nat.le_refl wr.heap.size) _, heap_setCell_same w3 wr.heap.size 7 _ 43 (.slice a8 n8 c8) HV3.out.2, HV3.out.1.stay ⟨by simp [World.setCell], fun b _ q => by
        have hAb := HK.out.2.2.1
        have hWs := HWX.out.size
        have hne : b ≠ wr.heap.size := by
          rcases q with r | r
          · have := hAb b r; omega
          · simp at r; omega
        refine ⟨?_, Below.heap_setCell w3 ⟨wr.heap.size, 7, none⟩ _ b hne⟩
        rcases q with r | r
        · exact Or.inl r
        · simp at r; exact Or.inr (by omega)⟩⟩ ?_
      obtain ⟨p, hp⟩ : ∃ p, wr.heap.size = p := ⟨_, rfl⟩
      rintro w5 ⟨hb5, hpb5, hv5⟩
      have HPB := Lib.hid hpb5
      have HB5 := Lib.hid hb5
      have HV5 := Lib.hid hv5
      have HWS := Lib.hid (HWX.out.size)
      have hSS : ∀ w', Below w5.heap.size w5 w' → w'.cell? ⟨bf, offf + j * 8, none⟩ = some (.string nm) ∧ w'.cell? ⟨bf, offf + j * 8 + 1, none⟩ = some (.slice a1 n1 c1) ∧ w'.cell? ⟨bf, offf + j * 8 + 2, none⟩ = some (.slice a2 n2 c2) ∧ w'.cell? ⟨bf, offf + j * 8 + 3, none⟩ = some (.slice a3 n3 c3) ∧ w'.cell? ⟨bf, offf + j * 8 + 4, none⟩ = some (.slice a4 n4 c4) ∧ w'.cell? ⟨bf, offf + j * 8 + 5, none⟩ = some (.slice a5 n5 c5) ∧ w'.cell? ⟨bf, offf + j * 8 + 6, none⟩ = some (.slice a6 n6 c6) ∧ w'.cell? ⟨bf, offf + j * 8 + 7, none⟩ = some (.slice auf nf cuf) ∧ w'.cell? ⟨wr.heap.size, 0, none⟩ = some (.string nm) ∧ w'.cell? ⟨wr.heap.size, 1, none⟩ = some (.slice a1 n1 c1) ∧ w'.cell? ⟨wr.heap.size, 2, none⟩ = some (.slice a2 n2 c2) ∧ w'.cell? ⟨wr.heap.size, 3, none⟩ = some (.slice a3 n3 c3) ∧ w'.cell? ⟨wr.heap.size, 4, none⟩ = some (.slice a4 n4 c4) ∧ w'.cell? ⟨wr.heap.size, 5, none⟩ = some (.slice a5 n5 c5) ∧ w'.cell? ⟨wr.heap.size, 6, none⟩ = some (.slice a6 n6 c6) ∧ w'.cell? ⟨wr.heap.size, 7, none⟩ = some (.slice a8 n8 c8) := fun w' hb5w => by
        have hb := hb5.trans (hb5w.mono hb5.size)
        exact ⟨(World.cell?_of_block (hb.block _ HFC.out.1)).trans (HFC.out.2 0 (by decide)), (World.cell?_of_block (hb.block _ HFC.out.1)).trans (HFC.out.2 1 (by decide)), (World.cell?_of_block (hb.block _ HFC.out.1)).trans (HFC.out.2 2 (by decide)), (World.cell?_of_block (hb.block _ HFC.out.1)).trans (HFC.out.2 3 (by decide)), (World.cell?_of_block (hb.block _ HFC.out.1)).trans (HFC.out.2 4 (by decide)), (World.cell?_of_block (hb.block _ HFC.out.1)).trans (HFC.out.2 5 (by decide)), (World.cell?_of_block (hb.block _ HFC.out.1)).trans (HFC.out.2 6 (by decide)), (World.cell?_of_block (hb.block _ HFC.out.1)).trans (HFC.out.2 7 (by decide)), by rw [cell_of_row _ wr.heap.size 0 _ 43 (0, 0) ((hb5w.block _ (Array.getElem?_eq_some_iff.1 HPB.out).1).trans HPB.out)]; rfl, by rw [cell_of_row _ wr.heap.size 1 _ 43 (0, 0) ((hb5w.block _ (Array.getElem?_eq_some_iff.1 HPB.out).1).trans HPB.out)]; rfl, by rw [cell_of_row _ wr.heap.size 2 _ 43 (0, 0) ((hb5w.block _ (Array.getElem?_eq_some_iff.1 HPB.out).1).trans HPB.out)]; rfl, by rw [cell_of_row _ wr.heap.size 3 _ 43 (0, 0) ((hb5w.block _ (Array.getElem?_eq_some_iff.1 HPB.out).1).trans HPB.out)]; rfl, by rw [cell_of_row _ wr.heap.size 4 _ 43 (0, 0) ((hb5w.block _ (Array.getElem?_eq_some_iff.1 HPB.out).1).trans HPB.out)]; rfl, by rw [cell_of_row _ wr.heap.size 5 _ 43 (0, 0) ((hb5w.block _ (Array.getElem?_eq_some_iff.1 HPB.out).1).trans HPB.out)]; rfl, by rw [cell_of_row _ wr.heap.size 6 _ 43 (0, 0) ((hb5w.block _ (Array.getElem?_eq_some_iff.1 HPB.out).1).trans HPB.out)]; rfl, by rw [cell_of_row _ wr.heap.size 7 _ 43 (0, 0) ((hb5w.block _ (Array.getElem?_eq_some_iff.1 HPB.out).1).trans HPB.out)]; rfl⟩
      have hsc : ∀ w', Below w5.heap.size w5 w' → Calls Try.prog 19 #[.agg #[.string nm, .slice a1 n1 c1, .slice a2 n2 c2, .slice a3 n3 c3, .slice a4 n4 c4, .slice a5 n5 c5, .slice a6 n6 c6, .slice auf nf cuf], .agg #[.string nm, .slice a1 n1 c1, .slice a2 n2 c2, .slice a3 n3 c3, .slice a4 n4 c4, .slice a5 n5 c5, .slice a6 n6 c6, .slice a8 n8 c8]] w' fun e w'' => e = .returned (.bool true) ∧ Below w'.heap.size w' w'' := fun w' hbw => by
        have hb := hb5.trans (hbw.mono hb5.size)
        have := sameClass_any (A := fun b => A b ∨ w1.heap.size ≤ b) (c := c) (u1 := .slice auf nf cuf) (u2 := .slice a8 n8 c8) (L := fuseF K c.step) ((HOK.out.1.stay (Stay.below hb)).stay (Stay.weaken w' (fun b _ q => Or.inl q))) (HOK.out.2.1.stay (Stay.below hb)) (hv5.stay (Stay.below hbw))
        rw [HOK.out.2.2, HOK.out.2.2] at this
        exact this
      have hsz := hsc _ ((Below.refl w5.heap.size w5).drew)
      clear hp hsc hb5 hpb5 hv5 k7 z7 d0 d1 d2 d3 d4 d5 d6 d7 d7a hr1
      go_region_held3 (fun w' => w'.cell? ⟨bf, offf + j * 8, none⟩ = some (.string nm) ∧ w'.cell? ⟨bf, offf + j * 8 + 1, none⟩ = some (.slice a1 n1 c1) ∧ w'.cell? ⟨bf, offf + j * 8 + 2, none⟩ = some (.slice a2 n2 c2) ∧ w'.cell? ⟨bf, offf + j * 8 + 3, none⟩ = some (.slice a3 n3 c3) ∧ w'.cell? ⟨bf, offf + j * 8 + 4, none⟩ = some (.slice a4 n4 c4) ∧ w'.cell? ⟨bf, offf + j * 8 + 5, none⟩ = some (.slice a5 n5 c5) ∧ w'.cell? ⟨bf, offf + j * 8 + 6, none⟩ = some (.slice a6 n6 c6) ∧ w'.cell? ⟨bf, offf + j * 8 + 7, none⟩ = some (.slice auf nf cuf) ∧ w'.cell? ⟨wr.heap.size, 0, none⟩ = some (.string nm) ∧ w'.cell? ⟨wr.heap.size, 1, none⟩ = some (.slice a1 n1 c1) ∧ w'.cell? ⟨wr.heap.size, 2, none⟩ = some (.slice a2 n2 c2) ∧ w'.cell? ⟨wr.heap.size, 3, none⟩ = some (.slice a3 n3 c3) ∧ w'.cell? ⟨wr.heap.size, 4, none⟩ = some (.slice a4 n4 c4) ∧ w'.cell? ⟨wr.heap.size, 5, none⟩ = some (.slice a5 n5 c5) ∧ w'.cell? ⟨wr.heap.size, 6, none⟩ = some (.slice a6 n6 c6) ∧ w'.cell? ⟨wr.heap.size, 7, none⟩ = some (.slice a8 n8 c8))
        (first | (with_reducible exact hS2) | (exact hSS _ (Below.refl _ _)) | (exact hSS _ ((Below.refl w5.heap.size w5).drew)))
        (first
          | (go_at_call 19
             (first | (with_reducible refine hsz.mono ?_) | (refine hsz.mono ?_))
             rintro e w6 ⟨rfl, hb6⟩
             have hb6' : Below w5.heap.size w5 w6 := ((Below.refl w5.heap.size w5).drew).trans hb6
             have hS2 := hSS w6 hb6')
          | fail)
      have HX6 := Lib.hid (HX.out.trans ((HB5.out.trans (hb6'.mono HB5.out.size)).mono HX.out.size))
      clear hSS hsz hS2 hb6 hb6'
      go_wp2
      refine ⟨⟨j + 1, by simp, by omega, HX6⟩, by simp [intOf]; omega⟩
    · go_wp2
      go_ret
      exact ⟨rfl, HWX.out⟩
end Go.Proofs.Ytnbinejghkhcjaa.Fu
