/- The walks of the law's single and of the reference's Has. -/
import Derived.Test.YtnbinejghkhcjaaFf
namespace Go.Proofs.Ytnbinejghkhcjaa.Fu
open Go.RowKit
set_option linter.unusedVariables false
set_option linter.unusedSimpArgs false
set_option maxHeartbeats 4000000
section
variable {w : World} {A : Nat → Prop} {v : Value}
theorem any_take {l : List ByteArray} {k : Nat} {x nm : ByteArray} (hx : l[k]? = some x) (e : x = nm) : l.any (fun x => decide (x = nm)) = true := by
  rw [List.any_eq_true]; exact ⟨x, List.mem_of_getElem? hx, decide_eq_true e⟩
theorem has_any {l : List ByteArray} (h : Strs w A v l) (nm : ByteArray) : Calls Try.prog 22 #[v, .string nm] w fun e w' => e = .returned (.bool (l.any (fun x => decide (x = nm)))) ∧ w = w' := by
  obtain ⟨a, cap, rfl, h2, h3⟩ := Row.any h
  have hu : cap ≤ 9223372036854775807 := by unfold maxLen at h3; exact h3
  have HR := Lib.hid h
  clear h
  obtain ⟨P, HP⟩ : ∃ P, Hid (l.any (fun x => decide (x = nm)) = P) := ⟨_, Lib.hid rfl⟩
  rw [HP.out]
  obtain ⟨n, hn⟩ : ∃ n, l.length = n := ⟨_, rfl⟩
  rw [hn] at h2 ⊢
  have HN := Lib.hid hn
  clear hn
  go_enter Try.func22, Try.ntmps22
  go_wp2
  go_loop [5] (fun i => ∃ k : Nat, i = .int .i64 k ∧ k ≤ n ∧ Hid (∀ b ∈ l.take k, decide (b = nm) = false)) (fun i => n - (intOf i).toNat)
  case atStart => exact ⟨0, rfl, Nat.zero_le _, Lib.hid (by simp)⟩
  case round =>
    obtain ⟨k, rfl, hk, HB⟩ := hrel
    by_cases hlt : k < n
    · have hkl : k < l.length := by rw [HN.out]; exact hlt
      obtain ⟨b, off, cap', he, _, _, _, _, hc⟩ := Row.form HR.out (by omega)
      simp only [Value.slice.injEq, true_and] at he
      obtain ⟨rfl, rfl, rfl⟩ := he
      obtain ⟨x, hx⟩ : ∃ x, l[k]? = some x := ⟨_, getE hkl⟩
      have c1 : w.cell? ⟨b, off + k, none⟩ = some (.string x) := by
        have := hc k (by omega)
        simpa [hx] using this
      have HX := Lib.hid hx
      clear hc hx
      by_cases e : x = nm
      · have ht : (x.toList == nm.toList) = true := by rw [str_eq]; exact decide_eq_true e
        go_wp2
        go_ret
        refine ⟨ret_b ?_, rfl⟩
        rw [← HP.out]
        exact (any_take HX.out e).symm
      · have ht : (x.toList == nm.toList) = false := by rw [str_eq]; exact decide_eq_false e
        go_wp2
        refine ⟨⟨k + 1, by simp, by omega, Lib.hid (take_all HB.out HX.out (decide_eq_false e))⟩, by simp [intOf]; omega⟩
    · go_wp2
      go_ret
      refine ⟨ret_b ?_, rfl⟩
      rw [← HP.out]
      have hb := HB.out
      rw [List.take_of_length_le (by rw [HN.out]; omega)] at hb
      symm
      rw [List.any_eq_false]
      intro x hx
      have := hb x hx
      simpa using this
end
theorem infoz9 : (Try.prog.info? 9).map (fun i => (i.zero, i.size, i.bytes)) = some (some (.string ⟨#[]⟩), 1, 16) := by kernel_rfl
/-- Has no guard two arms of one constructor? -/
noncomputable def sgb (l : List Stm) : Bool := @decide (sglB l) (Classical.propDecidable _)
theorem sgb_iff (l : List Stm) : sgb l = true ↔ sglB l := by unfold sgb; exact @decide_eq_true_iff _ (Classical.propDecidable _)
theorem sgb_false {l : List Stm} (h : ¬ sglB l) : sgb l = false := by
  cases e : sgb l with
  | false => rfl
  | true => exact absurd ((sgb_iff l).mp e) h
theorem twice {arms : List Arm} {j : Nat} {t : Arm} (ht : arms[j]? = some t) (h : t.con ∈ (arms.take j).map Arm.con) : ¬ (arms.map Arm.con).Nodup := by
  intro q
  have hj := (List.getElem?_eq_some_iff.1 ht).1
  have e : arms = arms.take j ++ t :: arms.drop (j + 1) := by
    conv => lhs; rw [← List.take_append_drop j arms, List.drop_eq_getElem_cons hj, (List.getElem?_eq_some_iff.1 ht).2]
  rw [e, List.map_append, List.nodup_append] at q
  exact q.2.2 _ h _ (by simp) rfl
theorem nodup_next {arms : List Arm} {j : Nat} {t : Arm} (ht : arms[j]? = some t) (h : t.con ∉ (arms.take j).map Arm.con) (hn : ((arms.take j).map Arm.con).Nodup) : ((arms.take (j + 1)).map Arm.con).Nodup := by
  rw [take_snoc ht, List.map_append, List.nodup_append]
  refine ⟨hn, by simp, ?_⟩
  intro x hx y hy e
  simp at hy
  subst hy
  exact h (by rw [← e]; exact hx)
def SglC (k : Nat) : Prop := ∀ (l : List Stm) (w : World) (A : Nat → Prop) (v : Value), szB 1 l < k → szB 1 l ≤ 2097152 → VB w A v l → Calls Try.prog 10 #[v] w fun e w' => e = .returned (.bool (sgb l)) ∧ Below w.heap.size w w'
theorem single_step {k : Nat} (ih : SglC k) : SglC (k + 1) := by
  intro l W A v hk hN h
  obtain ⟨a, cap, rfl, h2, h3⟩ := h.any
  have hu : cap ≤ 9223372036854775807 := by unfold maxLen at h3; exact h3
  have HV := Lib.hid h
  have HK := Lib.hid (And.intro hk hN)
  obtain ⟨S, HS⟩ : ∃ S, Hid (sgb l = S) := ⟨_, Lib.hid rfl⟩
  rw [HS.out]
  obtain ⟨n, hn⟩ : ∃ n, l.length = n := ⟨_, rfl⟩
  have hnl : n ≤ 2097152 := by have := len_szB 1 l; omega
  rw [hn] at h2 ⊢
  have HN := Lib.hid hn
  have IH := Lib.hid ih
  clear hn h hk hN ih
  go_enter Try.func10, Try.ntmps10
  go_wp2
  go_loopw [3] (fun i wr => ∃ m : Nat, i = .int .i64 m ∧ m ≤ n ∧ Hid (∀ s ∈ l.take m, sglS s) ∧ Hid (Below W.heap.size W wr)) (fun i _ => n - (intOf i).toNat)
  case atStart => exact ⟨0, rfl, Nat.zero_le _, Lib.hid (by simp), Lib.hid (Below.refl _ _)⟩
  case round =>
    obtain ⟨m, rfl, hm, HX, HW⟩ := hrel
    by_cases hlt : m < n
    · have hml : m < l.length := by rw [HN.out]; exact hlt
      obtain ⟨y, hy⟩ : ∃ y, l[m]? = some y := ⟨_, getE hml⟩
      obtain ⟨b, off, cap', u, he, _, _, _, hbs, hat, hho, hva⟩ := HV.out.get m y hy
      simp only [Value.slice.injEq, true_and] at he
      obtain ⟨rfl, -, rfl⟩ := he
      have q10 := hat.c10
      obtain ⟨au, cu, rfl, hcu1, hcu2⟩ := hva.any
      have hcu3 : cu ≤ 9223372036854775807 := by unfold maxLen at hcu2; exact hcu2
      obtain ⟨arms, harms⟩ : ∃ arms, y.arms = arms := ⟨_, rfl⟩
      rw [harms] at hva q10 hcu1
      obtain ⟨na, hna⟩ : ∃ na, arms.length = na := ⟨_, rfl⟩
      rw [hna] at q10 hcu1 hva
      have hnal : na ≤ 2097152 := by
        have h1 := szB_mem 1 (List.mem_of_getElem? hy)
        rw [harms] at h1
        have h2 := len_szA arms
        have h3 := HK.out
        omega
      have HY := Lib.hid (And.intro hy harms)
      have HB := Lib.hid (And.intro hva hna)
      have HQ := Lib.hid (And.intro q10 hbs)
      clear hy harms hva hna hat hho hcu2 q10 hbs
      go_wp2
      go_loopw [4, 5] (fun vc i wr => ∃ j : Nat, i = .int .i64 j ∧ j ≤ na ∧ Hid (Below W.heap.size W wr) ∧ Hid (wr.ownsRow W.heap.size 9 1 vc j ((arms.take j).map fun t => .string t.con)) ∧ Hid (((arms.take j).map Arm.con).Nodup ∧ ∀ t ∈ arms.take j, sglB t.body)) (fun _ i _ => na - (intOf i).toNat)
      case atStart => exact ⟨0, rfl, Nat.zero_le _, HW, Lib.hid (World.ownsRow_nil _ _ _ _), Lib.hid (by simp)⟩
      case round =>
        obtain ⟨j, rfl, hj, HWr, HO, HZ⟩ := hrel
        have c10 := (World.cell?_of_block (a := ⟨b, off + m * 11 + 10, none⟩) (HWr.out.block b HQ.out.2)).trans HQ.out.1
        by_cases hlt2 : j < na
        · obtain ⟨t, ht⟩ : ∃ t, arms[j]? = some t := ⟨_, getE (by rw [HB.out.2]; exact hlt2)⟩
          obtain ⟨b2, off2, cap2, u2, he, _, _, _, _, d1, d2, hb2⟩ := (HB.out.1.stay (Stay.below HWr.out)).get j t ht
          simp only [Value.slice.injEq, true_and] at he
          obtain ⟨rfl, -, rfl⟩ := he
          have hsz : szB 1 t.body < k ∧ szB 1 t.body ≤ 2097152 := by
            have h1 := szB_mem 1 (List.mem_of_getElem? HY.out.1)
            rw [HY.out.2] at h1
            have h2 := szA_mem 1 (List.mem_of_getElem? ht)
            have h3 := HK.out
            omega
          have hc := IH.out t.body wr A u2 hsz.1 hsz.2 hb2
          obtain ⟨con, body⟩ := t
          simp only [Arm.con, Arm.body] at d1 d2 hb2 hc hsz
          have hst : Strs wr (fun _ => True) u4 ((arms.take j).map Arm.con) := by
            have := Row.own (A := fun _ => True) HO.out (fun _ _ => trivial)
            unfold Strs
            rw [List.map_map]
            have e : ((arms.take j).map Arm.con).length = j := by simp; have := HB.out.2; omega
            rw [e]; exact this
          have hh := has_any hst con
          obtain ⟨vc, hvc⟩ : ∃ ac cc, u4 = .slice ac j cc ∧ j ≤ cc ∧ cc ≤ 9223372036854775807 := own_form HO.out
          obtain ⟨cc, rfl, hcc1, hcc2⟩ := hvc
          have HT := Lib.hid ht
          by_cases hcon : con ∈ (arms.take j).map Arm.con
          · have ha : ((arms.take j).map Arm.con).any (fun x => decide (x = con)) = true := by
              rw [List.any_eq_true]; exact ⟨con, hcon, decide_eq_true rfl⟩
            rw [ha] at hh
            have hS : S = false := by
              rw [← HS.out]
              refine sgb_false (fun q => ?_)
              have h1 := ((sglB_iff l).mp q) y (List.mem_of_getElem? HY.out.1)
              have h2 := ((sglS_iff y).mp h1).1
              rw [HY.out.2] at h2
              exact twice HT.out hcon h2
            have HSf := Lib.hid hS
            clear hS hst hb2 hc hsz ha hcon ht
            go_wp2_with (go_at_call 22; (with_reducible refine hh.mono ?_); rintro e w1 ⟨rfl, rfl⟩)
            go_ret
            exact ⟨ret_b HSf.out.symm, HWr.out⟩
          · have ha : ((arms.take j).map Arm.con).any (fun x => decide (x = con)) = false := by
              rw [List.any_eq_false]
              intro x hx q
              have := of_decide_eq_true q
              subst this
              exact hcon hx
            rw [ha] at hh
            have HC := Lib.hid hcon
            cases hr : sgb body with
            | false =>
              rw [hr] at hc
              have hS : S = false := by
                rw [← HS.out]
                refine sgb_false (fun q => ?_)
                have h1 := ((sglB_iff l).mp q) y (List.mem_of_getElem? HY.out.1)
                have h2 := ((sglS_iff y).mp h1).2
                rw [HY.out.2] at h2
                have h3 := (sgb_iff body).mpr (h2 _ (List.mem_of_getElem? HT.out))
                rw [hr] at h3; cases h3
              have HSf := Lib.hid hS
              clear hS hst hb2 hsz ha hcon ht hr
              go_wp2_with (first
                | (go_at_call 22; (with_reducible refine hh.mono ?_); rintro e w1 ⟨rfl, rfl⟩)
                | (go_at_call 10; (with_reducible refine hc.mono ?_); rintro e w1 ⟨rfl, hb1⟩; replace hb1 := Lib.hid hb1))
              go_ret
              exact ⟨ret_b HSf.out.symm, HWr.out.trans (hb1.out.mono HWr.out.size)⟩
            | true =>
              rw [hr] at hc
              have HR := Lib.hid ((sgb_iff body).mp hr)
              clear hst hb2 hsz ha hcon ht hr
              obtain ⟨i0, hi, hz0, hz1, hz2⟩ := info_parts infoz9
              go_wp2_with (first
                | (go_at_call 22; (with_reducible refine hh.mono ?_); rintro e w1 ⟨rfl, rfl⟩)
                | (go_at_call 10; (with_reducible refine hc.mono ?_); rintro e w1 ⟨rfl, hb1⟩
                   have c10' := (World.cell?_of_block (a := ⟨b, off + m * 11 + 10, none⟩) (hb1.block b (Nat.lt_of_lt_of_le HQ.out.2 HWr.out.size))).trans c10
                   have d1' := (World.cell?_of_block (a := ⟨b2, off2 + j * 2, none⟩) (hb1.block b2 (World.block_lt_of_cell? wr _ d1))).trans d1
                   have hown1 := own_keep HO.out (fun g hg => hb1.block g (HO.out.lt g hg).2)
                   have HO1 := Lib.hid hown1
                   have HW1 := Lib.hid (HWr.out.trans (hb1.mono HWr.out.size))
                   clear hown1 hb1)
                | (at_builtin; go_must (refine wpList_append_lies _ rfl _ _ 32 rfl W.heap.size 9 i0 _ 1 16 Try.underlying32 hi hz0 hz1 hz2 rfl (by decide) _ _ _ rfl (HO1.out.alloc _) ⟨w1.heap.size, 0, none⟩ 1 1 [.string con] rfl rfl ?g1 ?g2 (by decide) ?g3 ?g4 ?g5 (w1.heap.size + 1) (by simp) ?_)))
              case g1 =>
                first
                  | exact World.news_of_block (cs := #[.string con]) (t := 9) (fr := (0, 0)) (heap_alloc_new w1 _)
                  | (intro j u hj; exact World.news_of_block (cs := #[.string con]) (t := 9) (fr := (0, 0)) (heap_alloc_new w1 _) j u hj)
              case g2 =>
                intro u hu
                simp only [List.mem_cons, List.not_mem_nil, or_false] at hu
                rcases hu with rfl <;> rfl
              case g3 => unfold maxLen; omega
              case g4 => omega
              case g5 => exact Nat.le_trans HW1.out.size (by simp)
              intro gg capg w4 hown4 hgrow4 hat4 hlt4
              have HO4 := Lib.hid hown4
              have HW4 : Hid (Below W.heap.size W w4) := Lib.hid ((HW1.out.alloc HW1.out.size _).grown hgrow4 (by simp; exact Nat.le_trans HW1.out.size (Nat.le_succ _)) (fun g hg => (HO.out.lt g hg).1))
              clear hown4 hgrow4 hat4 c10' d1'
              go_wp2
              refine ⟨⟨j + 1, by simp, by omega, HW4, Lib.hid ?_, Lib.hid ⟨nodup_next HT.out HC.out HZ.out.1, ?_⟩⟩, by simp [intOf]; omega⟩
              · rw [take_snoc HT.out, List.map_append, List.map_take]
                exact HO4.out
              · rw [take_snoc HT.out]
                intro z hz
                rcases List.mem_append.mp hz with q | q
                · exact HZ.out.2 z q
                · simp only [List.mem_singleton] at q
                  subst q; exact HR.out
        · go_wp2
          refine ⟨⟨m + 1, by simp, by omega, Lib.hid ?_, HWr⟩, by simp [intOf]; omega⟩
          rw [take_snoc HY.out.1]
          intro z hz
          rcases List.mem_append.mp hz with q | q
          · exact HX.out z q
          · simp only [List.mem_singleton] at q
            subst q
            have hz := HZ.out
            rw [show arms.take j = arms from List.take_of_length_le (by rw [HB.out.2]; omega)] at hz
            rw [sglS_iff, HY.out.2]
            exact hz
    · go_wp2
      go_ret
      refine ⟨ret_b ?_, HW.out⟩
      have hx := HX.out
      rw [List.take_of_length_le (by rw [HN.out]; omega)] at hx
      rw [← HS.out]
      exact ((sgb_iff l).mpr ((sglB_iff l).mpr hx)).symm
theorem single_all : ∀ k, SglC k
  | 0 => fun l w A v h => absurd h (Nat.not_lt_zero _)
  | k + 1 => single_step (single_all k)
theorem single_any {w : World} {A : Nat → Prop} {v : Value} {l : List Stm} (h : VB w A v l) (hs : szB 1 l ≤ 2097152) : Calls Try.prog 10 #[v] w fun e w' => e = .returned (.bool (sgb l)) ∧ Below w.heap.size w w' :=
  single_all _ l w A v (Nat.lt_succ_self _) hs h
end Go.Proofs.Ytnbinejghkhcjaa.Fu
