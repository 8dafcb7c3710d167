/- The walk of the reference's both. -/
import Derived.Test.YtnbinejghkhcjaaGi
import Derived.Test.YtnbinejghkhcjaaFk
import Derived.Test.YtnbinejghkhcjaaFs
import Derived.Test.YtnbinejghkhcjaaFh
import Derived.BigQuiet
namespace Go.Proofs.Ytnbinejghkhcjaa.Fu
open Go.RowKit
set_option linter.unusedVariables false
set_option linter.unusedSimpArgs false
set_option maxHeartbeats 4000000

theorem grp_in {l : List Arm} {c2 c : ByteArray} {body : List Stm} (e : c2 = c) : grp (l ++ [.mk c2 body]) c = grp l c ++ body := by
  have h := grp_snoc l (.mk c2 body) c
  rw [if_pos (show (Arm.mk c2 body).con = c from e)] at h; exact h
theorem grp_out {l : List Arm} {c2 c : ByteArray} {body : List Stm} (e : ¬ c2 = c) : grp (l ++ [.mk c2 body]) c = grp l c := by
  have h := grp_snoc l (.mk c2 body) c
  rw [if_neg (show ¬ (Arm.mk c2 body).con = c from e), List.append_nil] at h; exact h
theorem dcons_in {l : List Arm} {c : ByteArray} {body : List Stm} (h : (dcons l).any (fun x => decide (x = c)) = true) : dcons (l ++ [.mk c body]) = dcons l := by
  have h' := dcons_snoc l (.mk c body)
  rw [if_pos (show (dcons l).any (fun x => decide (x = (Arm.mk c body).con)) = true from h)] at h'; exact h'
theorem dcons_out {l : List Arm} {c : ByteArray} {body : List Stm} (h : (dcons l).any (fun x => decide (x = c)) = false) : dcons (l ++ [.mk c body]) = dcons l ++ [c] := by
  have h' := dcons_snoc l (.mk c body)
  rw [if_neg (show ¬ (dcons l).any (fun x => decide (x = (Arm.mk c body).con)) = true from by show ¬ (dcons l).any (fun x => decide (x = c)) = true; rw [h]; decide)] at h'; exact h'
theorem heap_many_at {g : Nat} {t : TypeId} : ∀ (vs c0 c1 : List Value) (w : World), c1.length = vs.length → w.heap[g]? = some (.cells (c0 ++ c1).toArray t (0, 0)) → (w.setCells g c0.length vs).heap[g]? = some (.cells (c0 ++ vs).toArray t (0, 0))
  | [], c0, c1, w, hl, h => by
    have : c1 = [] := List.eq_nil_of_length_eq_zero (by simpa using hl)
    subst this; exact h
  | v :: r, c0, [], w, hl, h => by simp at hl
  | v :: r, c0, y :: c1, w, hl, h => by
    have h1 := heap_setCell_same w g c0.length _ t v h
    have e : (c0 ++ y :: c1).toArray.setIfInBounds c0.length v = ((c0 ++ [v]) ++ c1).toArray := by
      rw [List.setIfInBounds_toArray, List.set_append_right _ _ (Nat.le_refl _)]; simp
    rw [e] at h1
    have h2 := heap_many_at r (c0 ++ [v]) c1 _ (by simpa using hl) h1
    rw [World.setCells]
    simpa using h2
theorem stay_at {p : Nat} {w3 w1 w2 : World} {A : Nat → Prop} (hA : ∀ b, A b → b < p) (h1 : Below p w3 w1) (h2 : Below p w3 w2) (hs : w1.heap.size ≤ w2.heap.size) : Stay w1 A w2 A :=
  ⟨hs, fun b _ ha => ⟨ha, (h2.block b (hA b ha)).trans (h1.block b (hA b ha)).symm⟩⟩
theorem dcons_len (l : List Arm) : (dcons l).length ≤ l.length := by
  induction l using snoc_ind with
  | h0 => simp [dcons]
  | hs l a ih =>
    rw [dcons_snoc, List.length_append]
    split
    · omega
    · rw [List.length_append]; simp; omega
/-- The reference's Fuse, for small lists. -/
def RFuseC (k : Nat) : Prop := ∀ (l : List Stm) (w : World) (A : Nat → Prop) (v : Value), szB 1 l < k → szB 1 l ≤ 2097152 → VB w A v l → Calls Try.prog 18 #[v] w fun e w' => ∃ v', e = .returned v' ∧ VB w' (fun b => A b ∨ w.heap.size ≤ b) v' (fuseF k l) ∧ Below w.heap.size w w'
def BothC (k : Nat) : Prop := ∀ (h1 h2 : Hd) (u1 u2 : Value) (a1 a2 : List Arm) (w : World) (A : Nat → Prop), szA 1 (a1 ++ a2) ≤ k → szA 1 (a1 ++ a2) ≤ 2097152 → (∀ b, A b → b < w.heap.size) → HdOk w A h1 → HdOk w A h2 → VA w A u1 a1 → VA w A u2 a2 →
  Calls Try.prog 35 #[.agg (rawS h1 u1).toArray, .agg (rawS h2 u2).toArray] w fun e w' => ∃ a n c, e = .returned (.agg (rawS (caseHd h1.name) (.slice a n c)).toArray) ∧ VA w' (fun b => A b ∨ w.heap.size ≤ b) (.slice a n c) (join (fuseF k) (a1 ++ a2)) ∧ Below w.heap.size w w'
set_option maxRecDepth 100000 in
theorem both_step {k : Nat} (ih : RFuseC k) : BothC k := by
  intro h1 h2 u1 u2 a1 a2 W A hk hN hA ho1 ho2 hv1 hv2
  obtain ⟨op, name, strs, names, inst, e0, e1, e2, e3, e4, args⟩ := h1
  obtain ⟨oq, namq, strq, namesq, instq, g0, g1, g2, g3, g4, argq⟩ := h2
  obtain ⟨b2, n2, p2, i3, b9, n9, p9, x0, x1, x2, b7, n7, p7, b8, n8, p8, f2, f3, f4, f5, f6, f7, f8, f9⟩ := ho1.forms
  simp only at f2 f3 f4 f5 f6 f7 f8 f9
  subst f2; subst f3; subst f4; subst f5; subst f6; subst f7; subst f8; subst f9
  obtain ⟨c2, m2, q2, j3, c9, m9, q9, y0, y1, y2, c7, m7, q7, c8, m8, q8, f2, f3, f4, f5, f6, f7, f8, f9⟩ := ho2.forms
  simp only at f2 f3 f4 f5 f6 f7 f8 f9
  subst f2; subst f3; subst f4; subst f5; subst f6; subst f7; subst f8; subst f9
  obtain ⟨d1, cap1, rfl, hc1, hc1'⟩ := hv1.any
  obtain ⟨d2, cap2, rfl, hc2, hc2'⟩ := hv2.any
  obtain ⟨na, hna⟩ : ∃ na, a1.length = na := ⟨_, rfl⟩
  obtain ⟨nb, hnb⟩ : ∃ nb, a2.length = nb := ⟨_, rfl⟩
  have hlen := len_szA (a1 ++ a2)
  rw [List.length_append, hna, hnb] at hlen
  rw [hna] at hc1 hv1 ⊢
  rw [hnb] at hc2 hv2 ⊢
  simp only [rawS]
  obtain ⟨wb, hwb⟩ : ∃ wb, ((W.alloc (.cells #[.int .i64 op, .string name, .slice b2 n2 p2, .int .i64 i3, .int .i64 x0, .string x1, .int .i64 x2, .slice b7 n7 p7, .slice b8 n8 p8, .slice b9 n9 p9, .slice d1 na cap1] 38)).alloc (.cells #[.int .i64 oq, .string namq, .slice c2 m2 q2, .int .i64 j3, .int .i64 y0, .string y1, .int .i64 y2, .slice c7 m7 q7, .slice c8 m8 q8, .slice c9 m9 q9, .slice d2 nb cap2] 38)).alloc (.cells #[.int .i64 0, .string ⟨#[]⟩, .slice none 0 0, .int .i64 0, .int .i64 0, .string ⟨#[]⟩, .int .i64 0, .slice none 0 0, .slice none 0 0, .slice none 0 0, .slice none 0 0] 38) = wb := ⟨_, rfl⟩
  have hb : Below W.heap.size W wb := by
    rw [← hwb]; exact (((Below.refl _ _).alloc (Nat.le_refl _) _).alloc (by simp) _).alloc (by simp; omega) _
  have hs1 : (W.alloc (.cells #[.int .i64 op, .string name, .slice b2 n2 p2, .int .i64 i3, .int .i64 x0, .string x1, .int .i64 x2, .slice b7 n7 p7, .slice b8 n8 p8, .slice b9 n9 p9, .slice d1 na cap1] 38)).heap.size = W.heap.size + 1 := by simp
  have hp1 : wb.heap[W.heap.size]? = some (.cells #[.int .i64 op, .string name, .slice b2 n2 p2, .int .i64 i3, .int .i64 x0, .string x1, .int .i64 x2, .slice b7 n7 p7, .slice b8 n8 p8, .slice b9 n9 p9, .slice d1 na cap1] 38 (0, 0)) := by
    rw [← hwb, Below.heap_alloc _ _ _ (by simp; omega)]; exact heap_alloc2_old W _ _
  have hp2 : wb.heap[W.heap.size + 1]? = some (.cells #[.int .i64 oq, .string namq, .slice c2 m2 q2, .int .i64 j3, .int .i64 y0, .string y1, .int .i64 y2, .slice c7 m7 q7, .slice c8 m8 q8, .slice c9 m9 q9, .slice d2 nb cap2] 38 (0, 0)) := by
    rw [← hwb, Below.heap_alloc _ _ _ (by simp)]; exact heap_alloc2_new W _ _
  have hp4 : wb.heap[W.heap.size + 1 + 1]? = some (.cells #[.int .i64 0, .string ⟨#[]⟩, .slice none 0 0, .int .i64 0, .int .i64 0, .string ⟨#[]⟩, .int .i64 0, .slice none 0 0, .slice none 0 0, .slice none 0 0, .slice none 0 0] 38 (0, 0)) := by
    have := heap_alloc2_new (W.alloc (.cells #[.int .i64 op, .string name, .slice b2 n2 p2, .int .i64 i3, .int .i64 x0, .string x1, .int .i64 x2, .slice b7 n7 p7, .slice b8 n8 p8, .slice b9 n9 p9, .slice d1 na cap1] 38)) (.cells #[.int .i64 oq, .string namq, .slice c2 m2 q2, .int .i64 j3, .int .i64 y0, .string y1, .int .i64 y2, .slice c7 m7 q7, .slice c8 m8 q8, .slice c9 m9 q9, .slice d2 nb cap2] 38) (.cells #[.int .i64 0, .string ⟨#[]⟩, .slice none 0 0, .int .i64 0, .int .i64 0, .string ⟨#[]⟩, .int .i64 0, .slice none 0 0, .slice none 0 0, .slice none 0 0, .slice none 0 0] 38)
    rw [← hwb]; rw [hs1] at this; exact this
  obtain ⟨r1, hr1, he1⟩ := hv1.stay (Stay.below hb)
  obtain ⟨r2, hr2, he2⟩ := hv2.stay (Stay.below hb)
  rw [hna] at hr1
  rw [hnb] at hr2
  have hpl : W.heap.size + 1 + 1 < wb.heap.size := (Array.getElem?_eq_some_iff.1 hp4).1
  have q1 : wb.cell? ⟨W.heap.size, 10, none⟩ = some (.slice d1 na cap1) := by rw [cell_of_row _ W.heap.size 10 _ 38 (0, 0) hp1]; rfl
  have q1n : wb.cell? ⟨W.heap.size, 1, none⟩ = some (.string name) := by rw [cell_of_row _ W.heap.size 1 _ 38 (0, 0) hp1]; rfl
  have q2 : wb.cell? ⟨W.heap.size + 1, 10, none⟩ = some (.slice d2 nb cap2) := by rw [cell_of_row _ (W.heap.size + 1) 10 _ 38 (0, 0) hp2]; rfl
  have hSS : ∀ w', Below wb.heap.size wb w' → w'.cell? ⟨W.heap.size, 10, none⟩ = some (.slice d1 na cap1) ∧ w'.cell? ⟨W.heap.size + 1, 10, none⟩ = some (.slice d2 nb cap2) :=
    fun w' hb' => ⟨(World.cell?_of_block (hb'.block _ (by show W.heap.size < _; omega))).trans q1, (World.cell?_of_block (hb'.block _ (by show W.heap.size + 1 < _; omega))).trans q2⟩
  have HB := Lib.hid hb
  have HR1 := Lib.hid (And.intro hr1 he1)
  have HR2 := Lib.hid (And.intro hr2 he2)
  have HO1 := Lib.hid (EA.one he1)
  have HO2 := Lib.hid (EA.one he2)
  have HP := Lib.hid (And.intro hp4 (And.intro q1n hpl))
  have HA := Lib.hid hA
  have HK := Lib.hid (And.intro hk (And.intro hN (And.intro hna hnb)))
  have IH := Lib.hid ih
  obtain ⟨i0, hi, hz0, hz1, hz2⟩ := info_parts infoz49
  clear ho1 ho2 hv1 hv2 hA hp1 hp2 hp4 hs1 hb hr1 hr2 he1 he2 hk hna hnb ih q1 q2 q1n hpl hc1 hc2 hc1' hc2'
  go_enter Try.func35, Try.ntmps35
  go_wp2
  go_region_held3 (fun w' => w'.cell? ⟨W.heap.size, 10, none⟩ = some (.slice d1 na cap1) ∧ w'.cell? ⟨W.heap.size + 1, 10, none⟩ = some (.slice d2 nb cap2))
    (first | (exact hS3) | (exact hS2) | (exact hSS _ (Below.refl _ _)) | (exact hSS _ ((Below.refl wb.heap.size wb).drew)))
    (first
      | (refine step_append_row (A := A) (by rfl) _ _ _ (by rfl) wb.heap.size 49 i0 _ 2 40 Try.underlying36 hi hz0 hz1 hz2 rfl (by omega) _ na r1 (by rfl) hown1 _ nb r2 (by rfl) (HR2.out.1.stay (Stay.below hb1)) HO2.out (by unfold maxLen; omega) (by omega) hb1.size ?_
         intro ao2 cp2 w2 hown2 hgrow2 hcase2
         have hb2 : Below wb.heap.size wb w2 := hb1.grown hgrow2 hb1.size (fun g hg => (hown1.lt g hg).1)
         have hS3 := hSS w2 hb2)
      | (refine step_append_row (A := A) (by rfl) _ _ _ (by rfl) wb.heap.size 49 i0 _ 2 40 Try.underlying36 hi hz0 hz1 hz2 rfl (by omega) _ (0 + na) ([] ++ r1) (by rfl) hown1' _ nb r2 (by rfl) (HR2.out.1.stay (Stay.below hb1)) HO2.out (by unfold maxLen; omega) (by omega) hb1.size ?_
         intro ao2 cp2 w2 hown2 hgrow2 hcase2
         have hb2 : Below wb.heap.size wb w2 := hb1.grown hgrow2 hb1.size (fun g hg => (hown1'.lt g hg).1)
         have hS3 := hSS w2 hb2)
      | (refine step_append_row (A := A) (by rfl) _ _ _ (by rfl) wb.heap.size 49 i0 _ 2 40 Try.underlying36 hi hz0 hz1 hz2 rfl (by omega) _ 0 [] (by rfl) (World.ownsRow_nil _ _ _ _) _ na r1 (by rfl) (HR1.out.1.stay (Stay.below ((Below.refl wb.heap.size wb).drew))) HO1.out (by unfold maxLen; omega) (by omega) (Nat.le_refl _) ?_
         intro ao1 cp1 w1 hown1' hgrow1 hcase1
         have hb1 : Below wb.heap.size wb w1 := ((Below.refl wb.heap.size wb).drew).grown hgrow1 (Nat.le_refl _) (fun g hg => by simp [Value.ownBlock] at hg)
         have hown1 : w1.ownsRow wb.heap.size 49 2 (.slice ao1 na cp1) na r1 := by simpa using hown1'
         have hS2 := hSS w1 hb1
         clear hgrow1 hcase1))
  have hown2' : w2.ownsRow wb.heap.size 49 2 (.slice ao2 (na + nb) cp2) (na + nb) (r1 ++ r2) := by simpa using hown2
  have hall : VA w2 (fun b => (A b ∨ wb.heap.size ≤ b) ∧ b < w2.heap.size) (.slice ao2 (na + nb) cp2) (a1 ++ a2) := by
    refine VA.own hown2' (by rw [List.length_append, HK.out.2.2.1, HK.out.2.2.2]) (fun g hg => ⟨Or.inr (hown2'.lt g hg).1, (hown2'.lt g hg).2⟩) ?_
    have hst : Stay wb A w2 (fun b => (A b ∨ wb.heap.size ≤ b) ∧ b < w2.heap.size) := ⟨hb2.size, fun b hbl ha => ⟨⟨Or.inl ha, Nat.lt_of_lt_of_le hbl hb2.size⟩, hb2.block b hbl⟩⟩
    exact EA_append (EA.stay hst _ _ HR1.out.2) (EA.stay hst _ _ HR2.out.2)
  obtain ⟨_, _, hsl, hcp1, hcp2⟩ := own_form hown2'
  simp only [Value.slice.injEq, true_and] at hsl
  obtain ⟨-, rfl⟩ := hsl
  have q1n := (World.cell?_of_block (a := ⟨W.heap.size, 1, none⟩) (hb2.block _ (by have := HP.out.2.2; show W.heap.size < _; omega))).trans HP.out.2.1
  have hp4 := (hb2.block _ HP.out.2.2).trans HP.out.1
  have HW2 := Lib.hid (HB.out.trans (hb2.mono HB.out.size))
  obtain ⟨A2, hA2⟩ : ∃ A2 : Nat → Prop, (fun b => (A b ∨ wb.heap.size ≤ b) ∧ b < w2.heap.size) = A2 := ⟨_, rfl⟩
  rw [hA2] at hall
  obtain ⟨all, hallE⟩ : ∃ all, a1 ++ a2 = all := ⟨_, rfl⟩
  obtain ⟨nt, hnt⟩ : ∃ nt, na + nb = nt := ⟨_, rfl⟩
  rw [hallE] at hall
  have hnl : all.length = nt := by rw [← hallE, List.length_append, HK.out.2.2.1, HK.out.2.2.2, hnt]
  have hntb : nt ≤ 2097152 := by omega
  have hk2 : szA 1 all ≤ k ∧ szA 1 all ≤ 2097152 := by rw [← hallE]; exact ⟨HK.out.1, HK.out.2.1⟩
  obtain ⟨p, hp⟩ : ∃ p, w2.heap.size = p := ⟨_, rfl⟩
  obtain ⟨w3, hw3⟩ : ∃ w3, w2.alloc (.cells #[.int .i64 5, .string name, .slice none 0 0, .int .i64 0, .int .i64 0, .string ⟨#[]⟩, .int .i64 0, .slice none 0 0, .slice none 0 0, .slice none 0 0, .slice none 0 0] 38) = w3 := ⟨_, rfl⟩
  have hA2p : ∀ b, A2 b → b < p := fun b hb' => by rw [← hA2] at hb'; rw [← hp]; exact hb'.2
  have hb23 : Below p w2 w3 := by rw [← hw3, ← hp]; exact (Below.refl _ _).alloc (Nat.le_refl _) _
  have hpb : w3.heap[p]? = some (.cells (rawS (caseHd name) (.slice none 0 0)).toArray 38 (0, 0)) := by rw [← hw3, ← hp]; exact heap_alloc_new _ _
  have hallW : ∀ wr, Below p w3 wr → VA wr A2 (.slice ao2 nt cp2) all := fun wr hbw => by
    rw [hnt] at hall
    refine hall.stay ⟨by have := (hb23.trans hbw).size; omega, fun b hbl ha => ⟨ha, (hb23.trans hbw).block b (hA2p b ha)⟩⟩
  have HAL := Lib.hid hallW
  have HA2 := Lib.hid (And.intro hA2p hA2)
  have HB23 := Lib.hid hb23
  have HK2 := Lib.hid (And.intro hk2 (And.intro hnl hallE))
  have HP4 := Lib.hid hp4
  have hbx0 : BX w3 w3 A2 p name (.slice none 0 0) (.slice none 0 0) (dcons (all.take 0)) ((dcons (all.take 0)).map fun c => .mk c (fuseF k (grp all c))) :=
    ⟨[], Below.refl _ _, (Array.getElem?_eq_some_iff.1 hpb).1, hpb, World.ownsRow_nil _ _ _ _, World.ownsRow_nil _ _ _ _, fun g hg => by simp [Value.ownBlock] at hg, by simp [EA, dcons]⟩
  have HBX0 := Lib.hid hbx0
  have HWP := Lib.hid (And.intro hw3 (And.intro hp hnt))
  rw [hnt] at hcp1
  clear hbx0 hpb hb23 hallW hall hp4 hk2 hnl hallE hA2 hA2p hown2' hown2 hgrow2 hcase2 hb2 hSS hS2 hS3 hb1 hown1 hown1' hw3 hp hi hz0 hz1 hz2 hnt
  go_wp2
  simp only [Nat.zero_add]
  rw [HWP.out.2.2, HWP.out.1, HWP.out.2.1]
  clear q1n
  go_loopw [6, 8] (fun vd i wr => ∃ m : Nat, i = .int .i64 m ∧ m ≤ nt ∧ Hid (∃ va, BX w3 wr A2 p name vd va (dcons (all.take m)) ((dcons (all.take m)).map fun c => .mk c (fuseF k (grp all c))))) (fun _ i _ => nt - (intOf i).toNat)
  case atStart => exact ⟨0, rfl, Nat.zero_le _, Lib.hid ⟨_, HBX0.out⟩⟩
  case round =>
    obtain ⟨m, rfl, hm, HX⟩ := hrel
    by_cases hlt : m < nt
    · obtain ⟨t, ht⟩ : ∃ t, all[m]? = some t := ⟨_, getE (by rw [HK2.out.2.1]; exact hlt)⟩
      obtain ⟨va, row, x1, x2, x3, x4, x5, x6, x7⟩ := HX.out
      obtain ⟨b3, off3, _, u3, he, _, _, _, hb3l, s1, s2, hb3v⟩ := (HAL.out wr x1).get m t ht
      simp only [Value.slice.injEq] at he
      obtain ⟨rfl, -, rfl⟩ := he
      obtain ⟨con, body⟩ := t
      simp only [Arm.con, Arm.body] at s1 s2 hb3v
      have hst : Strs wr (fun _ => True) u6 (dcons (all.take m)) := Row.own x4 (fun _ _ => trivial)
      have hh := has_any hst con
      obtain ⟨nd, hnd⟩ : ∃ nd, (dcons (all.take m)).length = nd := ⟨_, rfl⟩
      rw [hnd] at x4
      obtain ⟨ad, cd, rfl, hcd1, hcd2⟩ := own_form x4
      have hndb : nd ≤ 2097152 := by
        have h1 := dcons_len (all.take m)
        rw [List.length_take] at h1
        omega
      have HT := Lib.hid (And.intro ht hb3v)
      have HXX := Lib.hid (And.intro x1 (And.intro x2 (And.intro x3 (And.intro x4 (And.intro x5 (And.intro x6 x7))))))
      have HND := Lib.hid hnd
      clear ht hb3v hst x1 x2 x3 x4 x5 x6 x7 hnd
      cases hin : (dcons (all.take m)).any (fun x => decide (x = con)) with
      | true =>
        rw [hin] at hh
        have HIN := Lib.hid hin
        clear hin
        go_wp2_with (go_at_call 22; (with_reducible refine hh.mono ?_); rintro e w4 ⟨rfl, rfl⟩)
        have HXN : Hid (∃ va, BX w3 wr A2 p name (.slice ad nd cd) va (dcons (all.take (m + 1))) ((dcons (all.take (m + 1))).map fun c => .mk c (fuseF k (grp all c)))) := Lib.hid (by
          rw [take_snoc HT.out.1, dcons_in HIN.out]
          exact HX.out)
        go_roundw
        case rel => exact ⟨m + 1, by simp, by omega, HXN⟩
        case measure => simp [intOf]; omega
      | false =>
        rw [hin] at hh
        have HIN := Lib.hid hin
        clear hin
        obtain ⟨i0, hi, hz0, hz1, hz2⟩ := info_parts infoz9
        go_wp2_with (first
          | (go_at_call 22; (with_reducible refine hh.mono ?_); rintro e w4 ⟨rfl, rfl⟩)
          | (at_builtin; go_must (refine wpList_append_lies _ rfl _ _ 32 rfl (p + 1) 9 i0 _ 1 16 Try.underlying32 hi hz0 hz1 hz2 rfl (by decide) _ _ _ rfl (HXX.out.2.2.2.1.alloc _) ⟨wr.heap.size, 0, none⟩ 1 1 [.string con] rfl rfl ?g1 ?g2 (by decide) ?g3 ?g4 ?g5 (wr.heap.size + 1) (by simp) ?_)))
        case g1 =>
          first
            | exact World.news_of_block (cs := #[.string con]) (t := 9) (fr := (0, 0)) (heap_alloc_new wr _)
            | (intro j u hj; exact World.news_of_block (cs := #[.string con]) (t := 9) (fr := (0, 0)) (heap_alloc_new wr _) j u hj)
        case g2 =>
          intro u hu
          simp only [List.mem_cons, List.not_mem_nil, or_false] at hu
          rcases hu with rfl <;> rfl
        case g3 => unfold maxLen; omega
        case g4 => omega
        case g5 => have := HXX.out.2.1; simp; omega
        intro gd capd w4 hown4 hgrow4 hat4 hlt4
        have hbx4 : BX w3 w4 A2 p name (.slice (some ⟨gd, 0, none⟩) (nd + 1) capd) va (dcons (all.take m) ++ [con]) ((dcons (all.take m)).map fun c => .mk c (fuseF k (grp all c))) := by
          obtain ⟨x1, x2, x3, x4, x5, x6, x7⟩ := HXX.out
          exact BX.mark ⟨row, x1, x2, x3, by rw [HND.out]; exact x4, x5, x6, x7⟩ HA2.out.1 (by rw [HND.out]; exact hown4) hgrow4 (by
            rcases hat4 with r | r
            · exact Or.inl r.symm
            · exact Or.inr (fun g e => by simp [Value.ownBlock] at e; omega))
        have HBX4 := Lib.hid hbx4
        have hw34 : Below p w3 w4 := by obtain ⟨_, q, _⟩ := hbx4; exact q
        have HW34 := Lib.hid hw34
        clear hown4 hgrow4 hat4 hbx4 hi hz0 hz1 hz2 hw34 hh
        have hng : grp (all.take m) con = [] := grp_none (fun q => by
          have := (any_mem _ con).mpr ((dcons_mem _ con).mpr q)
          rw [HIN.out] at this; cases this)
        have HNG := Lib.hid hng
        have hpw4 : p < w4.heap.size := by obtain ⟨_, _, q, _⟩ := HBX4.out; exact q
        clear hng
        go_wp2
        go_loopw [9, 10] (fun vb i wr5 => ∃ j : Nat, i = .int .i64 j ∧ m ≤ j ∧ j ≤ nt ∧ Hid (∃ brow, Below w4.heap.size w4 wr5 ∧ wr5.ownsRow w4.heap.size 38 11 vb (grp (all.take j) con).length brow ∧ EB wr5 A2 (grp (all.take j) con) brow)) (fun _ i _ => nt - (intOf i).toNat)
        case atStart => exact ⟨m, rfl, Nat.le_refl _, by omega, Lib.hid ⟨[], Below.refl _ _, by rw [HNG.out]; exact World.ownsRow_nil _ _ _ _, by rw [HNG.out]; simp [EB]⟩⟩
        case round =>
          obtain ⟨j, rfl, hmj, hj, HY⟩ := hrel
          obtain ⟨brow, z1, z2, z3⟩ := HY.out
          have z0 : Below p w3 wr := HW34.out.trans (z1.mono (Nat.le_of_lt hpw4))
          obtain ⟨nb1, hnb1⟩ : ∃ nb1, (grp (all.take j) con).length = nb1 := ⟨_, rfl⟩
          have hnb1b : nb1 ≤ 2097152 := by
            have h1 := szB_grp (all.take j) con
            have h2 := len_szB 1 (grp (all.take j) con)
            have h3 := szA_take all j
            have h4 := HK2.out.1.2
            omega
          rw [hnb1] at z2
          obtain ⟨abv, cbv, rfl, hcb1, hcb2⟩ := own_form z2
          obtain ⟨b5, off5, _, _, he5, _, _, _, hb5l, m1, _, _⟩ := (HAL.out wr z0).get m _ HT.out.1
          simp only [Value.slice.injEq, Option.some.injEq, Addr.mk.injEq, and_true] at he5
          obtain ⟨⟨rfl, rfl⟩, -, -⟩ := he5
          simp only [Arm.con] at m1
          have HZ := Lib.hid (And.intro z0 (And.intro z1 (And.intro z2 (And.intro z3 hnb1))))
          clear z0 z1 z2 z3 hnb1
          by_cases hlt2 : j < nt
          · obtain ⟨t2, ht2⟩ : ∃ t, all[j]? = some t := ⟨_, getE (by rw [HK2.out.2.1]; exact hlt2)⟩
            obtain ⟨b6, off6, _, u6', he6, _, _, _, hb6l, k1, k2, hb6v⟩ := (HAL.out wr HZ.out.1).get j t2 ht2
            simp only [Value.slice.injEq, Option.some.injEq, Addr.mk.injEq, and_true] at he6
            obtain ⟨⟨rfl, rfl⟩, -, -⟩ := he6
            obtain ⟨con2, body2⟩ := t2
            simp only [Arm.con, Arm.body] at k1 k2 hb6v
            obtain ⟨row2, hrow2, heb2⟩ := hb6v
            obtain ⟨a6, c6, rfl, _, _⟩ := Row.any hrow2
            obtain ⟨nb2, hnb2⟩ : ∃ nb2, body2.length = nb2 := ⟨_, rfl⟩
            have hnb2b : nb2 ≤ 2097152 := by
              have h1 := szA_mem 1 (List.mem_of_getElem? ht2)
              have h2 := len_szB 1 body2
              have h4 := HK2.out.1.2
              simp only [Arm.body] at h1
              omega
            rw [hnb2] at hrow2 k2
            have HT2 := Lib.hid (And.intro ht2 (And.intro hrow2 (And.intro heb2 hnb2)))
            have hl1 : (0 : Int) ≤ (j : Int) := by omega
            have hl2 : (j : Int) < (nt : Int) := by omega
            have hl3 : (0 : Int) ≤ (m : Int) := by omega
            have hl4 : (m : Int) < (nt : Int) := by omega
            clear ht2 hrow2 heb2 hnb2
            by_cases ec : con2 = con
            · have ht : (con2.toList == con.toList) = true := by rw [str_eq]; exact decide_eq_true ec
              have HEC := Lib.hid ec
              obtain ⟨i0, hi, hz0, hz1, hz2⟩ := info_parts infoz38
              clear ec
              go_wp2
              go_quiet (fail)
              refine gen_world' (S := fun w5 => Below wr.heap.size wr w5) (below_drewN _ _ _) ?_
              intro w5 hb5
              have k2' := (World.cell?_of_block (a := ⟨b3, off3 + j * 2 + 1, none⟩) (hb5.block _ hb6l)).trans k2
              have HB5 := Lib.hid hb5
              have hown5 := own_keep HZ.out.2.2.1 (fun g hg => hb5.block g (HZ.out.2.2.1.lt g hg).2)
              have HO5 := Lib.hid hown5
              clear k1 k2 m1 hb5 hown5
              go_wp2_with (at_builtin; go_must (refine wpList_append_row (A := A2) rfl _ _ 22 rfl w4.heap.size 38 i0 _ 11 184 Try.underlying22 hi hz0 hz1 hz2 rfl (by decide) _ _ _ rfl HO5.out _ nb2 row2 rfl ?c1 ?c2 ?c3 ?c4 ?c5 ?_))
              case c1 => exact HT2.out.2.1.stay (Stay.below HB5.out)
              case c2 => exact EB.one HT2.out.2.2.1
              case c3 => unfold maxLen; omega
              case c4 => omega
              case c5 => exact Nat.le_trans HZ.out.2.1.size HB5.out.size
              intro v7 w7 hown7 hgrow7
              have hb7 : Below w4.heap.size w4 w7 := (HZ.out.2.1.trans (HB5.out.mono HZ.out.2.1.size)).grown hgrow7 (Nat.le_trans HZ.out.2.1.size HB5.out.size) (fun g hg => (HO5.out.lt g hg).1)
              have hs7 : wr.heap.size ≤ w7.heap.size := Nat.le_trans HB5.out.size hgrow7.size
              have hst := stay_at HA2.out.1 HZ.out.1 (HW34.out.trans (hb7.mono (Nat.le_of_lt hpw4))) hs7
              have HG7 : Hid (∃ brow, Below w4.heap.size w4 w7 ∧ w7.ownsRow w4.heap.size 38 11 v7 (grp (all.take (j + 1)) con).length brow ∧ EB w7 A2 (grp (all.take (j + 1)) con) brow) := Lib.hid (by
                rw [take_snoc HT2.out.1, grp_in HEC.out]
                refine ⟨brow ++ row2, hb7, ?_, EB_append (EB.stay hst _ _ HZ.out.2.2.2.1) (EB.stay hst _ _ HT2.out.2.2.1)⟩
                rw [List.length_append, HZ.out.2.2.2.2]
                rw [HT2.out.2.2.2]; exact hown7)
              clear hown7 hgrow7 hb7 hs7 hst k2' hi hz0 hz1 hz2
              go_wp2
              refine ⟨⟨j + 1, by simp, by omega, by omega, HG7⟩, by simp [intOf]; omega⟩
            · have ht : (con2.toList == con.toList) = false := by rw [str_eq]; exact decide_eq_false ec
              have HEC := Lib.hid ec
              clear ec
              go_wp2
              go_quiet (fail)
              refine gen_world' (S := fun w5 => Below wr.heap.size wr w5) (below_drewN _ _ _) ?_
              intro w5 hb5
              have HG7 : Hid (∃ brow, Below w4.heap.size w4 w5 ∧ w5.ownsRow w4.heap.size 38 11 (.slice abv nb1 cbv) (grp (all.take (j + 1)) con).length brow ∧ EB w5 A2 (grp (all.take (j + 1)) con) brow) := Lib.hid (by
                rw [take_snoc HT2.out.1, grp_out HEC.out]
                refine ⟨brow, HZ.out.2.1.trans (hb5.mono HZ.out.2.1.size), ?_, EB.stay (Stay.below hb5) _ _ HZ.out.2.2.2.1⟩
                rw [HZ.out.2.2.2.2]
                exact own_keep HZ.out.2.2.1 (fun g hg => hb5.block g (HZ.out.2.2.1.lt g hg).2))
              clear hb5 k1 k2 m1
              go_wp2
              refine ⟨⟨j + 1, by simp, by omega, by omega, HG7⟩, by simp [intOf]; omega⟩
          · have hjn : j = nt := by omega
            subst hjn
            have hta : all.take j = all := List.take_of_length_le (by rw [HK2.out.2.1]; exact Nat.le_refl _)
            have hvb : VB wr (fun b => A2 b ∨ w4.heap.size ≤ b) (.slice abv nb1 cbv) (grp all con) := by
              obtain ⟨z0, z1, z2, z3, z4⟩ := HZ.out
              rw [hta] at z3 z4
              rw [← z4] at z2 ⊢
              exact VB.own z2 rfl (fun g hg => Or.inr (z2.lt g hg).1) (EB.stay (Stay.weaken _ (fun b _ h => Or.inl h)) _ _ z3)
            have hsz : szB 1 (grp all con) < k ∧ szB 1 (grp all con) ≤ 2097152 := by
              have h1 := szB_grp all con
              have h2 : 0 < (all.filter fun a => decide (a.con = con)).length := List.length_pos_of_mem (List.mem_filter.mpr ⟨List.mem_of_getElem? HT.out.1, decide_eq_true rfl⟩)
              have h4 := HK2.out.1
              omega
            have hcl := IH.out (grp all con) wr _ _ hsz.1 hsz.2 hvb
            have hbxr := HBX4.out.below HZ.out.2.1
            have HBR := Lib.hid hbxr
            clear hta hvb hsz hbxr m1
            go_wp2_with (go_at_call 18
                         (with_reducible refine hcl.mono ?_)
                         rintro e w6 ⟨v6, rfl, hv6, hb6⟩
                         obtain ⟨a6, c6, rfl, _, _⟩ := hv6.any
                         have HV6 := Lib.hid hv6
                         have HB6 := Lib.hid hb6
                         clear hv6 hb6)
            obtain ⟨row6, y1, y2, y3, y4, y5, y6, y7⟩ := HBR.out.below HB6.out
            obtain ⟨no, hno⟩ : ∃ no, ((dcons (all.take m)).map fun c => Arm.mk c (fuseF k (grp all c))).length = no := ⟨_, rfl⟩
            have hnob : no ≤ 2097152 := by rw [← hno, List.length_map, HND.out]; exact hndb
            rw [hno] at y5
            obtain ⟨ay, cy, rfl, hcy1, hcy2⟩ := own_form y5
            have g10 : w6.cell? ⟨p, 10, none⟩ = some (.slice ay no cy) := by rw [cell_of_row _ p 10 _ 38 (0, 0) y3]; rfl
            have gz : w6.frozen? ⟨p, 10, none⟩ = false := by simp [World.frozen?, y3]
            have g10a : ∀ o, (w6.alloc o).cell? ⟨p, 10, none⟩ = some (.slice ay no cy) := fun o => (World.cell?_alloc_past _ _ _ y2).trans g10
            obtain ⟨b5, off5, _, _, he5, _, _, _, _, m1, _, _⟩ := (HAL.out w6 y1).get m _ HT.out.1
            simp only [Value.slice.injEq, Option.some.injEq, Addr.mk.injEq, and_true] at he5
            obtain ⟨⟨rfl, rfl⟩, -, -⟩ := he5
            simp only [Arm.con] at m1
            have hl3 : (0 : Int) ≤ (m : Int) := by omega
            have hl4 : (m : Int) < (j : Int) := by omega
            have hyp : ∀ g, (Value.slice ay no cy).ownBlock = some g → p + 1 ≤ g := fun g hg => (y5.lt g hg).1
            obtain ⟨i0, hi, hz0, hz1, hz2⟩ := info_parts infoz49
            have HYY := Lib.hid (And.intro y1 (And.intro y2 (And.intro y3 (And.intro y4 (And.intro y5 (And.intro y6 (And.intro y7 hno)))))))
            clear y1 y2 y3 y4 y5 y6 y7 hno
            go_region_law (first
              | (refine step_append_lies _ (by rfl) _ _ _ (by rfl) (p + 1) 49 i0 _ 2 40 Try.underlying36 hi hz0 hz1 hz2 rfl (by omega) _ no row6 (by rfl) ((HYY.out.2.2.2.2.1.alloc _).drew)
                  ⟨w6.heap.size, 0, none⟩ 1 1 [.string con, .slice a6 _ c6] (by rfl) (by rfl) (World.news_of_block (cs := #[.string con, .slice a6 _ c6]) (t := 49) (fr := (0, 0)) (heap_alloc_new w6 _)) (by simp [Value.oneCell'])
                  (by omega) (by unfold maxLen; omega) (by omega) (by have := HYY.out.2.1; simp; omega) (w6.heap.size + 1) (by simp) ?_
                 intro gg capg w7 hown7 hgrow7 hat7 hlt7
                 have e7 : w7.cell? ⟨p, 10, none⟩ = some (.slice ay no cy) := (World.cell?_of_block (a := ⟨p, 10, none⟩) ((hgrow7.block p (by have := HYY.out.2.1; simp; omega) (fun e => by have := hyp p e.symm; omega)).trans (Below.heap_alloc w6 _ p HYY.out.2.1))).trans g10
                 have z7 : w7.frozen? ⟨p, 10, none⟩ = false := (World.frozen?_of_block (a := ⟨p, 10, none⟩) ((hgrow7.block p (by have := HYY.out.2.1; simp; omega) (fun e => by have := hyp p e.symm; omega)).trans (Below.heap_alloc w6 _ p HYY.out.2.1))).trans gz))
            all_goals
              have hg7 : (w6.drew.alloc (.cells #[.string con, .slice a6 (fuseF k (grp all con)).length c6] 49)).grownBy w7 (Value.slice ay no cy).ownBlock := hgrow7
              have hbn : BX w3 (w7.setCell ⟨p, 10, none⟩ (.slice (some ⟨gg, 0, none⟩) (no + 1) capg)) A2 p name (.slice (some ⟨gd, 0, none⟩) (nd + 1) capd) (.slice (some ⟨gg, 0, none⟩) (no + 1) capg) (dcons (all.take m) ++ [con]) (((dcons (all.take m)).map fun c => Arm.mk c (fuseF k (grp all c))) ++ [.mk con (fuseF k (grp all con))]) := by
                obtain ⟨y1, y2, y3, y4, y5, y6, y7, yo⟩ := HYY.out
                obtain ⟨_, _, _, _, l4, l5, _, _⟩ := HBX4.out
                refine BX.arm (w5 := w7) (va5 := .slice (some ⟨gg, 0, none⟩) (no + 1) capg) (v := .slice a6 (fuseF k (grp all con)).length c6) (con := con) (body := fuseF k (grp all con)) (o := .cells #[.string con, .slice a6 (fuseF k (grp all con)).length c6] 49) (q := w4.heap.size) (row := row6) (wr := w6.drew) y1.drew y2 y3 y4.drew (by rw [yo]; exact y5.drew) y6 (EA.stay (Stay.below ((Below.refl w6.heap.size w6).drew)) _ _ y7) HA2.out.1 hpw4 (fun g hg => (l4.lt g hg).2) (fun g hg => (l5.lt g hg).2) ((HV6.out.stay (Stay.below ((Below.refl w6.heap.size w6).drew))).stay (Stay.weaken _ (fun b _ h => by
                  rcases h with q | q
                  · exact q
                  · exact Or.inr (Nat.le_trans HZ.out.2.1.size q)))) (by rw [yo]; exact hown7) hg7 (by
                  rcases hat7 with r | r
                  · exact Or.inl r.symm
                  · exact Or.inr (fun g e => by simp [Value.ownBlock] at e; show w6.heap.size < g; omega))
              have HBN : Hid (∃ va, BX w3 (w7.setCell ⟨p, 10, none⟩ (.slice (some ⟨gg, 0, none⟩) (no + 1) capg)) A2 p name (.slice (some ⟨gd, 0, none⟩) (nd + 1) capd) va (dcons (all.take (m + 1))) ((dcons (all.take (m + 1))).map fun c => .mk c (fuseF k (grp all c)))) := Lib.hid (by
                rw [take_snoc HT.out.1, dcons_out HIN.out, List.map_append]
                exact ⟨_, hbn⟩)
              clear hown7 hgrow7 hg7 hat7 hbn e7 z7 g10 gz g10a m1 hi hz0 hz1 hz2
              go_wp2
              refine ⟨⟨m + 1, by simp, by omega, HBN⟩, by simp [intOf]; omega⟩
    · have hta : all.take m = all := List.take_of_length_le (by rw [HK2.out.2.1]; omega)
      rw [hta] at HX
      obtain ⟨va, row, x1, x2, x3, x4, x5, x6, x7⟩ := HX.out
      obtain ⟨ao, cc, rfl, hcc1, hcc2⟩ := own_form x5
      obtain ⟨co, hco⟩ : ∃ co, ((dcons all).map fun c => Arm.mk c (fuseF k (grp all c))).length = co := ⟨_, rfl⟩
      rw [hco] at x3 x5 x6 x7
      have hlp : W.heap.size + 1 + 1 < p := by have := (Array.getElem?_eq_some_iff.1 HP4.out).1; have := HWP.out.2.1; omega
      have h4 : wr.heap[W.heap.size + 1 + 1]? = some (.cells #[.int .i64 0, .string ⟨#[]⟩, .slice none 0 0, .int .i64 0, .int .i64 0, .string ⟨#[]⟩, .int .i64 0, .slice none 0 0, .slice none 0 0, .slice none 0 0, .slice none 0 0] 38 (0, 0)) := ((HB23.out.trans x1).block _ hlp).trans HP4.out
      have l0 : wr.cell? ⟨p, 0, none⟩ = some (.int .i64 5) := by rw [cell_of_row _ p 0 _ 38 (0, 0) x3]; rfl
      have l1 : wr.cell? ⟨p, 1, none⟩ = some (.string name) := by rw [cell_of_row _ p 1 _ 38 (0, 0) x3]; rfl
      have l2 : wr.cell? ⟨p, 2, none⟩ = some (.slice none 0 0) := by rw [cell_of_row _ p 2 _ 38 (0, 0) x3]; rfl
      have l3 : wr.cell? ⟨p, 3, none⟩ = some (.int .i64 0) := by rw [cell_of_row _ p 3 _ 38 (0, 0) x3]; rfl
      have l4 : wr.cell? ⟨p, 4, none⟩ = some (.int .i64 0) := by rw [cell_of_row _ p 4 _ 38 (0, 0) x3]; rfl
      have l5 : wr.cell? ⟨p, 5, none⟩ = some (.string ⟨#[]⟩) := by rw [cell_of_row _ p 5 _ 38 (0, 0) x3]; rfl
      have l6 : wr.cell? ⟨p, 6, none⟩ = some (.int .i64 0) := by rw [cell_of_row _ p 6 _ 38 (0, 0) x3]; rfl
      have l7 : wr.cell? ⟨p, 7, none⟩ = some (.slice none 0 0) := by rw [cell_of_row _ p 7 _ 38 (0, 0) x3]; rfl
      have l8 : wr.cell? ⟨p, 8, none⟩ = some (.slice none 0 0) := by rw [cell_of_row _ p 8 _ 38 (0, 0) x3]; rfl
      have l9 : wr.cell? ⟨p, 9, none⟩ = some (.slice none 0 0) := by rw [cell_of_row _ p 9 _ 38 (0, 0) x3]; rfl
      have l10 : wr.cell? ⟨p, 10, none⟩ = some (.slice ao co cc) := by rw [cell_of_row _ p 10 _ 38 (0, 0) x3]; rfl
      have s0 : wr.cell? ⟨W.heap.size + 1 + 1, 0, none⟩ = some (.int .i64 0) := by rw [cell_of_row _ (W.heap.size + 1 + 1) 0 _ 38 (0, 0) h4]; rfl
      have z0 : wr.frozen? ⟨W.heap.size + 1 + 1, 0, none⟩ = false := by simp [World.frozen?, h4]
      have s1 : wr.cell? ⟨W.heap.size + 1 + 1, 1, none⟩ = some (.string ⟨#[]⟩) := by rw [cell_of_row _ (W.heap.size + 1 + 1) 1 _ 38 (0, 0) h4]; rfl
      have z1 : wr.frozen? ⟨W.heap.size + 1 + 1, 1, none⟩ = false := by simp [World.frozen?, h4]
      have s2 : wr.cell? ⟨W.heap.size + 1 + 1, 2, none⟩ = some (.slice none 0 0) := by rw [cell_of_row _ (W.heap.size + 1 + 1) 2 _ 38 (0, 0) h4]; rfl
      have z2 : wr.frozen? ⟨W.heap.size + 1 + 1, 2, none⟩ = false := by simp [World.frozen?, h4]
      have s3 : wr.cell? ⟨W.heap.size + 1 + 1, 3, none⟩ = some (.int .i64 0) := by rw [cell_of_row _ (W.heap.size + 1 + 1) 3 _ 38 (0, 0) h4]; rfl
      have z3 : wr.frozen? ⟨W.heap.size + 1 + 1, 3, none⟩ = false := by simp [World.frozen?, h4]
      have s4 : wr.cell? ⟨W.heap.size + 1 + 1, 4, none⟩ = some (.int .i64 0) := by rw [cell_of_row _ (W.heap.size + 1 + 1) 4 _ 38 (0, 0) h4]; rfl
      have z4 : wr.frozen? ⟨W.heap.size + 1 + 1, 4, none⟩ = false := by simp [World.frozen?, h4]
      have s5 : wr.cell? ⟨W.heap.size + 1 + 1, 5, none⟩ = some (.string ⟨#[]⟩) := by rw [cell_of_row _ (W.heap.size + 1 + 1) 5 _ 38 (0, 0) h4]; rfl
      have z5 : wr.frozen? ⟨W.heap.size + 1 + 1, 5, none⟩ = false := by simp [World.frozen?, h4]
      have s6 : wr.cell? ⟨W.heap.size + 1 + 1, 6, none⟩ = some (.int .i64 0) := by rw [cell_of_row _ (W.heap.size + 1 + 1) 6 _ 38 (0, 0) h4]; rfl
      have z6 : wr.frozen? ⟨W.heap.size + 1 + 1, 6, none⟩ = false := by simp [World.frozen?, h4]
      have s7 : wr.cell? ⟨W.heap.size + 1 + 1, 7, none⟩ = some (.slice none 0 0) := by rw [cell_of_row _ (W.heap.size + 1 + 1) 7 _ 38 (0, 0) h4]; rfl
      have z7 : wr.frozen? ⟨W.heap.size + 1 + 1, 7, none⟩ = false := by simp [World.frozen?, h4]
      have s8 : wr.cell? ⟨W.heap.size + 1 + 1, 8, none⟩ = some (.slice none 0 0) := by rw [cell_of_row _ (W.heap.size + 1 + 1) 8 _ 38 (0, 0) h4]; rfl
      have z8 : wr.frozen? ⟨W.heap.size + 1 + 1, 8, none⟩ = false := by simp [World.frozen?, h4]
      have s9 : wr.cell? ⟨W.heap.size + 1 + 1, 9, none⟩ = some (.slice none 0 0) := by rw [cell_of_row _ (W.heap.size + 1 + 1) 9 _ 38 (0, 0) h4]; rfl
      have z9 : wr.frozen? ⟨W.heap.size + 1 + 1, 9, none⟩ = false := by simp [World.frozen?, h4]
      have s10 : wr.cell? ⟨W.heap.size + 1 + 1, 10, none⟩ = some (.slice none 0 0) := by rw [cell_of_row _ (W.heap.size + 1 + 1) 10 _ 38 (0, 0) h4]; rfl
      have z10 : wr.frozen? ⟨W.heap.size + 1 + 1, 10, none⟩ = false := by simp [World.frozen?, h4]
      have HXX := Lib.hid (And.intro x1 (And.intro x5 (And.intro x7 hco)))
      have HX4 := Lib.hid h4
      have hbw : Below W.heap.size W wr := HW2.out.trans ((HB23.out.trans x1).mono (by have := HW2.out.size; have := HWP.out.2.1; omega))
      have HBW := Lib.hid hbw
      clear x1 x2 x3 x4 x5 x6 x7 hco h4 hta hbw
      obtain ⟨d, hd1, hd2⟩ := row38'
      obtain ⟨p4, hp4⟩ : ∃ p4, W.heap.size + 1 + 1 = p4 := ⟨_, rfl⟩
      have HP4E := Lib.hid hp4
      rw [hp4] at s0 s1 s2 s3 s4 s5 s6 s7 s8 s9 s10 z0 z1 z2 z3 z4 z5 z6 z7 z8 z9 z10 ⊢
      clear hp4
      go_wp2
      refine gen_world' (S := fun w9 => w9 = wr.setCells p4 0 [.int .i64 5, .string name, .slice none 0 0, .int .i64 0, .int .i64 0, .string ⟨#[]⟩, .int .i64 0, .slice none 0 0, .slice none 0 0, .slice none 0 0, .slice ao co cc]) (by simp only [World.setCells]) ?_
      rintro w9 rfl
      have hx4 := HX4.out
      rw [HP4E.out] at hx4
      have hh1 := heap_many_at (g := p4) (t := 38) [.int .i64 5, .string name, .slice none 0 0, .int .i64 0, .int .i64 0, .string ⟨#[]⟩, .int .i64 0, .slice none 0 0, .slice none 0 0, .slice none 0 0, .slice ao co cc] [] [.int .i64 0, .string ⟨#[]⟩, .slice none 0 0, .int .i64 0, .int .i64 0, .string ⟨#[]⟩, .int .i64 0, .slice none 0 0, .slice none 0 0, .slice none 0 0, .slice none 0 0] wr rfl hx4
      have hh2 : ∀ b, b ≠ p4 → (wr.setCells p4 0 [.int .i64 5, .string name, .slice none 0 0, .int .i64 0, .int .i64 0, .string ⟨#[]⟩, .int .i64 0, .slice none 0 0, .slice none 0 0, .slice none 0 0, .slice ao co cc]).heap[b]? = wr.heap[b]? := fun b hb => heap_many hb _ 0 wr
      have hh3 : (wr.setCells p4 0 [.int .i64 5, .string name, .slice none 0 0, .int .i64 0, .int .i64 0, .string ⟨#[]⟩, .int .i64 0, .slice none 0 0, .slice none 0 0, .slice none 0 0, .slice ao co cc]).heap.size = wr.heap.size := size_many _ 0 wr
      have hh4 : Below W.heap.size W (wr.setCells p4 0 [.int .i64 5, .string name, .slice none 0 0, .int .i64 0, .int .i64 0, .string ⟨#[]⟩, .int .i64 0, .slice none 0 0, .slice none 0 0, .slice none 0 0, .slice ao co cc]) := below_many (by have := HP4E.out; omega) _ 0 wr HBW.out
      have hp4 := HP4E.out
      refine bodyPost_ret (results_cell_row (p := 4) (ty := 38) (by rfl) _ _ p4 38 #[.int .i64 5, .string name, .slice none 0 0, .int .i64 0, .int .i64 0, .string ⟨#[]⟩, .int .i64 0, .slice none 0 0, .slice none 0 0, .slice none 0 0, .slice ao co cc] (0, 0) d (by rfl) hh1 hd1 (by cases d <;> simp_all [TypeDesc.isRow]) size38) (by rfl) ⟨ao, co, cc, rfl, ?_, hh4⟩
      rw [HK2.out.2.2, join_grp]
      obtain ⟨x1, x5, x7, hco⟩ := HXX.out
      have hva : VA wr (fun b => (A2 b ∨ p < b)) (.slice ao co cc) ((dcons all).map fun c => .mk c (fuseF k (grp all c))) :=
        VA.own x5 hco.symm (fun g hg => Or.inr (x5.lt g hg).1) (EA.stay (Stay.weaken _ (fun b _ h => h.1)) _ _ x7)
      refine hva.stay ⟨by omega, fun b hbl hb => ?_⟩
      have hpl := HP.out.2.2
      have hA2 := HA2.out.2
      rcases hb with q | q
      · have q' := q
        rw [← hA2] at q'
        rcases q'.1 with r | r
        · have := HA.out b r
          exact ⟨Or.inl r, hh2 b (by omega)⟩
        · exact ⟨Or.inr (Nat.le_trans HB.out.size r), hh2 b (by omega)⟩
      · exact ⟨Or.inr (by omega), hh2 b (by omega)⟩
end Go.Proofs.Ytnbinejghkhcjaa.Fu
