/- Classes that are the same are told to be the same. -/
import Derived.Test.YtnbinejghkhcjaaGk
import Derived.Test.YtnbinejghkhcjaaFo
import Derived.BigQuiet
namespace Go.Proofs.Ytnbinejghkhcjaa.Fu
open Go.RowKit
set_option linter.unusedVariables false
set_option linter.unusedSimpArgs false
set_option maxHeartbeats 4000000
set_option maxRecDepth 100000 in
theorem sameClass_any {W : World} {A B : Nat → Prop} {c : Cl} {u1 u2 : Value} {L : List Stm} (ho : ClOk W A c) (h1 : VB W A u1 L) (h2 : VB W B u2 L) :
    Calls Try.prog 19 #[.agg (rawC c u1).toArray, .agg (rawC c u2).toArray] W fun e w' => e = .returned (.bool true) ∧ Below W.heap.size W w' := by
  obtain ⟨nm, ci, co, cv', cm, cf, cns, cst⟩ := c
  obtain ⟨au, cu, rfl, _, _⟩ := h1.any
  obtain ⟨av, cv, rfl, _, _⟩ := h2.any
  obtain ⟨nl, hnl⟩ : ∃ nl, L.length = nl := ⟨_, rfl⟩
  rw [hnl] at h1 h2 ⊢
  obtain ⟨l0, hl0⟩ := ho.hi
  obtain ⟨a1, c1, e1, _⟩ := Row.any hl0
  obtain ⟨l1, hl1⟩ := ho.ho
  obtain ⟨a2, c2, e2, _⟩ := Row.any hl1
  obtain ⟨l2, hl2⟩ := ho.hv
  obtain ⟨a3, c3, e3, _⟩ := Row.any hl2
  obtain ⟨l3, hl3⟩ := ho.hm
  obtain ⟨a4, c4, e4, _⟩ := Row.any hl3
  obtain ⟨l4, hl4⟩ := ho.hf
  obtain ⟨a5, c5, e5, _⟩ := Row.any hl4
  obtain ⟨l5, hl5⟩ := ho.hn
  obtain ⟨a6, c6, e6, _⟩ := Row.any hl5
  obtain ⟨n1, hn1'⟩ : ∃ n, l0.length = n := ⟨_, rfl⟩
  rw [hn1'] at e1
  simp only at e1
  subst e1
  obtain ⟨n2, hn2'⟩ : ∃ n, l1.length = n := ⟨_, rfl⟩
  rw [hn2'] at e2
  simp only at e2
  subst e2
  obtain ⟨n3, hn3'⟩ : ∃ n, l2.length = n := ⟨_, rfl⟩
  rw [hn3'] at e3
  simp only at e3
  subst e3
  obtain ⟨n4, hn4'⟩ : ∃ n, l3.length = n := ⟨_, rfl⟩
  rw [hn4'] at e4
  simp only at e4
  subst e4
  obtain ⟨n5, hn5'⟩ : ∃ n, l4.length = n := ⟨_, rfl⟩
  rw [hn5'] at e5
  simp only at e5
  subst e5
  obtain ⟨n6, hn6'⟩ : ∃ n, l5.length = n := ⟨_, rfl⟩
  rw [hn6'] at e6
  simp only at e6
  subst e6
  have hc63 : c6 ≤ maxLen ∧ n6 ≤ c6 := by
    obtain ⟨_, _, q, q1, q2⟩ := Row.any hl5
    simp only [Value.slice.injEq] at q
    obtain ⟨-, e1, e2⟩ := q
    omega
  have hc64 : c6 ≤ 9223372036854775807 := by have := hc63.1; unfold maxLen at this; exact this
  simp only [rawC]
  obtain ⟨wb, hwb⟩ : ∃ wb, (W.alloc (.cells #[.string nm, .slice a1 n1 c1, .slice a2 n2 c2, .slice a3 n3 c3, .slice a4 n4 c4, .slice a5 n5 c5, .slice a6 n6 c6, .slice au nl cu] 43)).alloc (.cells #[.string nm, .slice a1 n1 c1, .slice a2 n2 c2, .slice a3 n3 c3, .slice a4 n4 c4, .slice a5 n5 c5, .slice a6 n6 c6, .slice av nl cv] 43) = wb := ⟨_, rfl⟩
  have hbel : Below W.heap.size W wb := by rw [← hwb]; exact ((Below.refl _ _).alloc (Nat.le_refl _) _).alloc (by simp) _
  have hp1 : wb.heap[W.heap.size]? = some (.cells #[.string nm, .slice a1 n1 c1, .slice a2 n2 c2, .slice a3 n3 c3, .slice a4 n4 c4, .slice a5 n5 c5, .slice a6 n6 c6, .slice au nl cu] 43 (0, 0)) := by rw [← hwb]; exact heap_alloc2_old W _ _
  have hp2 : wb.heap[W.heap.size + 1]? = some (.cells #[.string nm, .slice a1 n1 c1, .slice a2 n2 c2, .slice a3 n3 c3, .slice a4 n4 c4, .slice a5 n5 c5, .slice a6 n6 c6, .slice av nl cv] 43 (0, 0)) := by rw [← hwb]; exact heap_alloc2_new W _ _
  have HP := Lib.hid (And.intro hp1 hp2)
  have hn0 : ∀ w', Below wb.heap.size wb w' → Calls Try.prog 23 #[.slice a1 n1 c1, .slice a1 n1 c1] w' fun e w'' => e = .returned (.bool true) ∧ Below w'.heap.size w' w'' := fun w' hb => by
    obtain ⟨l, hl⟩ := ho.hi
    exact names_same (hl.stay (Stay.below (hbel.trans (hb.mono hbel.size))))
  have HN0 := Lib.hid hn0
  have hn1 : ∀ w', Below wb.heap.size wb w' → Calls Try.prog 23 #[.slice a2 n2 c2, .slice a2 n2 c2] w' fun e w'' => e = .returned (.bool true) ∧ Below w'.heap.size w' w'' := fun w' hb => by
    obtain ⟨l, hl⟩ := ho.ho
    exact names_same (hl.stay (Stay.below (hbel.trans (hb.mono hbel.size))))
  have HN1 := Lib.hid hn1
  have hn2 : ∀ w', Below wb.heap.size wb w' → Calls Try.prog 23 #[.slice a3 n3 c3, .slice a3 n3 c3] w' fun e w'' => e = .returned (.bool true) ∧ Below w'.heap.size w' w'' := fun w' hb => by
    obtain ⟨l, hl⟩ := ho.hv
    exact names_same (hl.stay (Stay.below (hbel.trans (hb.mono hbel.size))))
  have HN2 := Lib.hid hn2
  have hn3 : ∀ w', Below wb.heap.size wb w' → Calls Try.prog 23 #[.slice a4 n4 c4, .slice a4 n4 c4] w' fun e w'' => e = .returned (.bool true) ∧ Below w'.heap.size w' w'' := fun w' hb => by
    obtain ⟨l, hl⟩ := ho.hm
    exact names_same (hl.stay (Stay.below (hbel.trans (hb.mono hbel.size))))
  have HN3 := Lib.hid hn3
  have hn4 : ∀ w', Below wb.heap.size wb w' → Calls Try.prog 23 #[.slice a5 n5 c5, .slice a5 n5 c5] w' fun e w'' => e = .returned (.bool true) ∧ Below w'.heap.size w' w'' := fun w' hb => by
    obtain ⟨l, hl⟩ := ho.hf
    exact names_same (hl.stay (Stay.below (hbel.trans (hb.mono hbel.size))))
  have HN4 := Lib.hid hn4
  have hCC : ∀ w', Below wb.heap.size wb w' → w'.cell? ⟨W.heap.size, 0, none⟩ = some (.string nm) ∧ w'.cell? ⟨W.heap.size, 1, none⟩ = some (.slice a1 n1 c1) ∧ w'.cell? ⟨W.heap.size, 2, none⟩ = some (.slice a2 n2 c2) ∧ w'.cell? ⟨W.heap.size, 3, none⟩ = some (.slice a3 n3 c3) ∧ w'.cell? ⟨W.heap.size, 4, none⟩ = some (.slice a4 n4 c4) ∧ w'.cell? ⟨W.heap.size, 5, none⟩ = some (.slice a5 n5 c5) ∧ w'.cell? ⟨W.heap.size, 6, none⟩ = some (.slice a6 n6 c6) ∧ w'.cell? ⟨W.heap.size, 7, none⟩ = some (.slice au nl cu) ∧ w'.cell? ⟨W.heap.size + 1, 0, none⟩ = some (.string nm) ∧ w'.cell? ⟨W.heap.size + 1, 1, none⟩ = some (.slice a1 n1 c1) ∧ w'.cell? ⟨W.heap.size + 1, 2, none⟩ = some (.slice a2 n2 c2) ∧ w'.cell? ⟨W.heap.size + 1, 3, none⟩ = some (.slice a3 n3 c3) ∧ w'.cell? ⟨W.heap.size + 1, 4, none⟩ = some (.slice a4 n4 c4) ∧ w'.cell? ⟨W.heap.size + 1, 5, none⟩ = some (.slice a5 n5 c5) ∧ w'.cell? ⟨W.heap.size + 1, 6, none⟩ = some (.slice a6 n6 c6) ∧ w'.cell? ⟨W.heap.size + 1, 7, none⟩ = some (.slice av nl cv) := fun w' hb => ⟨by rw [cell_of_row _ (W.heap.size) 0 _ 43 (0, 0) ((hb.block _ (Array.getElem?_eq_some_iff.1 HP.out.1).1).trans HP.out.1)]; rfl, by rw [cell_of_row _ (W.heap.size) 1 _ 43 (0, 0) ((hb.block _ (Array.getElem?_eq_some_iff.1 HP.out.1).1).trans HP.out.1)]; rfl, by rw [cell_of_row _ (W.heap.size) 2 _ 43 (0, 0) ((hb.block _ (Array.getElem?_eq_some_iff.1 HP.out.1).1).trans HP.out.1)]; rfl, by rw [cell_of_row _ (W.heap.size) 3 _ 43 (0, 0) ((hb.block _ (Array.getElem?_eq_some_iff.1 HP.out.1).1).trans HP.out.1)]; rfl, by rw [cell_of_row _ (W.heap.size) 4 _ 43 (0, 0) ((hb.block _ (Array.getElem?_eq_some_iff.1 HP.out.1).1).trans HP.out.1)]; rfl, by rw [cell_of_row _ (W.heap.size) 5 _ 43 (0, 0) ((hb.block _ (Array.getElem?_eq_some_iff.1 HP.out.1).1).trans HP.out.1)]; rfl, by rw [cell_of_row _ (W.heap.size) 6 _ 43 (0, 0) ((hb.block _ (Array.getElem?_eq_some_iff.1 HP.out.1).1).trans HP.out.1)]; rfl, by rw [cell_of_row _ (W.heap.size) 7 _ 43 (0, 0) ((hb.block _ (Array.getElem?_eq_some_iff.1 HP.out.1).1).trans HP.out.1)]; rfl, by rw [cell_of_row _ (W.heap.size + 1) 0 _ 43 (0, 0) ((hb.block _ (Array.getElem?_eq_some_iff.1 HP.out.2).1).trans HP.out.2)]; rfl, by rw [cell_of_row _ (W.heap.size + 1) 1 _ 43 (0, 0) ((hb.block _ (Array.getElem?_eq_some_iff.1 HP.out.2).1).trans HP.out.2)]; rfl, by rw [cell_of_row _ (W.heap.size + 1) 2 _ 43 (0, 0) ((hb.block _ (Array.getElem?_eq_some_iff.1 HP.out.2).1).trans HP.out.2)]; rfl, by rw [cell_of_row _ (W.heap.size + 1) 3 _ 43 (0, 0) ((hb.block _ (Array.getElem?_eq_some_iff.1 HP.out.2).1).trans HP.out.2)]; rfl, by rw [cell_of_row _ (W.heap.size + 1) 4 _ 43 (0, 0) ((hb.block _ (Array.getElem?_eq_some_iff.1 HP.out.2).1).trans HP.out.2)]; rfl, by rw [cell_of_row _ (W.heap.size + 1) 5 _ 43 (0, 0) ((hb.block _ (Array.getElem?_eq_some_iff.1 HP.out.2).1).trans HP.out.2)]; rfl, by rw [cell_of_row _ (W.heap.size + 1) 6 _ 43 (0, 0) ((hb.block _ (Array.getElem?_eq_some_iff.1 HP.out.2).1).trans HP.out.2)]; rfl, by rw [cell_of_row _ (W.heap.size + 1) 7 _ 43 (0, 0) ((hb.block _ (Array.getElem?_eq_some_iff.1 HP.out.2).1).trans HP.out.2)]; rfl⟩
  have HCC := Lib.hid hCC
  have hs0 := hn0 wb (Below.refl _ _)
  have hsm : ∀ w', Below wb.heap.size wb w' → Calls Try.prog 11 #[.slice au nl cu, .slice av nl cv] w' fun e w'' => e = .returned (.bool true) ∧ Below w'.heap.size w' w'' := fun w' hb => same_any (h1.stay (Stay.below (hbel.trans (hb.mono hbel.size)))) (h2.stay (Stay.below (hbel.trans (hb.mono hbel.size))))
  have HSM := Lib.hid hsm
  have HI := Lib.hid hl5
  have HBL := Lib.hid hbel
  have ht : (nm.toList == nm.toList) = true := by simp
  obtain ⟨fP0, fP1, fP2, fP3, fP4, fP5, fP6, fP7, fQ0, fQ1, fQ2, fQ3, fQ4, fQ5, fQ6, fQ7⟩ := hCC wb (Below.refl _ _)
  have HWB := Lib.hid hwb
  have HL5 := Lib.hid hn6'
  clear hCC hsm hn0 hn1 hn2 hn3 hn4 hl0 hl1 hl2 hl3 hl4 hl5 hp1 hp2 hbel h1 h2 ho hnl hwb hn1' hn2' hn3' hn4' hn5' hn6'
  go_enter Try.func19, Try.ntmps19
  go_wp2_with (first
    | (go_at_call 23
       rw [HWB.out]
       (with_reducible refine hs0.mono ?_)
       rintro e w1 ⟨rfl, hb1⟩
       have HB1 : Hid (Below wb.heap.size wb w1) := Lib.hid hb1
       clear fP0 fP1 fP2 fP3 fP4 fP5 fP6 fP7 fQ0 fQ1 fQ2 fQ3 fQ4 fQ5 fQ6 fQ7
       obtain ⟨fP0, fP1, fP2, fP3, fP4, fP5, fP6, fP7, fQ0, fQ1, fQ2, fQ3, fQ4, fQ5, fQ6, fQ7⟩ := HCC.out w1 HB1.out
       have hs1 := HN1.out w1 HB1.out
       clear hb1)
    | (go_at_call 23
       (with_reducible refine hs0.mono ?_)
       rintro e w1 ⟨rfl, hb1⟩
       have HB1 : Hid (Below wb.heap.size wb w1) := Lib.hid (hb1)
       clear fP0 fP1 fP2 fP3 fP4 fP5 fP6 fP7 fQ0 fQ1 fQ2 fQ3 fQ4 fQ5 fQ6 fQ7
       obtain ⟨fP0, fP1, fP2, fP3, fP4, fP5, fP6, fP7, fQ0, fQ1, fQ2, fQ3, fQ4, fQ5, fQ6, fQ7⟩ := HCC.out w1 HB1.out
       have hs1 := HN1.out w1 HB1.out
       clear hb1)
    | (go_at_call 23
       (with_reducible refine hs1.mono ?_)
       rintro e w2 ⟨rfl, hb2⟩
       have HB2 : Hid (Below wb.heap.size wb w2) := Lib.hid (HB1.out.trans (hb2.mono HB1.out.size))
       clear fP0 fP1 fP2 fP3 fP4 fP5 fP6 fP7 fQ0 fQ1 fQ2 fQ3 fQ4 fQ5 fQ6 fQ7
       obtain ⟨fP0, fP1, fP2, fP3, fP4, fP5, fP6, fP7, fQ0, fQ1, fQ2, fQ3, fQ4, fQ5, fQ6, fQ7⟩ := HCC.out w2 HB2.out
       have hs2 := HN2.out w2 HB2.out
       clear hb2)
    | (go_at_call 23
       (with_reducible refine hs2.mono ?_)
       rintro e w3 ⟨rfl, hb3⟩
       have HB3 : Hid (Below wb.heap.size wb w3) := Lib.hid (HB2.out.trans (hb3.mono HB2.out.size))
       clear fP0 fP1 fP2 fP3 fP4 fP5 fP6 fP7 fQ0 fQ1 fQ2 fQ3 fQ4 fQ5 fQ6 fQ7
       obtain ⟨fP0, fP1, fP2, fP3, fP4, fP5, fP6, fP7, fQ0, fQ1, fQ2, fQ3, fQ4, fQ5, fQ6, fQ7⟩ := HCC.out w3 HB3.out
       have hs3 := HN3.out w3 HB3.out
       clear hb3)
    | (go_at_call 23
       (with_reducible refine hs3.mono ?_)
       rintro e w4 ⟨rfl, hb4⟩
       have HB4 : Hid (Below wb.heap.size wb w4) := Lib.hid (HB3.out.trans (hb4.mono HB3.out.size))
       clear fP0 fP1 fP2 fP3 fP4 fP5 fP6 fP7 fQ0 fQ1 fQ2 fQ3 fQ4 fQ5 fQ6 fQ7
       obtain ⟨fP0, fP1, fP2, fP3, fP4, fP5, fP6, fP7, fQ0, fQ1, fQ2, fQ3, fQ4, fQ5, fQ6, fQ7⟩ := HCC.out w4 HB4.out
       have hs4 := HN4.out w4 HB4.out
       clear hb4)
    | (go_at_call 23
       (with_reducible refine hs4.mono ?_)
       rintro e w5 ⟨rfl, hb5⟩
       have HB5 : Hid (Below wb.heap.size wb w5) := Lib.hid (HB4.out.trans (hb5.mono HB4.out.size))
       clear fP0 fP1 fP2 fP3 fP4 fP5 fP6 fP7 fQ0 fQ1 fQ2 fQ3 fQ4 fQ5 fQ6 fQ7
       obtain ⟨fP0, fP1, fP2, fP3, fP4, fP5, fP6, fP7, fQ0, fQ1, fQ2, fQ3, fQ4, fQ5, fQ6, fQ7⟩ := HCC.out w5 HB5.out
       skip
       clear hb5)
)
  clear fP0 fP1 fP2 fP3 fP4 fP5 fP6 fP7 fQ0 fQ1 fQ2 fQ3 fQ4 fQ5 fQ6 fQ7 hs0 hs1 hs2 hs3 hs4
  go_loopw [5] (fun i wr => ∃ j : Nat, i = .int .i64 j ∧ j ≤ n6 ∧ Hid (Below wb.heap.size wb wr)) (fun i _ => n6 - (intOf i).toNat)
  case atStart => exact ⟨0, rfl, Nat.zero_le _, HB5⟩
  case round =>
    obtain ⟨j, rfl, hj, HX⟩ := hrel
    obtain ⟨fP0, fP1, fP2, fP3, fP4, fP5, fP6, fP7, fQ0, fQ1, fQ2, fQ3, fQ4, fQ5, fQ6, fQ7⟩ := HCC.out wr HX.out
    have HWX := Lib.hid (HBL.out.trans (HX.out.mono HBL.out.size))
    by_cases hlt : j < n6
    · obtain ⟨b, off, cap', he, _, _, _, hbl, hc⟩ := Row.form (Row.stay HI.out (Stay.below HWX.out)) (by rw [HL5.out]; omega)
      simp only [Value.slice.injEq] at he
      obtain ⟨rfl, -, rfl⟩ := he
      obtain ⟨x, hx⟩ : ∃ x, l5[j]? = some x := ⟨_, getE (by rw [HL5.out]; exact hlt)⟩
      have k1 : wr.cell? ⟨b, off + j, none⟩ = some (.int .i64 x) := by
        have := hc j (by rw [HL5.out]; omega)
        simpa [hx] using this
      have hl1 : (0 : Int) ≤ (j : Int) := by omega
      have hl2 : (j : Int) < (n6 : Int) := by omega
      clear hc hx
      go_wp2
      go_quiet (fail)
      go_wp2
      go_roundw
      case rel => exact ⟨j + 1, by simp, by omega, Lib.hid (HX.out.trans (below_drewN _ _ _))⟩
      case measure => simp [intOf]; omega
    · have hsm := HSM.out wr HX.out
      go_wp2_with (go_at_call 11; (with_reducible refine hsm.mono ?_); rintro e w9 ⟨rfl, hb9⟩; replace hb9 := Lib.hid hb9)
      go_ret
      exact ⟨rfl, HWX.out.trans (hb9.out.mono HWX.out.size)⟩
end Go.Proofs.Ytnbinejghkhcjaa.Fu
