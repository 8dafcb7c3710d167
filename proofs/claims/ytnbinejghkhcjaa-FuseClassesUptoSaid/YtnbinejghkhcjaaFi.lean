/- The law's own example comes out as it should. -/
import Derived.Test.YtnbinejghkhcjaaFg
import Derived.Test.YtnbinejghkhcjaaFh
namespace Go.Proofs.Ytnbinejghkhcjaa.Fu
open Go.RowKit
set_option linter.unusedVariables false
set_option linter.unusedSimpArgs false
set_option maxHeartbeats 4000000

theorem fuse_all : ∀ k, FuseC k
  | 0 => fun l w A v h => absurd h (Nat.not_lt_zero _)
  | k + 1 => fuse_step (fuse_all k)
/-- One of the example's guards, laid. -/
theorem onSet_any {W w : World} {g : Nat} {con nm : ByteArray} (hW : W.heap.size ≤ w.heap.size) (hg : W.heap.size ≤ g) (hc : w.heap[g]? = some (.cells (rawS (setHd nm) (.slice none 0 0)).toArray 38 (0, 0))) :
    Calls Try.prog 20 #[.string con, .slice (some ⟨g, 0, none⟩) 1 1] w fun e w' => ∃ a, e = .returned (.agg #[.int .i64 5, .string ⟨#[99]⟩, .slice none 0 0, .int .i64 0, .int .i64 0, .string ⟨#[]⟩, .int .i64 0, .slice none 0 0, .slice none 0 0, .slice none 0 0, .slice (some ⟨a, 0, none⟩) 1 1]) ∧ Below w.heap.size w w' ∧ VA w' (fun b => W.heap.size ≤ b) (.slice (some ⟨a, 0, none⟩) 1 1) [.mk con [.mk (setHd nm) []]] := by
  refine (on_any w con _ _ _).mono ?_
  rintro e w' ⟨a, rfl, ha, hcell, hb⟩
  have hgl := (Array.getElem?_eq_some_iff.1 hc).1
  exact ⟨a, rfl, hb, VA.single hcell (Nat.le_trans hW ha) (VB.one ((hb.block g hgl).trans hc) hg (setHd_ok _ _ _) (VA.nil _ _))⟩
theorem VB.block {w : World} {A : Nat → Prop} {g n : Nat} {cs : List Value} {l : List Stm} (hg : w.heap[g]? = some (.cells cs.toArray 38 (0, 0))) (hA : A g) (hn : l.length = n) (hm : n ≤ maxLen) (h : EB w A l cs) : VB w A (.slice (some ⟨g, 0, none⟩) n n) l := by
  subst hn
  refine ⟨cs, ⟨h.len, _, _, rfl, Nat.le_refl _, hm, fun _ => ⟨g, 0, rfl, hA, (Array.getElem?_eq_some_iff.1 hg).1, fun j hj => ?_⟩, fun e => by cases e⟩, h⟩
  rw [Nat.zero_add, cell_of_row w g j _ 38 (0, 0) hg]
  simp
theorem exF_sets (nm : ByteArray) : setsB nm exF = (decide ((⟨#[120]⟩ : ByteArray) = nm) || decide ((⟨#[121]⟩ : ByteArray) = nm) || decide ((⟨#[99]⟩ : ByteArray) = nm) || decide ((⟨#[122]⟩ : ByteArray) = nm)) := by
  simp [exF, onSet, setsB, setsS, setsA, setsR, caseHd, setHd, onHd, Bool.or_assoc]
set_option maxRecDepth 100000 in
theorem lives_any (W : World) : Calls Try.prog 9 #[] W fun e w' => e = .returned (.bool true) ∧ Below W.heap.size W w' := by
  obtain ⟨w0, hw0⟩ : ∃ w0, W = w0 := ⟨_, rfl⟩
  have HB0 : Hid (Below W.heap.size W w0) := Lib.hid (by rw [← hw0]; exact Below.refl _ _)
  have HW := Lib.hid hw0
  rw [hw0]
  clear hw0
  go_enter Try.func9, Try.ntmps9
  go_wp2_with (first
    | (go_at_call 21
       with_reducible refine (set_any w0 ⟨#[120]⟩).mono ?_
       rintro e w1 ⟨rfl, hb1⟩
       replace hb1 := Lib.hid hb1)
    | (go_at_call 20
       with_reducible refine (onSet_any (W := W) (g := w1.heap.size) (con := ⟨#[65]⟩) (nm := ⟨#[120]⟩) (w := w1.alloc (.cells #[.int .i64 1, .string ⟨#[120]⟩, .slice none 0 0, .int .i64 0, .int .i64 1, .string ⟨#[]⟩, .int .i64 1, .slice none 0 0, .slice none 0 0, .slice none 0 0, .slice none 0 0] 38)) (Nat.le_trans HB0.out.size (Nat.le_trans hb1.out.size (by simp))) (Nat.le_trans HB0.out.size hb1.out.size) (heap_alloc_new w1 _)).mono ?_
       rintro e w2 ⟨a0, rfl, hb2, hv0⟩
       have HS0 : Hid (Below w0.heap.size w0 w2) := Lib.hid ((hb1.out.alloc hb1.out.size _).trans (hb2.mono (Nat.le_trans hb1.out.size (by simp))))
       have HB2 : Hid (Below W.heap.size W w2) := Lib.hid (HB0.out.trans (HS0.out.mono HB0.out.size))
       replace hv0 := Lib.hid hv0
       clear hb2)
    | (go_at_call 21
       with_reducible refine (set_any w2 ⟨#[121]⟩).mono ?_
       rintro e w3 ⟨rfl, hb3⟩
       replace hb3 := Lib.hid hb3)
    | (go_at_call 20
       with_reducible refine (onSet_any (W := W) (g := w3.heap.size) (con := ⟨#[65]⟩) (nm := ⟨#[121]⟩) (w := w3.alloc (.cells #[.int .i64 1, .string ⟨#[121]⟩, .slice none 0 0, .int .i64 0, .int .i64 1, .string ⟨#[]⟩, .int .i64 1, .slice none 0 0, .slice none 0 0, .slice none 0 0, .slice none 0 0] 38)) (Nat.le_trans HB2.out.size (Nat.le_trans hb3.out.size (by simp))) (Nat.le_trans HB2.out.size hb3.out.size) (heap_alloc_new w3 _)).mono ?_
       rintro e w4 ⟨a1, rfl, hb4, hv1⟩
       have HS1 : Hid (Below w2.heap.size w2 w4) := Lib.hid ((hb3.out.alloc hb3.out.size _).trans (hb4.mono (Nat.le_trans hb3.out.size (by simp))))
       have HB4 : Hid (Below W.heap.size W w4) := Lib.hid (HB2.out.trans (HS1.out.mono HB2.out.size))
       replace hv1 := Lib.hid hv1
       clear hb4)
    | (go_at_call 21
       with_reducible refine (set_any w4 ⟨#[99]⟩).mono ?_
       rintro e w5 ⟨rfl, hb5⟩
       replace hb5 := Lib.hid hb5)
    | (go_at_call 20
       with_reducible refine (onSet_any (W := W) (g := w5.heap.size) (con := ⟨#[66]⟩) (nm := ⟨#[99]⟩) (w := w5.alloc (.cells #[.int .i64 1, .string ⟨#[99]⟩, .slice none 0 0, .int .i64 0, .int .i64 1, .string ⟨#[]⟩, .int .i64 1, .slice none 0 0, .slice none 0 0, .slice none 0 0, .slice none 0 0] 38)) (Nat.le_trans HB4.out.size (Nat.le_trans hb5.out.size (by simp))) (Nat.le_trans HB4.out.size hb5.out.size) (heap_alloc_new w5 _)).mono ?_
       rintro e w6 ⟨a2, rfl, hb6, hv2⟩
       have HS2 : Hid (Below w4.heap.size w4 w6) := Lib.hid ((hb5.out.alloc hb5.out.size _).trans (hb6.mono (Nat.le_trans hb5.out.size (by simp))))
       have HB6 : Hid (Below W.heap.size W w6) := Lib.hid (HB4.out.trans (HS2.out.mono HB4.out.size))
       replace hv2 := Lib.hid hv2
       clear hb6)
    | (go_at_call 21
       with_reducible refine (set_any w6 ⟨#[122]⟩).mono ?_
       rintro e w7 ⟨rfl, hb7⟩
       replace hb7 := Lib.hid hb7)
    | (go_at_call 20
       with_reducible refine (onSet_any (W := W) (g := w7.heap.size) (con := ⟨#[65]⟩) (nm := ⟨#[122]⟩) (w := w7.alloc (.cells #[.int .i64 1, .string ⟨#[122]⟩, .slice none 0 0, .int .i64 0, .int .i64 1, .string ⟨#[]⟩, .int .i64 1, .slice none 0 0, .slice none 0 0, .slice none 0 0, .slice none 0 0] 38)) (Nat.le_trans HB6.out.size (Nat.le_trans hb7.out.size (by simp))) (Nat.le_trans HB6.out.size hb7.out.size) (heap_alloc_new w7 _)).mono ?_
       rintro e w8 ⟨a3, rfl, hb8, hv3⟩
       have HS3 : Hid (Below w6.heap.size w6 w8) := Lib.hid ((hb7.out.alloc hb7.out.size _).trans (hb8.mono (Nat.le_trans hb7.out.size (by simp))))
       have HB8 : Hid (Below W.heap.size W w8) := Lib.hid (HB6.out.trans (HS3.out.mono HB6.out.size))
       replace hv3 := Lib.hid hv3
       clear hb8)
    | (go_at_call 13
       have hbn : Below w8.heap.size w8 (w8.alloc (.cells #[.int .i64 5, .string ⟨#[99]⟩, .slice none 0 0, .int .i64 0, .int .i64 0, .string ⟨#[]⟩, .int .i64 0, .slice none 0 0, .slice none 0 0, .slice none 0 0, .slice (some ⟨a0, 0, none⟩) 1 1, .int .i64 5, .string ⟨#[99]⟩, .slice none 0 0, .int .i64 0, .int .i64 0, .string ⟨#[]⟩, .int .i64 0, .slice none 0 0, .slice none 0 0, .slice none 0 0, .slice (some ⟨a1, 0, none⟩) 1 1, .int .i64 5, .string ⟨#[99]⟩, .slice none 0 0, .int .i64 0, .int .i64 0, .string ⟨#[]⟩, .int .i64 0, .slice none 0 0, .slice none 0 0, .slice none 0 0, .slice (some ⟨a2, 0, none⟩) 1 1, .int .i64 5, .string ⟨#[99]⟩, .slice none 0 0, .int .i64 0, .int .i64 0, .string ⟨#[]⟩, .int .i64 0, .slice none 0 0, .slice none 0 0, .slice none 0 0, .slice (some ⟨a3, 0, none⟩) 1 1] 38)) := (Below.refl _ _).alloc (Nat.le_refl _) _
       have H1 : VA w8 (fun b => W.heap.size ≤ b) (.slice (some ⟨a0, 0, none⟩) 1 1) [.mk ⟨#[65]⟩ [.mk (setHd ⟨#[120]⟩) []]] := hv0.out.stay (Stay.below (HS1.out.trans ((HS2.out.trans (HS3.out.mono HS2.out.size)).mono HS1.out.size)))
       have H2 : VA w8 (fun b => W.heap.size ≤ b) (.slice (some ⟨a1, 0, none⟩) 1 1) [.mk ⟨#[65]⟩ [.mk (setHd ⟨#[121]⟩) []]] := hv1.out.stay (Stay.below (HS2.out.trans (HS3.out.mono HS2.out.size)))
       have H3 : VA w8 (fun b => W.heap.size ≤ b) (.slice (some ⟨a2, 0, none⟩) 1 1) [.mk ⟨#[66]⟩ [.mk (setHd ⟨#[99]⟩) []]] := hv2.out.stay (Stay.below HS3.out)
       have H4 := hv3.out
       have hvb : VB (w8.alloc (.cells #[.int .i64 5, .string ⟨#[99]⟩, .slice none 0 0, .int .i64 0, .int .i64 0, .string ⟨#[]⟩, .int .i64 0, .slice none 0 0, .slice none 0 0, .slice none 0 0, .slice (some ⟨a0, 0, none⟩) 1 1, .int .i64 5, .string ⟨#[99]⟩, .slice none 0 0, .int .i64 0, .int .i64 0, .string ⟨#[]⟩, .int .i64 0, .slice none 0 0, .slice none 0 0, .slice none 0 0, .slice (some ⟨a1, 0, none⟩) 1 1, .int .i64 5, .string ⟨#[99]⟩, .slice none 0 0, .int .i64 0, .int .i64 0, .string ⟨#[]⟩, .int .i64 0, .slice none 0 0, .slice none 0 0, .slice none 0 0, .slice (some ⟨a2, 0, none⟩) 1 1, .int .i64 5, .string ⟨#[99]⟩, .slice none 0 0, .int .i64 0, .int .i64 0, .string ⟨#[]⟩, .int .i64 0, .slice none 0 0, .slice none 0 0, .slice none 0 0, .slice (some ⟨a3, 0, none⟩) 1 1] 38)) (fun b => W.heap.size ≤ b) (.slice (some ⟨w8.heap.size, 0, none⟩) 4 4) exL := by
         refine VB.block (cs := rawS onHd (.slice (some ⟨a0, 0, none⟩) 1 1) ++ (rawS onHd (.slice (some ⟨a1, 0, none⟩) 1 1) ++ (rawS onHd (.slice (some ⟨a2, 0, none⟩) 1 1) ++ (rawS onHd (.slice (some ⟨a3, 0, none⟩) 1 1) ++ [])))) (heap_alloc_new w8 _) HB8.out.size rfl (by decide) ?_
         simp only [exL, onSet, EB]
         exact ⟨_, _, rfl, (ES_iff _ _).mpr ⟨_, rfl, onHd_ok _ _, H1.stay (Stay.below hbn)⟩, _, _, rfl, (ES_iff _ _).mpr ⟨_, rfl, onHd_ok _ _, H2.stay (Stay.below hbn)⟩, _, _, rfl, (ES_iff _ _).mpr ⟨_, rfl, onHd_ok _ _, H3.stay (Stay.below hbn)⟩, _, _, rfl, (ES_iff _ _).mpr ⟨_, rfl, onHd_ok _ _, H4.stay (Stay.below hbn)⟩, rfl⟩
       refine (fuse_all 13 exL _ _ _ (by rw [exL_size]; decide) (by rw [exL_size]; decide) hvb).mono ?_
       rintro e w9 ⟨v9, rfl, hv9, hb9⟩
       rw [exF_eq] at hv9
       have HB9 : Hid (Below W.heap.size W w9) := Lib.hid ((HB8.out.trans (hbn.mono HB8.out.size)).trans (hb9.mono (Nat.le_trans HB8.out.size (by simp))))
       obtain ⟨b, off, cap, u, rfl, hc1, hc2, hA1, hbl, hat, hho, hva⟩ := hv9.get 0 _ rfl
       obtain ⟨b2, off2, cap2, u2, rfl, hc3, hc4, hA2, hbl2, hd1, hd2, hvb2⟩ := hva.get 0 _ rfl
       obtain ⟨a3', cap3, rfl, hc5, hc6⟩ := hvb2.any
       have c10 : w9.cell? ⟨b, off + 10, none⟩ = some (.slice (some ⟨b2, off2, none⟩) 2 cap2) := hat.c10
       have d2 : w9.cell? ⟨b2, off2 + 1, none⟩ = some (.slice a3' 2 cap3) := hd2
       have e2 : exF.length = 2 := rfl
       rw [e2] at hv9 ⊢
       have hc1' : 2 ≤ cap := hc1
       have hc3' : 2 ≤ cap2 := hc3
       have hc5' : 2 ≤ cap3 := hc5
       have hq1 := sets_any hv9 ⟨#[122]⟩
       rw [show setsB ⟨#[122]⟩ exF = true from rfl] at hq1
       have HV9 := Lib.hid hv9
       clear hbn H1 H2 H3 H4 hvb hv9 hat hho hva hd1 hvb2 hb9 hc1 hc3 hc5 hd2)
    | (go_at_call 16
       with_reducible refine hq1.mono ?_
       rintro e w10 ⟨rfl, hb10⟩
       have hq2 := sets_any (HV9.out.stay (Stay.below hb10)) ⟨#[119]⟩
       rw [show setsB ⟨#[119]⟩ exF = false from rfl] at hq2
       have HB10 : Hid (Below W.heap.size W w10) := Lib.hid (HB9.out.trans (hb10.mono HB9.out.size))
       clear hb10)
    | (go_at_call 16
       with_reducible refine hq2.mono ?_
       rintro e w11 ⟨rfl, hb11⟩
       have HB11 : Hid (Below W.heap.size W w11) := Lib.hid (HB10.out.trans (hb11.mono HB10.out.size))
       clear hb11))
  go_ret
  exact ⟨rfl, by rw [← HW.out]; exact HB11.out⟩
end Go.Proofs.Ytnbinejghkhcjaa.Fu
