/- What is the same is told to be the same: the reference's comparisons, of what reads alike. -/
import Derived.Test.YtnbinejghkhcjaaFs
namespace Go.Proofs.Ytnbinejghkhcjaa.Fu
open Go.RowKit
set_option linter.unusedVariables false
set_option linter.unusedSimpArgs false
set_option maxHeartbeats 4000000
section
variable {w : World} {A : Nat → Prop} {v : Value}
theorem names_same {l : List ByteArray} (h : Strs w A v l) : Calls Try.prog 23 #[v, v] w fun e w' => e = .returned (.bool true) ∧ Below w.heap.size w w' := by
  obtain ⟨a, cap, rfl, h2, h3⟩ := Row.any h
  have hu : cap ≤ 9223372036854775807 := by unfold maxLen at h3; exact h3
  have HR := Lib.hid h
  clear h
  obtain ⟨n, hn⟩ : ∃ n, l.length = n := ⟨_, rfl⟩
  rw [hn] at h2 ⊢
  have HN := Lib.hid hn
  clear hn
  go_enter Try.func23, Try.ntmps23
  go_wp2
  go_loopw [5] (fun i wr => ∃ k : Nat, i = .int .i64 k ∧ k ≤ n ∧ Hid (Below w.heap.size w wr)) (fun i _ => n - (intOf i).toNat)
  case atStart => exact ⟨0, rfl, Nat.zero_le _, Lib.hid (Below.refl _ _)⟩
  case round =>
    obtain ⟨k, rfl, hk, HW⟩ := hrel
    by_cases hlt : k < n
    · have hkl : k < l.length := by rw [HN.out]; exact hlt
      obtain ⟨b, off, cap', he, _, _, _, _, hc⟩ := Row.form (HR.out.stay (Stay.below HW.out)) (by omega)
      simp only [Value.slice.injEq, true_and] at he
      obtain ⟨rfl, rfl, rfl⟩ := he
      obtain ⟨x, hx⟩ : ∃ x, l[k]? = some x := ⟨_, getE hkl⟩
      have c1 : wr.cell? ⟨b, off + k, none⟩ = some (.string x) := by
        have := hc k (by omega)
        simpa [hx] using this
      have ht : (x.toList == x.toList) = true := by simp
      have hl1 : (0 : Int) ≤ (k : Int) := by omega
      have hl2 : (k : Int) < (n : Int) := by omega
      clear hc hx
      go_wp2
      go_quiet (fail)
      go_wp2
      go_roundw
      case rel => exact ⟨k + 1, by simp, by omega, Lib.hid (HW.out.trans (below_drewN _ _ _))⟩
      case measure => simp [intOf]; omega
    · go_wp2
      go_ret
      exact ⟨rfl, HW.out⟩
theorem XL_get {l : List Ex} : ∀ {cs : List Value} (i : Nat) (e : Ex), XL w A l cs → l[i]? = some e → ∃ c, c.length = 5 ∧ (∀ j, j < 5 → cs[i * 5 + j]? = c[j]?) ∧ XE w A e c := by
  induction l with
  | nil => intro cs i e h hi; simp at hi
  | cons x r ih =>
    intro cs i e h hi
    simp only [XL] at h
    obtain ⟨c1, c2, rfl, h1, h2⟩ := h
    have hl : c1.length = 5 := by
      obtain ⟨op, name, n, cons, kids⟩ := x
      simp only [XE] at h1
      obtain ⟨vc, vk, rfl, _⟩ := h1
      rfl
    cases i with
    | zero =>
      simp at hi; subst hi
      exact ⟨c1, hl, fun j hj => by rw [List.getElem?_append_left (by omega)]; congr 1; omega, h1⟩
    | succ i =>
      obtain ⟨c, q1, q2, q3⟩ := ih i e h2 (by simpa using hi)
      refine ⟨c, q1, fun j hj => ?_, q3⟩
      rw [List.getElem?_append_right (by omega), hl]
      rw [← q2 j hj]
      congr 1; omega
theorem szL_mem {e : Ex} {l : List Ex} (h : e ∈ l) : szE e ≤ szL l := by
  induction l with
  | nil => cases h
  | cons x r ih =>
    simp only [szL]
    rcases List.mem_cons.mp h with q | q
    · subst q; omega
    · have := ih q; omega
/-- A row of expressions, one of them in memory. -/
theorem VL.get {l : List Ex} (h : VL w A v l) (i : Nat) (e : Ex) (hi : l[i]? = some e) : ∃ b off cap op name n vc vk cons kids, v = .slice (some ⟨b, off, none⟩) l.length cap ∧ l.length ≤ cap ∧ cap ≤ maxLen ∧ b < w.heap.size ∧ e = .mk op name n cons kids ∧
    w.cell? ⟨b, off + i * 5, none⟩ = some (.int .i64 op) ∧ w.cell? ⟨b, off + i * 5 + 1, none⟩ = some (.string name) ∧ w.cell? ⟨b, off + i * 5 + 2, none⟩ = some (.int .i64 n) ∧ w.cell? ⟨b, off + i * 5 + 3, none⟩ = some vc ∧ w.cell? ⟨b, off + i * 5 + 4, none⟩ = some vk ∧ XE w A e [.int .i64 op, .string name, .int .i64 n, vc, vk] := by
  obtain ⟨row, h1, h2⟩ := h
  have hil : i < l.length := (List.getElem?_eq_some_iff.1 hi).1
  obtain ⟨b, off, cap, hv, q1, q2, q3, q4, q5⟩ := h1.form (by omega)
  obtain ⟨c, e1, e2, e3⟩ := XL_get i e h2 hi
  obtain ⟨op, name, n, cons, kids⟩ := e
  have hx := e3
  simp only [XE] at e3
  obtain ⟨vc, vk, rfl, _⟩ := e3
  have hg : ∀ j, j < 5 → w.cell? ⟨b, off + i * 5 + j, none⟩ = [Value.int .i64 op, .string name, .int .i64 n, vc, vk][j]? := fun j hj => by rw [Nat.add_assoc]; exact (q5 (i * 5 + j) (by omega)).trans (e2 j hj)
  exact ⟨b, off, cap, op, name, n, vc, vk, cons, kids, hv, q1, q2, q4, rfl, hg 0 (by decide), hg 1 (by decide), hg 2 (by decide), hg 3 (by decide), hg 4 (by decide), hx⟩
def ExprC (k : Nat) : Prop := ∀ (e : Ex) (w : World) (A : Nat → Prop) (cs : List Value), szE e < k → XE w A e cs → Calls Try.prog 24 #[.agg cs.toArray, .agg cs.toArray] w fun e w' => e = .returned (.bool true) ∧ Below w.heap.size w w'
theorem expr_step {k : Nat} (ih : ExprC k) : ExprC (k + 1) := by
  intro e w A cs hk h
  obtain ⟨op, name, n, cons, kids⟩ := e
  simp only [XE] at h
  obtain ⟨vc, vk, rfl, h1, row, h2, h3⟩ := h
  have hvl : VL w A vk kids := ⟨row, h2, h3⟩
  have hbel : Below w.heap.size w ((w.alloc (.cells #[.int .i64 op, .string name, .int .i64 n, vc, vk] 35)).alloc (.cells #[.int .i64 op, .string name, .int .i64 n, vc, vk] 35)) := ((Below.refl _ _).alloc (Nat.le_refl _) _).alloc (by simp) _
  have hq := names_same (h1.stay (Stay.below hbel))
  obtain ⟨ak, ck, rfl, hc1, hc2⟩ := h2.any
  obtain ⟨ac, cc, rfl, _, _⟩ := Row.any h1
  have hc3 : ck ≤ 9223372036854775807 := by unfold maxLen at hc2; exact hc2
  obtain ⟨nk, hnk⟩ : ∃ nk, kids.length = nk := ⟨_, rfl⟩
  obtain ⟨nc, hnc⟩ : ∃ nc, cons.length = nc := ⟨_, rfl⟩
  rw [hnk] at hc1 hvl hbel hq ⊢
  rw [hnc] at hbel hq ⊢
  have hsz : szL kids < k := by simp only [szE] at hk; omega
  have ht : (name.toList == name.toList) = true := by simp
  obtain ⟨wb, hwb⟩ : ∃ wb, (w.alloc (.cells #[.int .i64 op, .string name, .int .i64 n, .slice ac nc cc, .slice ak nk ck] 35)).alloc (.cells #[.int .i64 op, .string name, .int .i64 n, .slice ac nc cc, .slice ak nk ck] 35) = wb := ⟨_, rfl⟩
  have hp1 : wb.cell? ⟨w.heap.size, 4, none⟩ = some (.slice ak nk ck) := by
    rw [← hwb, cell_of_row _ w.heap.size 4 _ 35 (0, 0) ((Below.heap_alloc _ _ _ (by simp)).trans (heap_alloc_new w _))]; rfl
  have hp2 : wb.cell? ⟨w.heap.size + 1, 4, none⟩ = some (.slice ak nk ck) := by
    have := heap_alloc_new (w.alloc (.cells #[.int .i64 op, .string name, .int .i64 n, .slice ac nc cc, .slice ak nk ck] 35)) (.cells #[.int .i64 op, .string name, .int .i64 n, .slice ac nc cc, .slice ak nk ck] 35)
    have e : (w.alloc (.cells #[.int .i64 op, .string name, .int .i64 n, .slice ac nc cc, .slice ak nk ck] 35)).heap.size = w.heap.size + 1 := by simp
    rw [e] at this
    rw [← hwb, cell_of_row _ (w.heap.size + 1) 4 _ 35 (0, 0) this]; rfl
  rw [hwb] at hbel hq
  have HVL := Lib.hid (hvl.stay (Stay.below hbel))
  have HB := Lib.hid hbel
  have HP := Lib.hid (And.intro hp1 hp2)
  have HK := Lib.hid (And.intro hsz hnk)
  have IH := Lib.hid ih
  have HWB := Lib.hid hwb
  clear h1 h2 h3 hvl hbel hk hsz hnk hnc ih hp1 hp2 hwb hc2
  go_enter Try.func24, Try.ntmps24
  go_wp2_with (go_at_call 23; rw [HWB.out]; (with_reducible refine hq.mono ?_); rintro e w1 ⟨rfl, hb1⟩; have p1 := (World.cell?_of_block (a := ⟨w.heap.size, 4, none⟩) (hb1.block _ (World.block_lt_of_cell? wb _ HP.out.1))).trans HP.out.1; have p2 := (World.cell?_of_block (a := ⟨w.heap.size + 1, 4, none⟩) (hb1.block _ (World.block_lt_of_cell? wb _ HP.out.2))).trans HP.out.2; replace hb1 := Lib.hid hb1)
  clear p1 p2
  go_loopw [5] (fun i wr => ∃ j : Nat, i = .int .i64 j ∧ j ≤ nk ∧ Hid (Below wb.heap.size wb wr)) (fun i _ => nk - (intOf i).toNat)
  case atStart => exact ⟨0, rfl, Nat.zero_le _, hb1⟩
  case round =>
    obtain ⟨j, rfl, hj, HW⟩ := hrel
    have p1 := (World.cell?_of_block (a := ⟨w.heap.size, 4, none⟩) (HW.out.block _ (World.block_lt_of_cell? wb _ HP.out.1))).trans HP.out.1
    have p2 := (World.cell?_of_block (a := ⟨w.heap.size + 1, 4, none⟩) (HW.out.block _ (World.block_lt_of_cell? wb _ HP.out.2))).trans HP.out.2
    by_cases hlt : j < nk
    · obtain ⟨t, ht2⟩ : ∃ t, kids[j]? = some t := ⟨_, getE (by rw [HK.out.2]; exact hlt)⟩
      obtain ⟨b, off, cap, op2, name2, n2, vc2, vk2, cons2, kids2, he, _, _, hbl, e2, c0, c1, c2, c3, c4, hx⟩ := VL.get (HVL.out.stay (Stay.below HW.out)) j t ht2
      simp only [Value.slice.injEq] at he
      obtain ⟨rfl, -, rfl⟩ := he
      have hsz : szE t < k := Nat.lt_of_le_of_lt (szL_mem (List.mem_of_getElem? ht2)) HK.out.1
      have hcl : ∀ w', Below wr.heap.size wr w' → Calls Try.prog 24 #[.agg #[.int .i64 op2, .string name2, .int .i64 n2, vc2, vk2], .agg #[.int .i64 op2, .string name2, .int .i64 n2, vc2, vk2]] w' fun e w'' => e = .returned (.bool true) ∧ Below w'.heap.size w' w'' :=
        fun w' hb => IH.out t w' A _ hsz (XE.stay (Stay.below hb) _ _ hx)
      obtain ⟨ac2, nc2, cc2, rfl⟩ : ∃ a n c, vc2 = .slice a n c := by
        rw [e2] at hx; simp only [XE] at hx; obtain ⟨_, _, q, q1, _⟩ := hx; simp at q; rw [q.1]; obtain ⟨a, c, q, _⟩ := Row.any q1; exact ⟨a, _, c, q⟩
      obtain ⟨ak2, nk2, ck2, rfl⟩ : ∃ a n c, vk2 = .slice a n c := by
        rw [e2] at hx; simp only [XE] at hx; obtain ⟨_, _, q, _, row, q1, _⟩ := hx; simp at q; rw [q.2]; obtain ⟨a, c, q, _⟩ := Row.any q1; exact ⟨a, _, c, q⟩
      have hl1 : (0 : Int) ≤ (j : Int) := by omega
      have hl2 : (j : Int) < (nk : Int) := by omega
      have hSS : ∀ w', Below wr.heap.size wr w' → w'.cell? ⟨w.heap.size, 4, none⟩ = some (.slice (some ⟨b, off, none⟩) nk ck) ∧ w'.cell? ⟨w.heap.size + 1, 4, none⟩ = some (.slice (some ⟨b, off, none⟩) nk ck) ∧ w'.cell? ⟨b, off + j * 5, none⟩ = some (.int .i64 op2) ∧ w'.cell? ⟨b, off + j * 5 + 1, none⟩ = some (.string name2) ∧ w'.cell? ⟨b, off + j * 5 + 2, none⟩ = some (.int .i64 n2) ∧ w'.cell? ⟨b, off + j * 5 + 3, none⟩ = some (.slice ac2 nc2 cc2) ∧ w'.cell? ⟨b, off + j * 5 + 4, none⟩ = some (.slice ak2 nk2 ck2) :=
        fun w' hb => ⟨(World.cell?_of_block (hb.block _ (World.block_lt_of_cell? wr _ p1))).trans p1, (World.cell?_of_block (hb.block _ (World.block_lt_of_cell? wr _ p2))).trans p2, (World.cell?_of_block (hb.block _ hbl)).trans c0, (World.cell?_of_block (hb.block _ hbl)).trans c1, (World.cell?_of_block (hb.block _ hbl)).trans c2, (World.cell?_of_block (hb.block _ hbl)).trans c3, (World.cell?_of_block (hb.block _ hbl)).trans c4⟩
      have hc2 := hcl _ ((Below.refl wr.heap.size wr).drew)
      clear e2 ht2 hx hsz
      go_wp2
      go_region_held3 (fun w' => w'.cell? ⟨w.heap.size, 4, none⟩ = some (.slice (some ⟨b, off, none⟩) nk ck) ∧ w'.cell? ⟨w.heap.size + 1, 4, none⟩ = some (.slice (some ⟨b, off, none⟩) nk ck) ∧ w'.cell? ⟨b, off + j * 5, none⟩ = some (.int .i64 op2) ∧ w'.cell? ⟨b, off + j * 5 + 1, none⟩ = some (.string name2) ∧ w'.cell? ⟨b, off + j * 5 + 2, none⟩ = some (.int .i64 n2) ∧ w'.cell? ⟨b, off + j * 5 + 3, none⟩ = some (.slice ac2 nc2 cc2) ∧ w'.cell? ⟨b, off + j * 5 + 4, none⟩ = some (.slice ak2 nk2 ck2))
        (first | (exact hS2) | (exact hSS _ (Below.refl _ _)) | (exact hSS _ ((Below.refl wr.heap.size wr).drew)))
        (first
          | (go_at_call 24
             (first | (with_reducible refine hc2.mono ?_) | (refine hc2.mono ?_))
             rintro e w3 ⟨rfl, hb3⟩
             have hb3' : Below wr.heap.size wr w3 := ((Below.refl wr.heap.size wr).drew).trans hb3
             have hS2 := hSS w3 hb3')
          | fail)
      have HW3 : Hid (Below wb.heap.size wb w3) := Lib.hid (HW.out.trans (hb3'.mono HW.out.size))
      clear hb3' hb3 hSS hc2 hcl p1 p2 c0 c1 c2 c3 c4 hS2
      go_wp2
      go_roundw
      case rel => exact ⟨j + 1, by simp, by omega, HW3⟩
      case measure => simp [intOf]; omega
    · go_wp2
      go_ret
      exact ⟨rfl, HB.out.trans (HW.out.mono HB.out.size)⟩
theorem expr_all : ∀ k, ExprC k
  | 0 => fun e w A cs h => absurd h (Nat.not_lt_zero _)
  | k + 1 => expr_step (expr_all k)
theorem expr_same {e : Ex} {cs : List Value} (h : XE w A e cs) : Calls Try.prog 24 #[.agg cs.toArray, .agg cs.toArray] w fun e w' => e = .returned (.bool true) ∧ Below w.heap.size w w' := expr_all _ e w A cs (Nat.lt_succ_self _) h
theorem args_same {l : List Ex} (h : VL w A v l) : Calls Try.prog 25 #[v, v] w fun e w' => e = .returned (.bool true) ∧ Below w.heap.size w w' := by
  have hvl := h
  obtain ⟨row, h1, h2⟩ := h
  obtain ⟨a, cap, rfl, h2, h3⟩ := h1.any
  have hu : cap ≤ 9223372036854775807 := by unfold maxLen at h3; exact h3
  have HR := Lib.hid hvl
  clear h1 hvl
  obtain ⟨n, hn⟩ : ∃ n, l.length = n := ⟨_, rfl⟩
  rw [hn] at h2 ⊢
  have HN := Lib.hid hn
  clear hn
  go_enter Try.func25, Try.ntmps25
  go_wp2
  go_loopw [5] (fun i wr => ∃ k : Nat, i = .int .i64 k ∧ k ≤ n ∧ Hid (Below w.heap.size w wr)) (fun i _ => n - (intOf i).toNat)
  case atStart => exact ⟨0, rfl, Nat.zero_le _, Lib.hid (Below.refl _ _)⟩
  case round =>
    obtain ⟨k, rfl, hk, HW⟩ := hrel
    by_cases hlt : k < n
    · obtain ⟨t, ht2⟩ : ∃ t, l[k]? = some t := ⟨_, getE (by rw [HN.out]; exact hlt)⟩
      obtain ⟨b, off, cap', op2, name2, n2, vc2, vk2, cons2, kids2, he, _, _, hbl, e2, c0, c1, c2, c3, c4, hx⟩ := VL.get (HR.out.stay (Stay.below HW.out)) k t ht2
      simp only [Value.slice.injEq, true_and] at he
      obtain ⟨rfl, -, rfl⟩ := he
      have hcl : ∀ w', Below wr.heap.size wr w' → Calls Try.prog 24 #[.agg #[.int .i64 op2, .string name2, .int .i64 n2, vc2, vk2], .agg #[.int .i64 op2, .string name2, .int .i64 n2, vc2, vk2]] w' fun e w'' => e = .returned (.bool true) ∧ Below w'.heap.size w' w'' :=
        fun w' hb => expr_same (XE.stay (Stay.below hb) _ _ hx)
      obtain ⟨ac2, nc2, cc2, rfl⟩ : ∃ a n c, vc2 = .slice a n c := by
        rw [e2] at hx; simp only [XE] at hx; obtain ⟨_, _, q, q1, _⟩ := hx; simp at q; rw [q.1]; obtain ⟨a, c, q, _⟩ := Row.any q1; exact ⟨a, _, c, q⟩
      obtain ⟨ak2, nk2, ck2, rfl⟩ : ∃ a n c, vk2 = .slice a n c := by
        rw [e2] at hx; simp only [XE] at hx; obtain ⟨_, _, q, _, row, q1, _⟩ := hx; simp at q; rw [q.2]; obtain ⟨a, c, q, _⟩ := Row.any q1; exact ⟨a, _, c, q⟩
      have hl1 : (0 : Int) ≤ (k : Int) := by omega
      have hl2 : (k : Int) < (n : Int) := by omega
      have hSS : ∀ w', Below wr.heap.size wr w' → w'.cell? ⟨b, off + k * 5, none⟩ = some (.int .i64 op2) ∧ w'.cell? ⟨b, off + k * 5 + 1, none⟩ = some (.string name2) ∧ w'.cell? ⟨b, off + k * 5 + 2, none⟩ = some (.int .i64 n2) ∧ w'.cell? ⟨b, off + k * 5 + 3, none⟩ = some (.slice ac2 nc2 cc2) ∧ w'.cell? ⟨b, off + k * 5 + 4, none⟩ = some (.slice ak2 nk2 ck2) :=
        fun w' hb => ⟨(World.cell?_of_block (hb.block _ hbl)).trans c0, (World.cell?_of_block (hb.block _ hbl)).trans c1, (World.cell?_of_block (hb.block _ hbl)).trans c2, (World.cell?_of_block (hb.block _ hbl)).trans c3, (World.cell?_of_block (hb.block _ hbl)).trans c4⟩
      have hc2 := hcl _ ((Below.refl wr.heap.size wr).drew)
      clear e2 ht2 hx
      go_wp2
      go_region_held3 (fun w' => w'.cell? ⟨b, off + k * 5, none⟩ = some (.int .i64 op2) ∧ w'.cell? ⟨b, off + k * 5 + 1, none⟩ = some (.string name2) ∧ w'.cell? ⟨b, off + k * 5 + 2, none⟩ = some (.int .i64 n2) ∧ w'.cell? ⟨b, off + k * 5 + 3, none⟩ = some (.slice ac2 nc2 cc2) ∧ w'.cell? ⟨b, off + k * 5 + 4, none⟩ = some (.slice ak2 nk2 ck2))
        (first | (exact hS2) | (exact hSS _ (Below.refl _ _)) | (exact hSS _ ((Below.refl wr.heap.size wr).drew)))
        (first
          | (go_at_call 24
             (first | (with_reducible refine hc2.mono ?_) | (refine hc2.mono ?_))
             rintro e w3 ⟨rfl, hb3⟩
             have hb3' : Below wr.heap.size wr w3 := ((Below.refl wr.heap.size wr).drew).trans hb3
             have hS2 := hSS w3 hb3')
          | fail)
      have HW3 : Hid (Below w.heap.size w w3) := Lib.hid (HW.out.trans (hb3'.mono HW.out.size))
      clear hb3' hb3 hSS hc2 hcl c0 c1 c2 c3 c4 hS2
      go_wp2
      go_roundw
      case rel => exact ⟨k + 1, by simp, by omega, HW3⟩
      case measure => simp [intOf]; omega
    · go_wp2
      go_ret
      exact ⟨rfl, HW.out⟩
end
end Go.Proofs.Ytnbinejghkhcjaa.Fu
