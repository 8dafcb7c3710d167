/- The reference's Add and Mark. -/
import Derived.Test.YtdopccbnnmaccaaRa
import Derived.LoopTactic
namespace Go.Proofs.Ytdopccbnnmaccaa.Kn
open Go.RowKit
set_option linter.unusedVariables false
set_option linter.unusedSimpArgs false
set_option maxHeartbeats 2000000

theorem infoz3 : (Try.prog.info? 3).map (fun i => (i.zero, i.size, i.bytes)) = some (some (.int .i64 0), 1, 8) := by kernel_rfl
theorem addr_at (b n : Nat) : (⟨b, 0, none⟩ : Addr).add n = ⟨b, n, none⟩ := by
  unfold Addr.add
  split
  · rename_i h; simp [h]
  · simp
theorem one_new (w : World) (u : Value) (t : TypeId) : ∀ j x, [u][j]? = some x → (w.alloc (.cells #[u] t)).cell? ((⟨w.heap.size, 0, none⟩ : Addr).add j) = some x := by
  intro j x hj
  rw [addr_at, cell_of_row _ _ j #[u] t (0, 0) (heap_alloc_new _ _)]
  simpa using hj

section
variable {w : World} {base mb n : Nat} {vC vM : Value} {C : Nat → Nat} {M : Nat → Int}
theorem radd_any (h : RS w base mb vC vM n C M) (hn : n + 1 ≤ 4398046511104) (hb : base ≤ w.heap.size) :
    Calls Try.prog 16 #[.pointer (some ⟨mb, 0, none⟩)] w fun e w' => e = .returned (.int .i64 (n : Int)) ∧ ∃ vC' vM', RS w' base mb vC' vM' (n + 1) (addC n C) (addM n M) ∧ FrR mb vC.ownBlock vM.ownBlock w w' := by
  obtain ⟨A, B, cC, cM, rfl, rfl, h1, h2, h3, h4⟩ := h.any_forms
  have hp := h.ptrC
  have hp2 := h.ptrM
  have hfz := h.ptr_free 0
  have hfz2 := h.ptr_free 1
  have hown := h.ownC
  have hu : cC ≤ 9223372036854775807 := by unfold maxLen at h3; exact h3
  obtain ⟨i0, hi, hz0, hz1, hz2⟩ := info_parts infoz3
  have HR := Lib.hid h
  clear h
  go_enter Try.func16, Try.ntmps16
  go_wp2_with (at_builtin; go_must (refine wpList_append_lies _ rfl _ _ 35 rfl base 3 i0 (.int .i64 0) 1 8 Try.underlying35 hi hz0 hz1 hz2 rfl (by decide) _ _ _ rfl (hown.alloc _) ⟨w.heap.size, 0, none⟩ 1 1 [.int .i64 (n : Int)] rfl rfl (one_new _ _ _) ?c2 (by decide) ?c3 ?c4 ?c5 (w.heap.size + 1) (by simp) ?_))
  case c2 =>
    intro u hu
    simp only [List.mem_cons, List.not_mem_nil, or_false] at hu
    subst hu; rfl
  case c3 => unfold maxLen; omega
  case c4 => omega
  case c5 => simp; omega
  intro g1 cap1 w1 hown1 hgrow1 hlies1 hlt1
  have hmb : w1.heap[mb]? = some (.cells #[.slice A n cC, .slice B n cM] 37 (0, 0)) := by
    have q2 := HR.out.lt
    rw [hgrow1.block mb (by simp; omega) (by
      intro e
      obtain ⟨cur, hc⟩ := row_block HR.out.ownC mb e.symm
      rw [HR.out.blk] at hc; simp at hc), Below.heap_alloc w _ mb q2]
    exact HR.out.blk
  have hM1 : w1.ownsRow base 3 1 (.slice B n cM) n (mkL n M) := (HR.out.ownM.alloc _).kept hgrow1 (by
    cases hv : (Value.slice B n cM).ownBlock with
    | none => exact Or.inl rfl
    | some g => right; intro e; exact HR.out.ne g e.symm hv)
  have hg1 : g1 ≠ mb := by
    intro e
    subst e
    obtain ⟨cur, hc⟩ := row_block hown1 g1 rfl
    rw [hmb] at hc; simp at hc
  have hne1 : (Value.slice B n cM).ownBlock ≠ some g1 := by
    intro e
    rcases hlies1 with q | q
    · exact HR.out.ne g1 q e
    · have := (HR.out.ownM.lt g1 e).2
      omega
  have c1 : w1.cell? ⟨mb, 0, none⟩ = some (.slice A n cC) := by rw [cell_of_row w1 mb 0 _ 37 (0, 0) hmb]; rfl
  have c2 : w1.cell? ⟨mb, 1, none⟩ = some (.slice B n cM) := by rw [cell_of_row w1 mb 1 _ 37 (0, 0) hmb]; rfl
  have z1 : w1.frozen? ⟨mb, 0, none⟩ = false := by simp [World.frozen?, hmb]
  have z2 : w1.frozen? ⟨mb, 1, none⟩ = false := by simp [World.frozen?, hmb]
  have hM2 : (w1.setCell ⟨mb, 0, none⟩ (.slice (some ⟨g1, 0, none⟩) (n + 1) cap1)).ownsRow base 3 1 (.slice B n cM) n (mkL n M) := own_set_far hM1 (by
    intro e
    obtain ⟨cur, hc⟩ := row_block hM1 mb e
    rw [hmb] at hc; simp at hc) 0 _
  have hC2 : (w1.setCell ⟨mb, 0, none⟩ (.slice (some ⟨g1, 0, none⟩) (n + 1) cap1)).ownsRow base 3 1 (.slice (some ⟨g1, 0, none⟩) (n + 1) cap1) (n + 1) (clsL n C ++ [.int .i64 (n : Int)]) := own_set_far hown1 (by simp [Value.ownBlock]; exact hg1) 0 _
  have hsz1 : w.heap.size + 1 ≤ w1.heap.size := by have := hgrow1.size; simpa using this
  have HG1 := Lib.hid hgrow1
  have HL1 := Lib.hid hlies1
  have HMB := Lib.hid hmb
  have HC2 := Lib.hid hC2
  have HLT1 := Lib.hid hlt1
  clear hgrow1 hlies1 hmb hM1 hown1 hown hp hp2 hfz hfz2 hC2 hlt1
  go_wp2_with (at_builtin; go_must (refine wpList_append_lies _ rfl _ _ 35 rfl base 3 i0 (.int .i64 0) 1 8 Try.underlying35 hi hz0 hz1 hz2 rfl (by decide) _ _ _ rfl (hM2.alloc _) ⟨_, 0, none⟩ 1 1 [.int .i64 0] rfl rfl ?d1 ?d2 (by decide) ?d3 ?d4 ?d5 (w1.heap.size + 1) ?d6 ?_))
  case d1 =>
    have e : (w1.setCell ⟨mb, 0, none⟩ (.slice (some ⟨g1, 0, none⟩) (n + 1) cap1)).heap.size = w1.heap.size := by simp
    have := one_new (w1.setCell ⟨mb, 0, none⟩ (.slice (some ⟨g1, 0, none⟩) (n + 1) cap1)) (.int .i64 0) 3
    rw [e] at this
    exact this
  case d2 =>
    intro u hu
    simp only [List.mem_cons, List.not_mem_nil, or_false] at hu
    subst hu; rfl
  case d3 => unfold maxLen; omega
  case d4 => omega
  case d5 => simp; omega
  case d6 => simp
  intro g2 cap2 w2 hown2 hgrow2 hlies2 hlt2
  have hmb2 : w2.heap[mb]? = some (.cells #[.slice (some ⟨g1, 0, none⟩) (n + 1) cap1, .slice B n cM] 37 (0, 0)) := by
    have q2 : mb < (w1.setCell ⟨mb, 0, none⟩ (.slice (some ⟨g1, 0, none⟩) (n + 1) cap1)).heap.size := by have := HR.out.lt; simp; omega
    have q3 : (w1.setCell ⟨mb, 0, none⟩ (.slice (some ⟨g1, 0, none⟩) (n + 1) cap1)).heap[mb]? = some (.cells #[.slice (some ⟨g1, 0, none⟩) (n + 1) cap1, .slice B n cM] 37 (0, 0)) := heap_setCell_same _ _ _ _ _ _ HMB.out
    rw [hgrow2.block mb (by simp; have := HR.out.lt; omega) (by
      intro e
      obtain ⟨cur, hc⟩ := row_block hM2 mb e.symm
      rw [q3] at hc; simp at hc), Below.heap_alloc _ _ mb q2]
    exact q3
  have hC3 : w2.ownsRow base 3 1 (.slice (some ⟨g1, 0, none⟩) (n + 1) cap1) (n + 1) (clsL n C ++ [.int .i64 (n : Int)]) := (HC2.out.alloc _).kept hgrow2 (Or.inr (fun e => hne1 e.symm))
  have hg2 : g2 ≠ mb := by
    intro e
    subst e
    obtain ⟨cur, hc⟩ := row_block hown2 g2 rfl
    rw [hmb2] at hc; simp at hc
  have hne2 : g1 ≠ g2 := by
    intro e
    subst e
    rcases hlies2 with q | q
    · exact hne1 q
    · have := HLT1.out; omega
  have c1 : w2.cell? ⟨mb, 0, none⟩ = some (.slice (some ⟨g1, 0, none⟩) (n + 1) cap1) := by rw [cell_of_row w2 mb 0 _ 37 (0, 0) hmb2]; rfl
  have c2 : w2.cell? ⟨mb, 1, none⟩ = some (.slice B n cM) := by rw [cell_of_row w2 mb 1 _ 37 (0, 0) hmb2]; rfl
  have z2 : w2.frozen? ⟨mb, 1, none⟩ = false := by simp [World.frozen?, hmb2]
  have HG2 := Lib.hid hgrow2
  have HL2 := Lib.hid hlies2
  have HMB2 := Lib.hid hmb2
  have HC3 := Lib.hid hC3
  have HM3 := Lib.hid hown2
  have HN2 := Lib.hid hne2
  clear hgrow2 hlies2 hmb2 hC3 hown2 hi hz0 hz1 hz2 hlt2 hne2 hne1
  go_wp2
  go_ret
  refine ⟨rfl, .slice (some ⟨g1, 0, none⟩) (n + 1) cap1, .slice (some ⟨g2, 0, none⟩) (n + 1) cap2, ⟨HR.out.mbb, ?_, ?_, ?_, ?_⟩, ?_⟩
  · exact heap_setCell_same w2 mb 1 _ 37 _ HMB2.out
  · rw [clsL_snoc]
    exact own_set_far HC3.out (by simp [Value.ownBlock]; exact hg1) 1 _
  · rw [mkL_snoc]
    exact own_set_far HM3.out (by simp [Value.ownBlock]; exact hg2) 1 _
  · intro g e
    simp [Value.ownBlock] at e ⊢
    subst e
    exact fun q => HN2.out q.symm
  · have k1 := HG1.out
    have k2 := HG2.out
    refine ⟨k2.os.trans k1.os, k2.tape.trans k1.tape, k2.output.trans k1.output, ?_, ?_⟩
    · have := k2.size; simp at this ⊢; omega
    · intro k hk q1 q2 q3
      rw [Below.heap_setCell _ _ _ _ q1, k2.block k (by simp; omega) q3, Below.heap_alloc _ _ k (by simp; omega), Below.heap_setCell _ _ _ _ q1, k1.block k (by simp; omega) q2, Below.heap_alloc _ _ k hk]

/-- Marks as far as the loop has come. -/
def mkUp (C : Nat → Nat) (M : Nat → Int) (c : Nat) (m : Int) (i : Nat) : Nat → Int := fun j => if j < i ∧ C j = c then m else M j
theorem rmark_any (h : RS w base mb vC vM n C M) (hb : base ≤ w.heap.size) (hg : Good n C M) (a m : Int) :
    Calls Try.prog 18 #[.pointer (some ⟨mb, 0, none⟩), .int .i64 a, .int .i64 m] w fun e w' => e = .returned (.bool (markOk n M a m)) ∧ RS w' base mb vC vM n C (markN n C M a m) ∧ FrR mb vC.ownBlock vM.ownBlock w w' := by
  have his := is_any h a
  by_cases ha : 0 ≤ a ∧ a < n
  · obtain ⟨i, rfl⟩ := Int.eq_ofNat_of_zero_le ha.1
    have hi : i < n := by omega
    obtain ⟨gC, gM, cC, cM, rfl, rfl, h1, h2, h3, h4, h5, h6, h7⟩ := h.forms (by omega)
    have hp := h.ptrC
    have hp2 := h.ptrM
    have c1 := h.cellC i hi
    have c2 := h.cellM i hi
    have hu : cC ≤ 9223372036854775807 := by unfold maxLen at h3; exact h3
    have hu2 : cM ≤ 9223372036854775807 := by unfold maxLen at h4; exact h4
    rw [show isB n (i : Int) = true by simp [isB, hi]] at his
    have HR := Lib.hid h
    have hnn := hg.nn i hi
    obtain ⟨mk, hmk⟩ : ∃ mk, M i = mk := ⟨_, rfl⟩
    obtain ⟨ci, Hci⟩ : ∃ c, Hid (C i = c) := ⟨_, Lib.hid rfl⟩
    rw [hmk] at hnn c2
    rw [Hci.out] at c1
    have HMK := Lib.hid hmk
    clear h ha h3 h4 hmk hg
    by_cases hm0 : m ≤ 0
    · have dm : decide (m ≤ 0) = true := decide_eq_true hm0
      have HE : Hid (markOk n M (i : Int) m = false) := by show markOk n M (i : Int) m = false; simp [markOk]; omega
      clear hm0
      go_enter Try.func18, Try.ntmps18
      go_wp2_with (go_at_call 26; refine his.mono ?_; rintro e w1 ⟨rfl, rfl⟩)
      go_ret
      refine ⟨ret_b HE.out.symm, ?_, FrR.refl _ _ _ _⟩
      simp only [markN, HE.out]
      exact HR.out
    · have dm : decide (m ≤ 0) = false := decide_eq_false hm0
      by_cases hc : mk = 0 ∨ mk = m
      · have HE : Hid (markOk n M (i : Int) m = true) := by
          show markOk n M (i : Int) m = true
          have := HMK.out
          simp only [markOk, Int.toNat_natCast, decide_eq_true_eq]
          rw [this]; omega
        have body : Calls Try.prog 18 #[.pointer (some ⟨mb, 0, none⟩), .int .i64 (i : Int), .int .i64 m] w fun e w' => e = .returned (.bool true) ∧ RS w' base mb (.slice (some ⟨gC, 0, none⟩) n cC) (.slice (some ⟨gM, 0, none⟩) n cM) n C (mkUp C M ci m n) ∧ FrR mb (some gC) (some gM) w w' := by
          have fork : Hid ((mk = 0) ∨ ((mk == m) = true)) := Lib.hid (by rcases hc with q | q; exact Or.inl q; right; simp [q])
          clear hc
          rcases fork.out with q | q
          all_goals
            first
            | (have q2 : (mk != 0) = false := by simp [q]
               clear q)
            | (have q3 : (mk != m) = false := by simp at q; simp [q]
               clear q)
            go_enter Try.func18, Try.ntmps18
            go_wp2_with (go_at_call 26; refine his.mono ?_; rintro e w1 ⟨rfl, rfl⟩)
          all_goals
            clear c1 c2 hp hp2
            go_loopw [8] (fun v wr => ∃ j : Nat, v = .int .i64 j ∧ j ≤ n ∧ Hid (RS wr base mb (.slice (some ⟨gC, 0, none⟩) n cC) (.slice (some ⟨gM, 0, none⟩) n cM) n C (mkUp C M ci m j)) ∧ Hid (FrR mb (some gC) (some gM) w wr)) (fun v _ => n - (intOf v).toNat)
            case atStart => exact ⟨0, rfl, Nat.zero_le _, Lib.hid (HR.out.congr (fun j hj => rfl) (fun j hj => by simp [mkUp])), Lib.hid (FrR.refl _ _ _ _)⟩
            case round =>
              obtain ⟨j, rfl, hj, HRj, HFj⟩ := hrel
              have hp := HRj.out.ptrC
              have hp2 := HRj.out.ptrM
              by_cases hlt : j < n
              · have c1 := HRj.out.cellC j hlt
                have z1 := HRj.out.freeM j
                by_cases e : C j = ci
                · have HE2 := Lib.hid e
                  rw [e] at c1
                  clear e
                  have x1 := HRj.out.cellM j hlt
                  go_wp2
                  go_roundw
                  case rel =>
                    refine ⟨j + 1, by go_num, by omega, Lib.hid ((HRj.out.setM h5 h7 j m).congr (fun k hk => rfl) (fun k hk => ?_)), Lib.hid (HFj.out.set_M j _)⟩
                    have e := HE2.out
                    simp only [mkUp]
                    by_cases ek : k = j
                    · subst ek; simp [e]
                    · have : k < j + 1 ↔ k < j := by omega
                      simp [ek, this]
                  case measure => simp [intOf]; omega
                · have d1 : ((C j : Int) == (ci : Int)) = false := by simp; omega
                  have HE2 := Lib.hid e
                  clear e
                  go_wp2
                  go_roundw
                  case rel =>
                    refine ⟨j + 1, by go_num, by omega, Lib.hid (HRj.out.congr (fun k hk => rfl) (fun k hk => ?_)), HFj⟩
                    have e := HE2.out
                    simp only [mkUp]
                    by_cases ek : k = j
                    · subst ek; simp [e]
                    · have : k < j + 1 ↔ k < j := by omega
                      simp [this]
                  case measure => simp [intOf]; omega
              · obtain rfl : j = n := by omega
                go_wp2
                go_ret
                exact ⟨rfl, HRj.out, HFj.out⟩
        refine body.mono ?_
        rintro e w' ⟨rfl, hr, hf⟩
        rw [HE.out]
        refine ⟨rfl, hr.congr (fun j hj => rfl) (fun j hj => ?_), hf⟩
        simp only [markN, HE.out, if_true, markM, mkUp, Int.toNat_natCast, hj, true_and, Hci.out]
      · have HE : Hid (markOk n M (i : Int) m = false) := by
          show markOk n M (i : Int) m = false
          have := HMK.out
          simp only [markOk, Int.toNat_natCast, decide_eq_false_iff_not]
          rw [this]; omega
        have e1 : (mk != 0) = true := by simp; omega
        have e2 : (mk != m) = true := by simp; omega
        clear hc hm0
        go_enter Try.func18, Try.ntmps18
        go_wp2_with (go_at_call 26; refine his.mono ?_; rintro e w1 ⟨rfl, rfl⟩)
        go_ret
        refine ⟨ret_b HE.out.symm, ?_, FrR.refl _ _ _ _⟩
        simp only [markN, HE.out]
        exact HR.out
  · rw [show isB n a = false by simp [isB]; omega] at his
    have HE : Hid (markOk n M a m = false) := by show markOk n M a m = false; simp [markOk]; omega
    have HR := Lib.hid h
    clear h ha hg
    go_enter Try.func18, Try.ntmps18
    go_wp2_with (go_at_call 26; refine his.mono ?_; rintro e w1 ⟨rfl, rfl⟩)
    go_ret
    refine ⟨ret_b HE.out.symm, ?_, FrR.refl _ _ _ _⟩
    simp only [markN, HE.out]
    exact HR.out
end
end Go.Proofs.Ytdopccbnnmaccaa.Kn
