/- What Alike, Tie and Add do to the classes and marks. -/
import Derived.Test.YtdopccbnnmaccaaKc
import Derived.Maps.AppendAt
import Derived.Deep.AppendLies
import Derived.OwnWalk
import Derived.LaidEqlPtr
import Derived.Deep.DeepMust
namespace Go.Proofs.Ytdopccbnnmaccaa.Kn
open Go.RowKit
set_option linter.unusedVariables false
set_option linter.unusedSimpArgs false
set_option maxHeartbeats 1000000

theorem KS.row {w : World} {base kb g cap n : Nat} {L : List Th} (h : KS w base kb (.slice (some ⟨g, 0, none⟩) n cap) L) : ∃ cur, w.heap[g]? = some (.cells cur 47 (0, 0)) := by
  rcases h.own.2 with ⟨e, _⟩ | ⟨g', cap', cur, e, _, hg, _⟩
  · simp at e
  · simp at e
    obtain ⟨rfl, _⟩ := e
    exact ⟨cur, hg⟩
theorem size47 : (Try.prog.info? 47).map (fun i => i.size) = some 4 := by kernel_rfl
theorem info47 : ∃ j, Try.prog.info? 47 = some j ∧ j.size = 4 := by
  have h := size47
  cases hj : Try.prog.info? 47 with
  | none => rw [hj] at h; cases h
  | some j => rw [hj] at h; exact ⟨j, rfl, by simpa using h⟩
theorem ptr_same (a : Addr) (w : World) : (binOp .eql 44 (.pointer (some a)) (.pointer (some a))).run Try.prog w = .ok (.bool true) w := by
  obtain ⟨j, h1, h2⟩ := info47
  exact run_eql_ptr_same w a Try.underlying44 h1
theorem ptr_other {w : World} {base kb g cap n : Nat} {L : List Th} (h : KS w base kb (.slice (some ⟨g, 0, none⟩) n cap) L) (i j : Nat) (hne : i ≠ j) : (binOp .eql 44 (.pointer (some ⟨g, i * 4, none⟩)) (.pointer (some ⟨g, j * 4, none⟩))).run Try.prog w = .ok (.bool false) w := by
  obtain ⟨j', h1, h2⟩ := info47
  obtain ⟨cur, hc⟩ := h.row
  exact run_eql_ptr_other w Try.underlying44 h1 (by omega) (by intro e; have e2 := congrArg Addr.off e; simp only at e2; omega) hc hc

theorem alike_any {w : World} {base kb : Nat} {v : Value} {n : Nat} {C : Nat → Nat} {M : Nat → Int} (h : KA w base kb v n C M) (a b : Int) :
    Calls Try.prog 23 #[.pointer (some ⟨kb, 0, none⟩), .int .i64 a, .int .i64 b] w fun e w' => e = .returned (.bool (alikeA n C a b)) ∧ KA w' base kb v n C M ∧ Fr kb v.ownBlock w w' := by
  obtain ⟨L, rt, dp, hk, hr, hg⟩ := h
  have hl := hr.len
  by_cases ha : 0 ≤ a ∧ a < n
  · obtain ⟨i, rfl⟩ := Int.eq_ofNat_of_zero_le ha.1
    have hi : i < n := by omega
    obtain ⟨g, cap, rfl, hc1, hc2, hgk⟩ := hk.form (by omega)
    rw [hl] at hk hc1 ⊢
    have hu : cap ≤ 9223372036854775807 := by unfold maxLen at hc2; exact hc2
    have ht := top_in kb g cap base n i L C M rt dp w hi hk hr hc1 hu hgk
    have HG := Lib.hid hg
    by_cases hb : 0 ≤ b ∧ b < n
    · obtain ⟨j, rfl⟩ := Int.eq_ofNat_of_zero_le hb.1
      have hj : j < n := by omega
      have ht2 := fun (w1 : World) (L1 : List Th) (hk1 : KS w1 base kb (.slice (some ⟨g, 0, none⟩) n cap) L1) (hr1 : Rep L1 n C M rt dp) => top_in kb g cap base n j L1 C M rt dp w1 hj hk1 hr1 hc1 hu hgk
      have HS := Lib.hid (hr.same i j hi hj)
      clear hr hl hg hk hc1 hc2 hu ha hb
      obtain ⟨r1, hr1⟩ : ∃ r, rt i = r := ⟨_, rfl⟩
      obtain ⟨r2, hr2⟩ : ∃ r, rt j = r := ⟨_, rfl⟩
      rw [hr1] at ht HS
      rw [hr2] at ht2 HS
      by_cases hs : r1 = r2
      · have HE : Hid (alikeA n C (i : Int) (j : Int) = true) := by
          show alikeA n C (i : Int) (j : Int) = true
          have := HS.out.mp hs
          simp [alikeA, hi, hj, this]
        subst hs
        clear hr1 hr2
        have hpe := ptr_same
        go_enter Try.func23, Try.ntmps23
        go_wp2_with (first | (go_at_call 25; (with_reducible refine ht.mono ?_); rintro e w1 ⟨rfl, ⟨L1, hk1, hr1⟩, hf1⟩; replace ht2 := ht2 _ _ hk1 hr1; replace hk1 := Lib.hid hk1; replace hr1 := Lib.hid hr1; replace hf1 := Lib.hid hf1) | (go_at_call 25; (with_reducible refine ht2.mono ?_); rintro e w2 ⟨rfl, ⟨L2, hk2, hr2⟩, hf2⟩; replace hk2 := Lib.hid hk2; replace hr2 := Lib.hid hr2; replace hf2 := Lib.hid hf2))
        go_ret
        exact ⟨ret_b HE.out.symm, ⟨L2, rt, dp, hk2.out, hr2.out, HG.out⟩, hf1.out.trans' hf2.out⟩
      · have HE : Hid (alikeA n C (i : Int) (j : Int) = false) := by
          show alikeA n C (i : Int) (j : Int) = false
          have : ¬ C i = C j := fun q => hs (HS.out.mpr q)
          simp [alikeA, this]
        clear hr1 hr2
        go_enter Try.func23, Try.ntmps23
        go_wp2_with (first | (go_at_call 25; (with_reducible refine ht.mono ?_); rintro e w1 ⟨rfl, ⟨L1, hk1, hr1⟩, hf1⟩; replace ht2 := ht2 _ _ hk1 hr1; replace hk1 := Lib.hid hk1; replace hr1 := Lib.hid hr1; replace hf1 := Lib.hid hf1) | (go_at_call 25; (with_reducible refine ht2.mono ?_); rintro e w2 ⟨rfl, ⟨L2, hk2, hr2⟩, hf2⟩; have hpe := ptr_other hk2 r1 r2 hs; replace hk2 := Lib.hid hk2; replace hr2 := Lib.hid hr2; replace hf2 := Lib.hid hf2))
        go_ret
        exact ⟨ret_b HE.out.symm, ⟨L2, rt, dp, hk2.out, hr2.out, HG.out⟩, hf1.out.trans' hf2.out⟩
    · have ht2 := fun (w1 : World) (L1 : List Th) (hk1 : KS w1 base kb (.slice (some ⟨g, 0, none⟩) n cap) L1) (hr1 : Rep L1 n C M rt dp) => top_out hk1 b (by rw [hr1.len]; exact hb)
      have HE : Hid (alikeA n C (i : Int) b = false) := by show alikeA n C (i : Int) b = false; simp [alikeA]; omega
      clear hr hl hg hk hc1 hc2 hu ha hb
      go_enter Try.func23, Try.ntmps23
      go_wp2_with (first | (go_at_call 25; (with_reducible refine ht.mono ?_); rintro e w1 ⟨rfl, ⟨L1, hk1, hr1⟩, hf1⟩; replace ht2 := ht2 _ _ hk1 hr1; replace hk1 := Lib.hid hk1; replace hr1 := Lib.hid hr1; replace hf1 := Lib.hid hf1) | (go_at_call 25; (with_reducible refine ht2.mono ?_); rintro e w2 ⟨rfl, rfl⟩))
      go_ret
      exact ⟨ret_b HE.out.symm, ⟨L1, rt, dp, hk1.out, hr1.out, HG.out⟩, hf1.out⟩
  · have ht := top_out hk a (by rw [hl]; exact ha)
    have HE : Hid (alikeA n C a b = false) := by show alikeA n C a b = false; simp [alikeA]; omega
    have HK : Hid (KA w base kb v n C M) := Lib.hid ⟨L, rt, dp, hk, hr, hg⟩
    clear hr hl hg hk ha
    go_enter Try.func23, Try.ntmps23
    go_wp2_with (go_at_call 25; refine ht.mono ?_; rintro e w1 ⟨rfl, rfl⟩)
    go_ret
    exact ⟨ret_b HE.out.symm, HK.out, Fr.refl _ _ _⟩

theorem infoz47 : (Try.prog.info? 47).map (fun i => (i.zero, i.size, i.bytes)) = some (some (.agg #[.int .i64 0, .int .i64 0, .int .i64 0, .int .i64 0]), 4, 32) := by kernel_rfl

theorem add_any {w : World} {base kb : Nat} {v : Value} {n : Nat} {C : Nat → Nat} {M : Nat → Int} (h : KA w base kb v n C M) (hn : n + 1 ≤ 4398046511104) (hb : base ≤ w.heap.size) :
    Calls Try.prog 15 #[.pointer (some ⟨kb, 0, none⟩)] w fun e w' => e = .returned (.int .i64 (n : Int)) ∧ ∃ v', KA w' base kb v' (n + 1) (addC n C) (addM n M) ∧ Fr kb v.ownBlock w w' ∧ (∀ g, v'.ownBlock = some g → v.ownBlock = some g ∨ w.heap.size ≤ g) := by
  obtain ⟨L, rt, dp, hk, hr, hg⟩ := h
  have hl := hr.len
  obtain ⟨A, cap, rfl, hc1, hc2⟩ := hk.any_form
  have hu : cap ≤ 9223372036854775807 := by unfold maxLen at hc2; exact hc2
  have hp := hk.ptr
  have hfz := hk.ptr_frozen
  have hown := hk.own
  rw [hl] at hp hown hc1
  obtain ⟨i0, hi, hz0, hz1, hz2⟩ := info_parts infoz47
  have HK := Lib.hid hk
  have HR := Lib.hid hr
  have HG := Lib.hid hg
  have HL := Lib.hid hl
  clear hk hr hg hl
  go_enter Try.func15, Try.ntmps15
  go_wp2_with (at_builtin; go_must (refine wpList_append_lies _ rfl _ _ 41 rfl base 47 i0 (.agg #[.int .i64 0, .int .i64 0, .int .i64 0, .int .i64 0]) 4 32 Try.underlying41 hi hz0 hz1 hz2 rfl (by decide) _ _ _ rfl (hown.alloc _) ⟨w.heap.size, 0, none⟩ 1 1 [.int .i64 (n : Int), .int .i64 1, .int .i64 0, .int .i64 (n : Int)] rfl rfl ?c1 ?c2 (by decide) ?c3 ?c4 ?c5 (w.heap.size + 1) (by simp) ?_))
  case c1 =>
    intro j u hj
    have hadd : (⟨w.heap.size, 0, none⟩ : Addr).add j = ⟨w.heap.size, j, none⟩ := by unfold Addr.add; split <;> simp_all
    rw [hadd, cell_of_row _ w.heap.size j #[.int .i64 (n : Int), .int .i64 1, .int .i64 0, .int .i64 (n : Int)] 47 (0, 0) (heap_alloc_new w _)]
    simpa using hj
  case c2 =>
    intro u hu
    simp only [List.mem_cons, List.not_mem_nil, or_false] at hu
    rcases hu with rfl | rfl | rfl | rfl <;> rfl
  case c3 => unfold maxLen; omega
  case c4 => omega
  case c5 => simp; omega
  intro g' cap' w1 hown' hgrow hlies hlt
  have hkb : w1.heap[kb]? = some (.cells #[.slice A n cap] 43 (0, 0)) := by
    have h1 := HK.out.blk
    have h2 := HK.out.lt
    rw [hgrow.block kb (by simp; omega) (by have := HK.out.ne; rw [HL.out] at this; exact fun e => this e.symm), Below.heap_alloc w _ kb h2, h1, HL.out]
  have hp1 : w1.cell? ⟨kb, 0, none⟩ = some (.slice A n cap) := by
    rw [cell_of_row w1 kb 0 _ 43 (0, 0) hkb]; rfl
  have hfz1 : w1.frozen? ⟨kb, 0, none⟩ = false := by simp [World.frozen?, hkb]
  have HKB := Lib.hid hkb
  have HO := Lib.hid hown'
  have HGR := Lib.hid hgrow
  have HLI := Lib.hid hlies
  clear hlies hlt
  clear hp hfz hown hi hz0 hz1 hz2 hkb hown' hgrow
  go_wp2
  go_ret
  have hlen : cellsOf (L ++ [⟨n, 1, 0, n⟩]) = cellsOf L ++ [.int .i64 (n : Int), .int .i64 1, .int .i64 0, .int .i64 (n : Int)] := by
    rw [cellsOf_append]; rfl
  have hg'kb : g' ≠ kb := by
    intro e
    subst e
    rcases HO.out.2 with ⟨e, _⟩ | ⟨g2, cap2, cur, e, _, hg2, _⟩
    · simp at e
    · simp at e
      obtain ⟨rfl, _⟩ := e
      rw [HKB.out] at hg2
      simp at hg2
  have hkblt : kb < w.heap.size := HK.out.lt
  refine ⟨rfl, .slice (some ⟨g', 0, none⟩) (n + 1) cap', ⟨L ++ [⟨n, 1, 0, n⟩], _, _, ⟨HK.out.kbb, ?_, ?_⟩, HR.out.add HG.out, HG.out.add⟩, ?_, ?_⟩
  · exact heap_setCell_same _ _ _ _ _ _ HKB.out
  · rw [hlen, List.length_append, HL.out]
    exact HO.out.kept (row := some kb) ⟨rfl, rfl, rfl, by simp, fun k hk hne => heap_setCell_other _ _ k _ (fun e => hne (by simp [e]))⟩ (Or.inr (by simp [Value.ownBlock]; exact hg'kb))
  · have e : L.length = n := HL.out
    have h1 := HGR.out
    have hfr : Fr kb (Value.slice A L.length cap).ownBlock w w1 := by
      refine ⟨h1.os, h1.tape, h1.output, Nat.le_trans (by simp) h1.size, fun k hk h2 h3 => ?_⟩
      rw [h1.block k (by simp; omega) (by rw [e] at h3; exact h3), Below.heap_alloc w _ k hk]
    exact hfr.set_kb 0 none _
  · intro g hgg
    have e : L.length = n := HL.out
    simp [Value.ownBlock] at hgg
    subst hgg
    rcases HLI.out with q | q
    · left; rw [e]; exact q
    · right; omega
end Go.Proofs.Ytdopccbnnmaccaa.Kn
