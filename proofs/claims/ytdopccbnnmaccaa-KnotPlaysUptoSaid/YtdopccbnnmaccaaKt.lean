/- What stands for a thing's class: the walk of top; new knots and their length. -/
import Derived.Test.YtdopccbnnmaccaaKm
import Derived.LoopTactic
import Derived.Deep.LoopGhost
import Derived.StillTailTactics
import Derived.BigQuiet
import Derived.Deep.QuietTactic
import Derived.RegionTactic
import Derived.BigRegion
namespace Go.Proofs.Ytdopccbnnmaccaa.Kn
open Go.RowKit
set_option linter.unusedVariables false
set_option linter.unusedSimpArgs false
set_option maxHeartbeats 1000000

theorem top_in (kb g cap base n a : Nat) (L : List Th) (C : Nat → Nat) (M : Nat → Int) (rt dp : Nat → Nat) (w : World) (ha : a < n)
  (hk : KS w base kb (.slice (some ⟨g, 0, none⟩) n cap) L) (hr : Rep L n C M rt dp) (hcap : n ≤ cap) (hcap2 : cap ≤ 9223372036854775807) (hgk : g ≠ kb) :
  Calls Try.prog 25 #[.pointer (some ⟨kb, 0, none⟩), .int .i64 a] w fun e w' => e = .returned (.pointer (some ⟨g, rt a * 4, none⟩)) ∧ (∃ L', KS w' base kb (.slice (some ⟨g, 0, none⟩) n cap) L' ∧ Rep L' n C M rt dp) ∧ Fr kb (some g) w w' := by
  have hp := hk.ptr
  have d0 : decide ((a : Int) < 0) = false := decide_eq_false (by omega)
  have d1 : decide (n ≤ a) = false := decide_eq_false (by omega)
  have HK := Lib.hid hk
  have HR := Lib.hid hr
  clear hk hr
  go_enter Try.func25, Try.ntmps25
  go_wp2
  go_loopg [1] (dp a) (fun kq va w' => ∃ (i : Nat) (L' : List Th), va = .int .i64 i ∧ i < n ∧ Hid (rt i = rt a) ∧ Hid (dp i ≤ kq) ∧ Hid (KS w' base kb (.slice (some ⟨g, 0, none⟩) n cap) L') ∧ Hid (Rep L' n C M rt dp) ∧ Hid (Fr kb (some g) w w'))
  case atStart => exact ⟨a, L, rfl, ha, Lib.hid rfl, Lib.hid (Nat.le_refl _), HK, HR, Lib.hid (Fr.refl _ _ _)⟩
  case round =>
    obtain ⟨i, L', rfl, hi, HT, HD, HK', HR', HF⟩ := hrel
    have hl := HR'.out.len
    have hp := HK'.out.ptr
    have hu := HK'.out.up i (by omega)
    have hpl := HR'.out.up_lt i hi
    have hql := HR'.out.up_lt _ hpl
    have hu2 := HK'.out.up (at_ L' i).up (by omega)
    have hfz := HK'.out.free (i * 4)
    by_cases hc : (at_ L' i).up = i
    · rw [hc] at hu
      have HC := Lib.hid hc
      have HL := Lib.hid hl
      clear hc hl hpl hql hu2 hfz
      go_wp2
      go_ret
      refine ⟨?_, ⟨L', HK'.out, HR'.out⟩, HF.out⟩
      have e1 := HR'.out.rt_root i hi HC.out
      have e2 := HT.out
      show Ending.returned (.pointer (some ⟨g, i * 4, none⟩)) = _
      rw [← e2, e1]
    · have HC := Lib.hid hc
      have hne : (((at_ L' i).up : Int) != (i : Int)) = true := by simp only [bne_iff_ne, ne_eq]; omega
      have HL := Lib.hid hl
      clear hc hl
      obtain ⟨p, Hp⟩ : ∃ p, Hid (p = (at_ L' i).up) := ⟨_, Lib.hid rfl⟩
      rw [← Hp.out] at hu hpl hql hu2 hne
      obtain ⟨q, Hq⟩ : ∃ q, Hid (q = (at_ L' p).up) := ⟨_, Lib.hid rfl⟩
      rw [← Hq.out] at hql hu2
      go_wp2
      go_still_tail 22, (by kernel_rfl)
      change wpList _ _ _ _ _ wr.drew
      go_wp2
      go_roundg (dp q)
      case rel =>
        have hl := HL.out
        have e : (at_ L' (at_ L' i).up).up = q := by rw [← Hp.out, ← Hq.out]
        refine ⟨q, L'.set i { at_ L' i with up := q }, rfl, hql, Lib.hid ?_, Lib.hid (Nat.le_refl _), Lib.hid ?_, Lib.hid ?_, Lib.hid ?_⟩
        · rw [Hq.out, HR'.out.rt_up p (by omega), Hp.out, HR'.out.rt_up i hi, HT.out]
        · exact ((HK'.out.set i 0 (.int .i64 q) { at_ L' i with up := q } (by omega) (by omega) rfl).drewN 1)
        · have := HR'.out.halve hi HC.out
          rw [e] at this
          exact this
        · exact (HF.out.set_row _ _ _).drew
      case measure =>
        have h1 := HR'.out.halve_fall hi HC.out
        rw [← Hp.out, ← Hq.out] at h1
        have h2 := HD.out
        omega

theorem len_any {w : World} {base kb : Nat} {v : Value} {L : List Th} (h : KS w base kb v L) : Calls Try.prog 10 #[.pointer (some ⟨kb, 0, none⟩)] w fun e w' => e = .returned (.int .i64 (L.length : Int)) ∧ w = w' := by
  obtain ⟨A, cap, rfl, _, _⟩ := h.any_form
  have hp := h.ptr
  clear h
  go_enter Try.func10, Try.ntmps10
  go_wp2
  go_ret
  exact ⟨rfl, rfl⟩
theorem len_nil (w : World) : Calls Try.prog 10 #[.pointer none] w fun e w' => e = .returned (.int .i64 0) ∧ w = w' := by
  go_enter Try.func10, Try.ntmps10
  go_wp2
  go_ret
  exact ⟨rfl, rfl⟩
theorem top_nil (a : Int) (w : World) : Calls Try.prog 25 #[.pointer none, .int .i64 a] w fun e w' => e = .returned (.pointer none) ∧ w = w' := by
  by_cases h : a < 0
  · have d0 : decide (a < 0) = true := decide_eq_true h
    go_enter Try.func25, Try.ntmps25
    go_wp2
    go_ret
    exact ⟨rfl, rfl⟩
  · have d0 : decide (a < 0) = false := decide_eq_false h
    have d1 : 0 ≤ a := by omega
    go_enter Try.func25, Try.ntmps25
    go_wp2_with (go_at_call 10; refine (len_nil _).mono ?_; rintro e w' ⟨rfl, rfl⟩)
    go_ret
    exact ⟨rfl, rfl⟩
theorem top_out {w : World} {base kb : Nat} {v : Value} {L : List Th} (h : KS w base kb v L) (a : Int) (ha : ¬ (0 ≤ a ∧ a < L.length)) : Calls Try.prog 25 #[.pointer (some ⟨kb, 0, none⟩), .int .i64 a] w fun e w' => e = .returned (.pointer none) ∧ w = w' := by
  by_cases h0 : a < 0
  · have d0 : decide (a < 0) = true := decide_eq_true h0
    go_enter Try.func25, Try.ntmps25
    go_wp2
    go_ret
    exact ⟨rfl, rfl⟩
  · have d0 : decide (a < 0) = false := decide_eq_false h0
    have d1 : (L.length : Int) ≤ a := by omega
    have hl := len_any h
    clear h ha h0
    go_enter Try.func25, Try.ntmps25
    go_wp2_with (go_at_call 10; refine hl.mono ?_; rintro e w' ⟨rfl, rfl⟩)
    go_ret
    exact ⟨rfl, rfl⟩
theorem new_any (w : World) : Calls Try.prog 9 #[] w fun e w' => e = .returned (.pointer (some ⟨w.heap.size, 0, none⟩)) ∧ w' = w.alloc (.cells #[.slice none 0 0] 43) := by
  go_enter Try.func9, Try.ntmps9
  go_wp2
  go_ret
  exact ⟨rfl, rfl⟩
theorem KS.new (w : World) (base : Nat) (hb : base ≤ w.heap.size) : KS (w.alloc (.cells #[.slice none 0 0] 43)) base w.heap.size (.slice none 0 0) [] :=
  ⟨hb, heap_alloc_new w _, World.ownsRow_nil _ _ _ _⟩
end Go.Proofs.Ytdopccbnnmaccaa.Kn
