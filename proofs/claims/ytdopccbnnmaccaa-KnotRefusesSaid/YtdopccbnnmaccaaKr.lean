/- What is refused changes nothing: the walk of KnotRefuses. -/
import Derived.Test.YtdopccbnnmaccaaKl
import Derived.Test.YtdopccbnnmaccaaKj
import Derived.Test.YtdopccbnnmaccaaKq
namespace Go.Proofs.Ytdopccbnnmaccaa.Kn
open Go.RowKit
set_option linter.unusedVariables false
set_option linter.unusedSimpArgs false
set_option maxHeartbeats 4000000

/-- What was: mark and least thing, one by one. -/
def flat (C : Nat → Nat) (M : Nat → Int) : Nat → List Value
  | 0 => []
  | m + 1 => flat C M m ++ [.int .i64 (M m), .int .i64 (C m : Int)]
theorem flat_length (C : Nat → Nat) (M : Nat → Int) (m : Nat) : (flat C M m).length = m * 2 := by
  induction m with
  | zero => rfl
  | succ m ih => simp [flat, ih]; omega
theorem flat_get (C : Nat → Nat) (M : Nat → Int) (m j : Nat) (h : j < m) : (flat C M m)[j * 2]? = some (.int .i64 (M j)) ∧ (flat C M m)[j * 2 + 1]? = some (.int .i64 (C j : Int)) := by
  induction m with
  | zero => omega
  | succ m ih =>
    have hl := flat_length C M m
    by_cases e : j = m
    · subst e
      simp only [flat]
      rw [List.getElem?_append_right (by omega), List.getElem?_append_right (by omega), hl]
      have e1 : j * 2 - j * 2 = 0 := by omega
      have e2 : j * 2 + 1 - j * 2 = 1 := by omega
      rw [e1, e2]
      exact ⟨rfl, rfl⟩
    · simp only [flat]
      rw [List.getElem?_append_left (by omega), List.getElem?_append_left (by omega)]
      exact ih (by omega)

/-- The knot, and beside it what was. -/
def KW (w0 : World) (base kb n : Nat) (C : Nat → Nat) (M : Nat → Int) (vw : Value) (m : Nat) (w : World) : Prop :=
  ∃ v, KA w base kb v n C M ∧ Below base w0 w ∧ base ≤ w.heap.size ∧ w.ownsRow base 29 2 vw m (flat C M m)

section
variable {w0 w : World} {base kb n m : Nat} {C : Nat → Nat} {M : Nat → Int} {vw : Value}
theorem kw_of (h : KW w0 base kb n C M vw m w) (a : Nat) (ha : a < n) : Calls Try.prog 11 #[.pointer (some ⟨kb, 0, none⟩), .int .i64 a] w fun e w' => e = .returned (.int .i64 (M a)) ∧ KW w0 base kb n C M vw m w' := by
  obtain ⟨v, hk, h2, h3, h4⟩ := h
  refine (of_any hk a).mono ?_
  rintro e w' ⟨rfl, hk', hf⟩
  refine ⟨by simp [ofA, ha], v, hk', h2.trans (hk.fr_below h3 hf), Nat.le_trans h3 hf.size, hk.row_kept hf h4 (by decide) (by decide)⟩
theorem kw_least (h : KW w0 base kb n C M vw m w) (a : Nat) (ha : a < n) : Calls Try.prog 12 #[.pointer (some ⟨kb, 0, none⟩), .int .i64 a] w fun e w' => e = .returned (.int .i64 (C a : Int)) ∧ KW w0 base kb n C M vw m w' := by
  obtain ⟨v, hk, h2, h3, h4⟩ := h
  refine (least_any hk a).mono ?_
  rintro e w' ⟨rfl, hk', hf⟩
  refine ⟨by simp [leastA, ha], v, hk', h2.trans (hk.fr_below h3 hf), Nat.le_trans h3 hf.size, hk.row_kept hf h4 (by decide) (by decide)⟩
theorem KW.alloc (h : KW w0 base kb n C M vw m w) (o : Obj) : KW w0 base kb n C M vw m (w.alloc o) := by
  obtain ⟨v, hk, h2, h3, h4⟩ := h
  exact ⟨v, hk.alloc o, h2.alloc h3 o, Nat.le_trans h3 (by simp), h4.alloc o⟩
theorem KW.drewN (h : KW w0 base kb n C M vw m w) (k : Nat) : KW w0 base kb n C M vw m (w.drewN k) := by
  obtain ⟨v, hk, h2, h3, h4⟩ := h
  have hb := below_drewN k w.heap.size w
  refine ⟨v, hk.drewN k, h2.trans (hb.mono h3), Nat.le_trans h3 hb.size, h4.1, ?_⟩
  rcases h4.2 with q | ⟨g, cap, cur, e, hbb, hg, rest⟩
  · exact .inl q
  · exact .inr ⟨g, cap, cur, e, hbb, (hb.block g (Array.getElem?_eq_some_iff.1 hg).1).trans hg, rest⟩
theorem KW.drew (h : KW w0 base kb n C M vw m w) : KW w0 base kb n C M vw m w.drew := h.drewN 1
theorem KW.more {w1 : World} {v' : Value} {x : World} (h : KW w0 base kb n C M vw m w) (hx : x = w.alloc (.cells #[.int .i64 (M m), .int .i64 (C m : Int)] 29)) (hown : w1.ownsRow base 29 2 v' (m + 1) (flat C M m ++ [.int .i64 (M m), .int .i64 (C m : Int)])) (hg : x.grownBy w1 vw.ownBlock) : KW w0 base kb n C M v' (m + 1) w1 := by
  subst hx
  obtain ⟨v, hk, h2, h3, h4⟩ := h.alloc (.cells #[.int .i64 (M m), .int .i64 (C m : Int)] 29)
  refine ⟨v, hk.grown hg (fun g e => ?_), h2.grown hg h3 (fun g e => (h4.lt g e).1), Nat.le_trans h3 hg.size, hown⟩
  obtain ⟨cur, hc⟩ := row_block h4 g e
  exact ⟨cur, 29, hc, by decide, by decide⟩
theorem KW.own (h : KW w0 base kb n C M vw m w) : w.ownsRow base 29 2 vw m (flat C M m) ∧ base ≤ w.heap.size := by
  obtain ⟨v, hk, h2, h3, h4⟩ := h
  exact ⟨h4, h3⟩
end
theorem addr_add0 (b n : Nat) : (⟨b, 0, none⟩ : Addr).add n = ⟨b, n, none⟩ := by
  unfold Addr.add
  split
  · rename_i h; simp [h]
  · simp
theorem kw_does {w0 w : World} {base kb m : Nat} (s : St) {vw : Value} (h : KW w0 base kb s.n s.C s.M vw m w) (a x y : Int) (hn : kd a = 0 → s.n + 1 ≤ 4398046511104) :
    Calls Try.prog 13 #[.pointer (some ⟨kb, 0, none⟩), opA a x y] w fun e w' => e = .returned (.bool (s.ok (kd a) x y)) ∧ KI w0 base kb (s.step (kd a) x y).n (s.step (kd a) x y).C (s.step (kd a) x y).M w' ∧ (s.ok (kd a) x y = false → KW w0 base kb s.n s.C s.M vw m w') := by
  obtain ⟨v, hk, h2, h3, h4⟩ := h
  refine (does_fr s hk h3 a x y hn).mono ?_
  rintro e w' ⟨rfl, v', hk', hf, _⟩
  have hb := h2.trans (hk.fr_below h3 hf)
  refine ⟨rfl, ⟨v', hk', hb, Nat.le_trans h3 hf.size⟩, fun hok => ?_⟩
  rw [s.refused _ _ _ hok] at hk'
  exact ⟨v', hk', hb, Nat.le_trans h3 hf.size, hk.row_kept hf h4 (by decide) (by decide)⟩
theorem infoz29 : (Try.prog.info? 29).map (fun i => (i.zero, i.size, i.bytes)) = some (some (.agg #[.int .i64 0, .int .i64 0]), 2, 16) := by kernel_rfl

set_option maxRecDepth 100000 in
theorem refuses_t (w : World) (A : Option Addr) (len cap : Nat) (f : Nat → Int × Int × Int) (hsc : Sc w w.heap.size A len f) (hlen : len ≤ 9223372036854775807) :
    Calls Try.prog 3 #[.slice A len cap] w fun e w' => e = .returned (.bool true) ∧ Below w.heap.size w w' := by
  have HSC := Lib.hid hsc
  clear hsc
  go_enter Try.func3, Try.ntmps3
  go_wp2_with (first | (go_at_call 8; refine (lives_any _).mono ?_; rintro e w1 ⟨rfl, hB1⟩; replace hB1 := Lib.hid hB1) | (go_at_call 9; (with_reducible refine (new_any _).mono ?_); rintro e w2 ⟨rfl, rfl⟩; have hk0 := Lib.hid (KI.new w1)))
  go_loopw [4] (fun i wr => ∃ (k : Nat) (s : St), i = .int .i64 k ∧ k ≤ len ∧ k ≤ 200 ∧ s.n ≤ k ∧ Hid (KI w1 w1.heap.size w1.heap.size s.n s.C s.M wr)) (fun i _ => len - (intOf i).toNat)
  case atStart => exact ⟨0, ⟨0, z0, m0⟩, rfl, Nat.zero_le _, Nat.zero_le _, Nat.zero_le _, hk0⟩
  case round =>
    obtain ⟨k, s, rfl, hk, hk2, hs, HK⟩ := hrel
    clear hk0
    have done : Hid (∀ wx, KI w1 w1.heap.size w1.heap.size s.n s.C s.M wx → Below w.heap.size w wx) := by
      refine Lib.hid fun wx h => ?_
      obtain ⟨v, _, hb, _⟩ := h
      exact hB1.out.trans (hb.mono hB1.out.size)
    by_cases hlt : k < len
    · by_cases h200 : k < 200
      · have hsc2 : Sc wr w.heap.size A len f := by
          obtain ⟨v, _, hb, _⟩ := HK.out
          exact (HSC.out.below hB1.out (Nat.le_refl _)).below hb hB1.out.size
        obtain ⟨b, off, rfl, hbl, e1, e2, e3⟩ := hsc2 k hlt
        obtain ⟨x1, hx1⟩ : ∃ x, (f k).1 = x := ⟨_, rfl⟩
        obtain ⟨x2, hx2⟩ : ∃ x, (f k).2.1 = x := ⟨_, rfl⟩
        obtain ⟨x3, hx3⟩ : ∃ x, (f k).2.2 = x := ⟨_, rfl⟩
        rw [hx1] at e1
        rw [hx2] at e2
        rw [hx3] at e3
        have HX : Hid ((f k).1 = x1 ∧ (f k).2.1 = x2 ∧ (f k).2.2 = x3) := Lib.hid ⟨hx1, hx2, hx3⟩
        clear hx1 hx2 hx3
        obtain ⟨n, C, M⟩ := s
        have hnk : n ≤ k := hs
        have hlen := fun w' (h : KI w1 w1.heap.size w1.heap.size n C M w') => ki_len h
        clear hsc2 hs
        have d4 : decide ((k : Int) < 200) = true := decide_eq_true (by omega)
        go_wp2_with (first | (go_at_call 10; (with_reducible refine (hlen _ HK.out).mono ?_); rintro e w4 ⟨rfl, rfl⟩))
        have HW0 : Hid (KW w1 w1.heap.size w1.heap.size n C M (.slice none 0 0) 0 wr) := by
          obtain ⟨v, h1, h2, h3⟩ := HK.out
          exact Lib.hid ⟨v, h1, h2, h3, World.ownsRow_nil _ _ _ _⟩
        have HE := Lib.hid (And.intro e1 (And.intro e2 e3))
        clear HK e1 e2 e3
        obtain ⟨wo, HWO⟩ : ∃ wo : World, Hid (wo = wr) := ⟨_, Lib.hid rfl⟩
        go_loopw [6, 7] (fun vw i wr => ∃ (a : Nat), i = .int .i64 a ∧ a ≤ n ∧ Hid (KW w1 w1.heap.size w1.heap.size n C M vw a wr)) (fun _ i _ => n - (intOf i).toNat)
        case atStart => exact ⟨0, rfl, Nat.zero_le _, HW0⟩
        case round =>
          obtain ⟨a, rfl, ha, HW⟩ := hrel
          by_cases hlt2 : a < n
          · have q1 := fun w' (h : KW w1 w1.heap.size w1.heap.size n C M u6 a w') => kw_of h a hlt2
            have q2 := fun w' (h : KW w1 w1.heap.size w1.heap.size n C M u6 a w') => kw_least h a hlt2
            obtain ⟨i0, hi, hz0, hz1, hz2⟩ := info_parts infoz29
            go_wp2_with (first | (go_at_call 11; (with_reducible refine (q1 _ HW.out).mono ?_); rintro e w5 ⟨rfl, hk5⟩; clear HW; have HW := Lib.hid hk5; clear hk5) | (go_at_call 12; (with_reducible refine (q2 _ HW.out).mono ?_); rintro e w6 ⟨rfl, hk5⟩; clear HW; have HW := Lib.hid hk5; clear hk5) | (at_builtin; go_must (refine wpList_append_own _ rfl _ _ 27 rfl w1.heap.size 29 i0 (.agg #[.int .i64 0, .int .i64 0]) 2 16 Try.underlying27 hi hz0 hz1 hz2 rfl (by decide) _ _ _ rfl (HW.out.own.1.alloc _) ⟨_, 0, none⟩ 1 1 [.int .i64 (M a), .int .i64 (C a : Int)] rfl rfl ?c1 ?c2 ?c3 ?c4 ?c5 ?_)))
            case c1 =>
              intro j u hj
              rw [addr_add0]
              rw [cell_of_row _ _ j #[.int .i64 (M a), .int .i64 (C a : Int)] 29 (0, 0) (heap_alloc_new _ _)]
              simpa using hj
            case c2 =>
              intro u hu
              simp only [List.mem_cons, List.not_mem_nil, or_false] at hu
              rcases hu with rfl | rfl <;> rfl
            case c3 => unfold maxLen; omega
            case c4 => omega
            case c5 => have := HW.out.own.2; simp; omega
            intro v' w7 hown hgrow _
            have HW2 := Lib.hid (HW.out.more rfl hown hgrow)
            clear hown hgrow q1 q2 hi hz0 hz1 hz2
            go_wp2
            go_roundw
            case rel => exact ⟨a + 1, by go_num, by omega, HW2⟩
            case measure => simp [intOf]; omega
          · obtain rfl : a = n := by omega
            have hsc2 : Sc wr w.heap.size (some ⟨b, off, none⟩) len f := by
              obtain ⟨v, _, hb, _⟩ := HW.out
              exact (HSC.out.below hB1.out (Nat.le_refl _)).below hb hB1.out.size
            obtain ⟨b', off', eA, _, e1, e2, e3⟩ := hsc2 k hlt
            simp only [Option.some.injEq, Addr.mk.injEq, and_true] at eA
            obtain ⟨rfl, rfl⟩ := eA
            rw [HX.out.1] at e1
            rw [HX.out.2.1] at e2
            rw [HX.out.2.2] at e3
            have hst := St.step_n ⟨a, C, M⟩ (kd x1) x2 x3
            have hdo := fun w' (h : KW w1 w1.heap.size w1.heap.size a C M u6 a w') => kw_does ⟨a, C, M⟩ h x1 x2 x3 (fun _ => by show a + 1 ≤ _; omega)
            have hrf := St.refused ⟨a, C, M⟩ (kd x1) x2 x3
            clear hsc2 hlt2 ha
            obtain ⟨ok, hok⟩ : ∃ ok, St.ok ⟨a, C, M⟩ (kd x1) x2 x3 = ok := ⟨_, rfl⟩
            obtain ⟨s', hs'⟩ : ∃ s', St.step ⟨a, C, M⟩ (kd x1) x2 x3 = s' := ⟨_, rfl⟩
            rw [hok, hs'] at hdo hrf
            rw [hs'] at hst
            clear hok hs'
            have hst' : s'.n ≤ k + 1 := Nat.le_trans hst (by show a + 1 ≤ k + 1; omega)
            clear hst
            cases ok with
            | true =>
              clear hrf
              go_wp2_with (first | (go_at_call 13; (with_reducible refine (hdo _ HW.out).mono ?_); rintro e w8 ⟨rfl, hk8, _⟩; replace hk8 := Lib.hid hk8))
              go_roundw
              case rel => exact ⟨k + 1, s', by go_num, by omega, by omega, hst', hk8⟩
              case measure => simp [intOf]; omega
            | false =>
              have hrf' := hrf rfl
              subst hrf'
              clear hrf
              go_wp2_with (first | (go_at_call 13; (with_reducible refine (hdo _ HW.out).mono ?_); rintro e w8 ⟨rfl, hk8, hk9⟩; replace hk8 := Lib.hid hk8; replace hk9 := Lib.hid (hk9 rfl)))
              go_loopw [8] (fun i wr => ∃ (c : Nat), i = .int .i64 c ∧ c ≤ a ∧ Hid (KW w1 w1.heap.size w1.heap.size a C M u6 a wr)) (fun i _ => a - (intOf i).toNat)
              case atStart => exact ⟨0, rfl, Nat.zero_le _, hk9⟩
              case round =>
                obtain ⟨c, rfl, hc, HV⟩ := hrel
                by_cases hlt3 : c < a
                · have q1 := fun w' (h : KW w1 w1.heap.size w1.heap.size a C M u6 a w') => kw_of h c hlt3
                  have q2 := fun w' (h : KW w1 w1.heap.size w1.heap.size a C M u6 a w') => kw_least h c hlt3
                  obtain ⟨gw, capw, rfl, hcap, hcap2⟩ : ∃ gw capw, u6 = .slice (some ⟨gw, 0, none⟩) a capw ∧ a ≤ capw ∧ capw ≤ maxLen := by
                    rcases HV.out.own.1.2 with ⟨_, e⟩ | ⟨g, cap2, cur, e, _, _, h1, h2, _⟩
                    · omega
                    · exact ⟨g, cap2, e, h1, h2⟩
                  have hfl := flat_get C M a c hlt3
                  have hcells : Hid (∀ w', KW w1 w1.heap.size w1.heap.size a C M (.slice (some ⟨gw, 0, none⟩) a capw) a w' → w'.cell? ⟨gw, c * 2, none⟩ = some (.int .i64 (M c)) ∧ w'.cell? ⟨gw, c * 2 + 1, none⟩ = some (.int .i64 (C c : Int))) := by
                    refine Lib.hid fun w' h => ?_
                    have ho := h.own.1
                    rw [ho.cellAt (c * 2) (by omega), ho.cellAt (c * 2 + 1) (by omega)]
                    exact hfl
                  have hu2 : capw ≤ 9223372036854775807 := by unfold maxLen at hcap2; exact hcap2
                  clear hcap2 hfl e1 e2 e3
                  obtain ⟨c1, c2⟩ := hcells.out _ HV.out
                  have hne := arr_neq (M c) (C c : Int)
                  go_wp2
                  go_region_held3 (fun w' => w'.cell? ⟨gw, c * 2, none⟩ = some (.int .i64 (M c)) ∧ w'.cell? ⟨gw, c * 2 + 1, none⟩ = some (.int .i64 (C c : Int))) (first | go_keep | (exact hcells.out _ HV.out)) (first | (go_at_call 11; (first | (with_reducible refine (q1 _ HV.out).mono ?_) | (with_reducible refine (q1 _ HV.out.drew).mono ?_)); rintro e w5 ⟨rfl, hk5⟩; clear HV; have HV := Lib.hid hk5; clear hk5) | (go_at_call 12; (first | (with_reducible refine (q2 _ HV.out).mono ?_) | (with_reducible refine (q2 _ HV.out.drew).mono ?_)); rintro e w6 ⟨rfl, hk5⟩; clear HV; have HV := Lib.hid hk5; clear hk5))
                  go_wp2
                  go_roundw
                  case rel => exact ⟨c + 1, by go_num, by omega, by first | exact HV | exact Lib.hid (HV.out.drewN _) | exact Lib.hid HV.out.drew⟩
                  case measure => simp [intOf]; omega
                · go_wp2
                  go_roundw
                  case rel =>
                    obtain ⟨v, h1, h2, h3, _⟩ := HV.out
                    exact ⟨k + 1, ⟨a, C, M⟩, by go_num, by omega, by omega, hst', Lib.hid ⟨v, h1, h2, h3⟩⟩
                  case measure => simp [intOf]; omega
      · go_wp2
        go_ret
        exact ⟨rfl, done.out _ HK.out⟩
    · go_wp2
      go_ret
      exact ⟨rfl, done.out _ HK.out⟩
end Go.Proofs.Ytdopccbnnmaccaa.Kn
