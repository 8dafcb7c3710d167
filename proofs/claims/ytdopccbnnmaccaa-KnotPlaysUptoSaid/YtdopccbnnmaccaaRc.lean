/- The reference's Tie. -/
import Derived.Test.YtdopccbnnmaccaaRb
import Derived.Test.YtdopccbnnmaccaaKg
namespace Go.Proofs.Ytdopccbnnmaccaa.Kn
open Go.RowKit
set_option linter.unusedVariables false
set_option linter.unusedSimpArgs false
set_option maxHeartbeats 4000000
attribute [local go_sem] max2_int min2_int max_two min_two

section
variable {w : World} {base mb n : Nat} {vC vM : Value} {C : Nat → Nat} {M : Nat → Int}
theorem rtie_out (h : RS w base mb vC vM n C M) (a b : Int) (hout : ¬ (0 ≤ a ∧ a < n ∧ 0 ≤ b ∧ b < n)) :
    Calls Try.prog 20 #[.pointer (some ⟨mb, 0, none⟩), .int .i64 a, .int .i64 b] w fun e w' => e = .returned (.bool false) ∧ ∃ k, w' = w.drewN k := by
  by_cases ha : 0 ≤ a ∧ a < n
  · have his := fun k => is_same (h.drewN k) a true (by simp [isB]; omega)
    have his2 := fun k => is_same (h.drewN k) b false (by simp [isB]; omega)
    clear h ha hout
    go_enter Try.func20, Try.ntmps20
    go_wp2
    go_quiet ((go_at_call 26; first | (with_reducible exact Calls.quiet_of_same (his _)) | (with_reducible exact Calls.quiet_of_same (his2 _))))
    go_wp2
    go_ret
    exact ⟨rfl, _, rfl⟩
  · have his := fun k => is_same (h.drewN k) a false (by simp [isB]; omega)
    clear h ha hout
    go_enter Try.func20, Try.ntmps20
    go_wp2
    go_quiet ((go_at_call 26; first | (with_reducible exact Calls.quiet_of_same (his _))))
    go_wp2
    go_ret
    exact ⟨rfl, _, rfl⟩


/-- Classes and marks as far as the loop has come. -/
def tcUp (C : Nat → Nat) (c d : Nat) (i : Nat) : Nat → Nat := fun j => if j < i ∧ (C j = c ∨ C j = d) then min c d else C j
def tmUp (C : Nat → Nat) (M : Nat → Int) (c d : Nat) (m : Int) (i : Nat) : Nat → Int := fun j => if j < i ∧ (C j = c ∨ C j = d) then m else M j
theorem mnI_nat (c d : Nat) : mnI (c : Int) (d : Int) = ((min c d : Nat) : Int) := by unfold mnI; omega


theorem rtie_c (h : RS w base mb vC vM n C M) (i j : Nat) (hi : i < n) (hj : j < n) (mx my : Int) (hmx : M i = mx) (hmy : M j = my) (e1 : (mx != 0) = true) (e2 : (my != 0) = true) (e3 : (mx != my) = true) :
    Calls Try.prog 20 #[.pointer (some ⟨mb, 0, none⟩), .int .i64 i, .int .i64 j] w fun e w' => e = .returned (.bool false) ∧ ∃ k, w' = w.drewN k := by
  have his := fun k => is_same (h.drewN k) (i : Int) true (by simp [isB]; omega)
  have his2 := fun k => is_same (h.drewN k) (j : Int) true (by simp [isB]; omega)
  obtain ⟨gC, gM, cC, cM, rfl, rfl, h1, h2, h3, h4, h5, h6, h7⟩ := h.forms (by omega)
  have hp := h.ptrC
  have hp2 := h.ptrM
  have c1 := h.cellM i hi
  have c2 := h.cellM j hj
  have hu : cC ≤ 9223372036854775807 := by unfold maxLen at h3; exact h3
  have hu2 : cM ≤ 9223372036854775807 := by unfold maxLen at h4; exact h4
  have HR := Lib.hid h
  rw [hmx] at c1
  rw [hmy] at c2
  have HMX := Lib.hid hmx
  have HMY := Lib.hid hmy
  have i0 : (0 : Int) ≤ (i : Int) := by omega
  have i1 : (i : Int) < (n : Int) := by omega
  have j0 : (0 : Int) ≤ (j : Int) := by omega
  have j1 : (j : Int) < (n : Int) := by omega
  clear h h3 h4 hmx hmy
  go_enter Try.func20, Try.ntmps20
  go_wp2
  go_quiet ((go_at_call 26; first | (with_reducible exact Calls.quiet_of_same (his _)) | (with_reducible exact Calls.quiet_of_same (his2 _))))
  go_wp2
  go_ret
  exact ⟨rfl, _, rfl⟩


theorem rtie_z (h : RS w base mb vC vM n C M) (i j : Nat) (hi : i < n) (hj : j < n) (mx my : Int) (hmx : M i = mx) (hmy : M j = my) (e1 : (mx != 0) = false) :
    Calls Try.prog 20 #[.pointer (some ⟨mb, 0, none⟩), .int .i64 i, .int .i64 j] w fun e w' => e = .returned (.bool true) ∧ RS w' base mb vC vM n (tieC C i j) (tieM C M i j) ∧ FrR mb vC.ownBlock vM.ownBlock w w' := by
  have his := fun k => is_same (h.drewN k) (i : Int) true (by simp [isB]; omega)
  have his2 := fun k => is_same (h.drewN k) (j : Int) true (by simp [isB]; omega)
  obtain ⟨gC, gM, cC, cM, rfl, rfl, h1, h2, h3, h4, h5, h6, h7⟩ := h.forms (by omega)
  have hp := h.ptrC
  have hp2 := h.ptrM
  have c1 := h.cellM i hi
  have c2 := h.cellM j hj
  have hu : cC ≤ 9223372036854775807 := by unfold maxLen at h3; exact h3
  have hu2 : cM ≤ 9223372036854775807 := by unfold maxLen at h4; exact h4
  have HR := Lib.hid h
  rw [hmx] at c1
  rw [hmy] at c2
  have HMX := Lib.hid hmx
  have HMY := Lib.hid hmy
  have i0 : (0 : Int) ≤ (i : Int) := by omega
  have i1 : (i : Int) < (n : Int) := by omega
  have j0 : (0 : Int) ≤ (j : Int) := by omega
  have j1 : (j : Int) < (n : Int) := by omega
  clear h h3 h4 hmx hmy
  go_enter Try.func20, Try.ntmps20
  go_wp2
  go_quiet ((go_at_call 26; first | (with_reducible exact Calls.quiet_of_same (his _)) | (with_reducible exact Calls.quiet_of_same (his2 _))))
  go_wp2
  clear hp hp2 c1 c2 his his2
  refine gen_world (S := fun w3 => RS w3 base mb (.slice (some ⟨gC, 0, none⟩) n cC) (.slice (some ⟨gM, 0, none⟩) n cM) n C M ∧ FrR mb (some gC) (some gM) w w3) ⟨HR.out.drewN _, (FrR.refl _ _ _ _).drewN _⟩ ?_
  rintro w3 ⟨hr3, hf3⟩
  have hp := hr3.ptrC
  have hp2 := hr3.ptrM
  have c1 := hr3.cellM i hi
  have c2 := hr3.cellM j hj
  rw [HMX.out] at c1
  rw [HMY.out] at c2
  have x1 := hr3.cellC i hi
  have x2 := hr3.cellC j hj
  obtain ⟨ci, Hci⟩ : ∃ c, Hid (C i = c) := ⟨_, Lib.hid rfl⟩
  obtain ⟨cj, Hcj⟩ : ∃ c, Hid (C j = c) := ⟨_, Lib.hid rfl⟩
  rw [Hci.out] at x1
  rw [Hcj.out] at x2
  replace hr3 := Lib.hid hr3
  replace hf3 := Lib.hid hf3
  go_quiet (fail)
  go_wp2
  go_quiet (fail)
  go_wp2
  refine gen_world (S := fun w4 => RS w4 base mb (.slice (some ⟨gC, 0, none⟩) n cC) (.slice (some ⟨gM, 0, none⟩) n cM) n C M ∧ FrR mb (some gC) (some gM) w w4) (by first | exact ⟨(hr3.out.drewN _).drewN _, (hf3.out.drewN _).drewN _⟩ | exact ⟨hr3.out.drewN _, hf3.out.drewN _⟩) ?_
  rintro w4 ⟨hr4, hf4⟩
  replace hr4 := Lib.hid hr4
  replace hf4 := Lib.hid hf4
  clear hp hp2 c1 c2 x1 x2
  go_loopw [10] (fun v wr => ∃ k : Nat, v = .int .i64 k ∧ k ≤ n ∧ Hid (RS wr base mb (.slice (some ⟨gC, 0, none⟩) n cC) (.slice (some ⟨gM, 0, none⟩) n cM) n (tcUp C ci cj k) (tmUp C M ci cj (mxI mx my) k)) ∧ Hid (FrR mb (some gC) (some gM) w wr)) (fun v _ => n - (intOf v).toNat)
  case atStart => exact ⟨0, rfl, Nat.zero_le _, Lib.hid (hr4.out.congr (fun k hk => by simp [tcUp]) (fun k hk => by simp [tmUp])), hf4⟩
  case round =>
    obtain ⟨k, rfl, hk, HRk, HFk⟩ := hrel
    have hp := HRk.out.ptrC
    have hp2 := HRk.out.ptrM
    by_cases hlt : k < n
    · have c1 := HRk.out.cellC k hlt
      have c2 := HRk.out.cellM k hlt
      have z1 := HRk.out.freeC k
      have z2 := HRk.out.freeM k
      have ec : tcUp C ci cj k k = C k := by simp [tcUp]
      rw [ec] at c1
      clear ec
      obtain ⟨ck, Hck⟩ : ∃ c, Hid (C k = c) := ⟨_, Lib.hid rfl⟩
      rw [Hck.out] at c1
      by_cases e : ck = ci ∨ ck = cj
      · have HE := Lib.hid e
        have fork : ((ck : Int) == (ci : Int)) = true ∨ (((ck : Int) == (ci : Int)) = false ∧ ((ck : Int) == (cj : Int)) = true) := by
          by_cases q : ck = ci
          · left; simp [q]
          · right; rcases e with q2 | q2
            · exact absurd q2 q
            · exact ⟨by simp; omega, by simp [q2]⟩
        clear e
        rcases fork with q | ⟨q, q'⟩
        all_goals
          go_wp2
          go_roundw
          case rel =>
            have e := HE.out
            have hs := ((HRk.out.setC h5 h6 k (min ci cj)).setM h5 h7 k (mxI mx my))
            rw [← mnI_nat] at hs
            refine ⟨k + 1, by go_num, by omega, Lib.hid (hs.congr (fun x hx => ?_) (fun x hx => ?_)), Lib.hid ((HFk.out.set_C k _).set_M k _)⟩
            · simp only [tcUp]
              by_cases ek : x = k
              · subst ek; rw [Hck.out]; simp [e]
              · have t : x < k + 1 ↔ x < k := by omega
                simp [ek, t]
            · simp only [tmUp]
              by_cases ek : x = k
              · subst ek; rw [Hck.out]; simp [e]
              · have t : x < k + 1 ↔ x < k := by omega
                simp [ek, t]
          case measure => simp [intOf]; omega
      · have d1 : ((ck : Int) == (ci : Int)) = false := by simp; omega
        have d2 : ((ck : Int) == (cj : Int)) = false := by simp; omega
        have HE := Lib.hid e
        clear e
        go_wp2
        go_roundw
        case rel =>
          have e := HE.out
          refine ⟨k + 1, by go_num, by omega, Lib.hid (HRk.out.congr (fun x hx => ?_) (fun x hx => ?_)), HFk⟩
          · simp only [tcUp]
            by_cases ek : x = k
            · subst ek; rw [Hck.out]; simp [e]
            · have t : x < k + 1 ↔ x < k := by omega
              simp [t]
          · simp only [tmUp]
            by_cases ek : x = k
            · subst ek; rw [Hck.out]; simp [e]
            · have t : x < k + 1 ↔ x < k := by omega
              simp [t]
        case measure => simp [intOf]; omega
    · obtain rfl : k = n := by omega
      go_wp2
      go_ret
      refine ⟨rfl, HRk.out.congr (fun x hx => ?_) (fun x hx => ?_), HFk.out⟩
      · simp only [tieC, tcUp, Int.toNat_natCast, hx, true_and, Hci.out, Hcj.out]
      · simp only [tieM, tmUp, Int.toNat_natCast, hx, true_and, Hci.out, Hcj.out, HMX.out, HMY.out]
        rfl


theorem rtie_y (h : RS w base mb vC vM n C M) (i j : Nat) (hi : i < n) (hj : j < n) (mx my : Int) (hmx : M i = mx) (hmy : M j = my) (e1 : (mx != 0) = true) (e2 : (my != 0) = false) :
    Calls Try.prog 20 #[.pointer (some ⟨mb, 0, none⟩), .int .i64 i, .int .i64 j] w fun e w' => e = .returned (.bool true) ∧ RS w' base mb vC vM n (tieC C i j) (tieM C M i j) ∧ FrR mb vC.ownBlock vM.ownBlock w w' := by
  have his := fun k => is_same (h.drewN k) (i : Int) true (by simp [isB]; omega)
  have his2 := fun k => is_same (h.drewN k) (j : Int) true (by simp [isB]; omega)
  obtain ⟨gC, gM, cC, cM, rfl, rfl, h1, h2, h3, h4, h5, h6, h7⟩ := h.forms (by omega)
  have hp := h.ptrC
  have hp2 := h.ptrM
  have c1 := h.cellM i hi
  have c2 := h.cellM j hj
  have hu : cC ≤ 9223372036854775807 := by unfold maxLen at h3; exact h3
  have hu2 : cM ≤ 9223372036854775807 := by unfold maxLen at h4; exact h4
  have HR := Lib.hid h
  rw [hmx] at c1
  rw [hmy] at c2
  have HMX := Lib.hid hmx
  have HMY := Lib.hid hmy
  have i0 : (0 : Int) ≤ (i : Int) := by omega
  have i1 : (i : Int) < (n : Int) := by omega
  have j0 : (0 : Int) ≤ (j : Int) := by omega
  have j1 : (j : Int) < (n : Int) := by omega
  clear h h3 h4 hmx hmy
  go_enter Try.func20, Try.ntmps20
  go_wp2
  go_quiet ((go_at_call 26; first | (with_reducible exact Calls.quiet_of_same (his _)) | (with_reducible exact Calls.quiet_of_same (his2 _))))
  go_wp2
  clear hp hp2 c1 c2 his his2
  refine gen_world (S := fun w3 => RS w3 base mb (.slice (some ⟨gC, 0, none⟩) n cC) (.slice (some ⟨gM, 0, none⟩) n cM) n C M ∧ FrR mb (some gC) (some gM) w w3) ⟨HR.out.drewN _, (FrR.refl _ _ _ _).drewN _⟩ ?_
  rintro w3 ⟨hr3, hf3⟩
  have hp := hr3.ptrC
  have hp2 := hr3.ptrM
  have c1 := hr3.cellM i hi
  have c2 := hr3.cellM j hj
  rw [HMX.out] at c1
  rw [HMY.out] at c2
  have x1 := hr3.cellC i hi
  have x2 := hr3.cellC j hj
  obtain ⟨ci, Hci⟩ : ∃ c, Hid (C i = c) := ⟨_, Lib.hid rfl⟩
  obtain ⟨cj, Hcj⟩ : ∃ c, Hid (C j = c) := ⟨_, Lib.hid rfl⟩
  rw [Hci.out] at x1
  rw [Hcj.out] at x2
  replace hr3 := Lib.hid hr3
  replace hf3 := Lib.hid hf3
  go_quiet (fail)
  go_wp2
  go_quiet (fail)
  go_wp2
  refine gen_world (S := fun w4 => RS w4 base mb (.slice (some ⟨gC, 0, none⟩) n cC) (.slice (some ⟨gM, 0, none⟩) n cM) n C M ∧ FrR mb (some gC) (some gM) w w4) (by first | exact ⟨(hr3.out.drewN _).drewN _, (hf3.out.drewN _).drewN _⟩ | exact ⟨hr3.out.drewN _, hf3.out.drewN _⟩) ?_
  rintro w4 ⟨hr4, hf4⟩
  replace hr4 := Lib.hid hr4
  replace hf4 := Lib.hid hf4
  clear hp hp2 c1 c2 x1 x2
  go_loopw [10] (fun v wr => ∃ k : Nat, v = .int .i64 k ∧ k ≤ n ∧ Hid (RS wr base mb (.slice (some ⟨gC, 0, none⟩) n cC) (.slice (some ⟨gM, 0, none⟩) n cM) n (tcUp C ci cj k) (tmUp C M ci cj (mxI mx my) k)) ∧ Hid (FrR mb (some gC) (some gM) w wr)) (fun v _ => n - (intOf v).toNat)
  case atStart => exact ⟨0, rfl, Nat.zero_le _, Lib.hid (hr4.out.congr (fun k hk => by simp [tcUp]) (fun k hk => by simp [tmUp])), hf4⟩
  case round =>
    obtain ⟨k, rfl, hk, HRk, HFk⟩ := hrel
    have hp := HRk.out.ptrC
    have hp2 := HRk.out.ptrM
    by_cases hlt : k < n
    · have c1 := HRk.out.cellC k hlt
      have c2 := HRk.out.cellM k hlt
      have z1 := HRk.out.freeC k
      have z2 := HRk.out.freeM k
      have ec : tcUp C ci cj k k = C k := by simp [tcUp]
      rw [ec] at c1
      clear ec
      obtain ⟨ck, Hck⟩ : ∃ c, Hid (C k = c) := ⟨_, Lib.hid rfl⟩
      rw [Hck.out] at c1
      by_cases e : ck = ci ∨ ck = cj
      · have HE := Lib.hid e
        have fork : ((ck : Int) == (ci : Int)) = true ∨ (((ck : Int) == (ci : Int)) = false ∧ ((ck : Int) == (cj : Int)) = true) := by
          by_cases q : ck = ci
          · left; simp [q]
          · right; rcases e with q2 | q2
            · exact absurd q2 q
            · exact ⟨by simp; omega, by simp [q2]⟩
        clear e
        rcases fork with q | ⟨q, q'⟩
        all_goals
          go_wp2
          go_roundw
          case rel =>
            have e := HE.out
            have hs := ((HRk.out.setC h5 h6 k (min ci cj)).setM h5 h7 k (mxI mx my))
            rw [← mnI_nat] at hs
            refine ⟨k + 1, by go_num, by omega, Lib.hid (hs.congr (fun x hx => ?_) (fun x hx => ?_)), Lib.hid ((HFk.out.set_C k _).set_M k _)⟩
            · simp only [tcUp]
              by_cases ek : x = k
              · subst ek; rw [Hck.out]; simp [e]
              · have t : x < k + 1 ↔ x < k := by omega
                simp [ek, t]
            · simp only [tmUp]
              by_cases ek : x = k
              · subst ek; rw [Hck.out]; simp [e]
              · have t : x < k + 1 ↔ x < k := by omega
                simp [ek, t]
          case measure => simp [intOf]; omega
      · have d1 : ((ck : Int) == (ci : Int)) = false := by simp; omega
        have d2 : ((ck : Int) == (cj : Int)) = false := by simp; omega
        have HE := Lib.hid e
        clear e
        go_wp2
        go_roundw
        case rel =>
          have e := HE.out
          refine ⟨k + 1, by go_num, by omega, Lib.hid (HRk.out.congr (fun x hx => ?_) (fun x hx => ?_)), HFk⟩
          · simp only [tcUp]
            by_cases ek : x = k
            · subst ek; rw [Hck.out]; simp [e]
            · have t : x < k + 1 ↔ x < k := by omega
              simp [t]
          · simp only [tmUp]
            by_cases ek : x = k
            · subst ek; rw [Hck.out]; simp [e]
            · have t : x < k + 1 ↔ x < k := by omega
              simp [t]
        case measure => simp [intOf]; omega
    · obtain rfl : k = n := by omega
      go_wp2
      go_ret
      refine ⟨rfl, HRk.out.congr (fun x hx => ?_) (fun x hx => ?_), HFk.out⟩
      · simp only [tieC, tcUp, Int.toNat_natCast, hx, true_and, Hci.out, Hcj.out]
      · simp only [tieM, tmUp, Int.toNat_natCast, hx, true_and, Hci.out, Hcj.out, HMX.out, HMY.out]
        rfl


theorem rtie_e (h : RS w base mb vC vM n C M) (i j : Nat) (hi : i < n) (hj : j < n) (mx my : Int) (hmx : M i = mx) (hmy : M j = my) (e1 : (mx != 0) = true) (e2 : (my != 0) = true) (e3 : (mx != my) = false) :
    Calls Try.prog 20 #[.pointer (some ⟨mb, 0, none⟩), .int .i64 i, .int .i64 j] w fun e w' => e = .returned (.bool true) ∧ RS w' base mb vC vM n (tieC C i j) (tieM C M i j) ∧ FrR mb vC.ownBlock vM.ownBlock w w' := by
  have his := fun k => is_same (h.drewN k) (i : Int) true (by simp [isB]; omega)
  have his2 := fun k => is_same (h.drewN k) (j : Int) true (by simp [isB]; omega)
  obtain ⟨gC, gM, cC, cM, rfl, rfl, h1, h2, h3, h4, h5, h6, h7⟩ := h.forms (by omega)
  have hp := h.ptrC
  have hp2 := h.ptrM
  have c1 := h.cellM i hi
  have c2 := h.cellM j hj
  have hu : cC ≤ 9223372036854775807 := by unfold maxLen at h3; exact h3
  have hu2 : cM ≤ 9223372036854775807 := by unfold maxLen at h4; exact h4
  have HR := Lib.hid h
  rw [hmx] at c1
  rw [hmy] at c2
  have HMX := Lib.hid hmx
  have HMY := Lib.hid hmy
  have i0 : (0 : Int) ≤ (i : Int) := by omega
  have i1 : (i : Int) < (n : Int) := by omega
  have j0 : (0 : Int) ≤ (j : Int) := by omega
  have j1 : (j : Int) < (n : Int) := by omega
  clear h h3 h4 hmx hmy
  go_enter Try.func20, Try.ntmps20
  go_wp2
  go_quiet ((go_at_call 26; first | (with_reducible exact Calls.quiet_of_same (his _)) | (with_reducible exact Calls.quiet_of_same (his2 _))))
  go_wp2
  clear hp hp2 c1 c2 his his2
  refine gen_world (S := fun w3 => RS w3 base mb (.slice (some ⟨gC, 0, none⟩) n cC) (.slice (some ⟨gM, 0, none⟩) n cM) n C M ∧ FrR mb (some gC) (some gM) w w3) ⟨HR.out.drewN _, (FrR.refl _ _ _ _).drewN _⟩ ?_
  rintro w3 ⟨hr3, hf3⟩
  have hp := hr3.ptrC
  have hp2 := hr3.ptrM
  have c1 := hr3.cellM i hi
  have c2 := hr3.cellM j hj
  rw [HMX.out] at c1
  rw [HMY.out] at c2
  have x1 := hr3.cellC i hi
  have x2 := hr3.cellC j hj
  obtain ⟨ci, Hci⟩ : ∃ c, Hid (C i = c) := ⟨_, Lib.hid rfl⟩
  obtain ⟨cj, Hcj⟩ : ∃ c, Hid (C j = c) := ⟨_, Lib.hid rfl⟩
  rw [Hci.out] at x1
  rw [Hcj.out] at x2
  replace hr3 := Lib.hid hr3
  replace hf3 := Lib.hid hf3
  go_quiet (fail)
  go_wp2
  go_quiet (fail)
  go_wp2
  refine gen_world (S := fun w4 => RS w4 base mb (.slice (some ⟨gC, 0, none⟩) n cC) (.slice (some ⟨gM, 0, none⟩) n cM) n C M ∧ FrR mb (some gC) (some gM) w w4) (by first | exact ⟨(hr3.out.drewN _).drewN _, (hf3.out.drewN _).drewN _⟩ | exact ⟨hr3.out.drewN _, hf3.out.drewN _⟩) ?_
  rintro w4 ⟨hr4, hf4⟩
  replace hr4 := Lib.hid hr4
  replace hf4 := Lib.hid hf4
  clear hp hp2 c1 c2 x1 x2
  go_loopw [10] (fun v wr => ∃ k : Nat, v = .int .i64 k ∧ k ≤ n ∧ Hid (RS wr base mb (.slice (some ⟨gC, 0, none⟩) n cC) (.slice (some ⟨gM, 0, none⟩) n cM) n (tcUp C ci cj k) (tmUp C M ci cj (mxI mx my) k)) ∧ Hid (FrR mb (some gC) (some gM) w wr)) (fun v _ => n - (intOf v).toNat)
  case atStart => exact ⟨0, rfl, Nat.zero_le _, Lib.hid (hr4.out.congr (fun k hk => by simp [tcUp]) (fun k hk => by simp [tmUp])), hf4⟩
  case round =>
    obtain ⟨k, rfl, hk, HRk, HFk⟩ := hrel
    have hp := HRk.out.ptrC
    have hp2 := HRk.out.ptrM
    by_cases hlt : k < n
    · have c1 := HRk.out.cellC k hlt
      have c2 := HRk.out.cellM k hlt
      have z1 := HRk.out.freeC k
      have z2 := HRk.out.freeM k
      have ec : tcUp C ci cj k k = C k := by simp [tcUp]
      rw [ec] at c1
      clear ec
      obtain ⟨ck, Hck⟩ : ∃ c, Hid (C k = c) := ⟨_, Lib.hid rfl⟩
      rw [Hck.out] at c1
      by_cases e : ck = ci ∨ ck = cj
      · have HE := Lib.hid e
        have fork : ((ck : Int) == (ci : Int)) = true ∨ (((ck : Int) == (ci : Int)) = false ∧ ((ck : Int) == (cj : Int)) = true) := by
          by_cases q : ck = ci
          · left; simp [q]
          · right; rcases e with q2 | q2
            · exact absurd q2 q
            · exact ⟨by simp; omega, by simp [q2]⟩
        clear e
        rcases fork with q | ⟨q, q'⟩
        all_goals
          go_wp2
          go_roundw
          case rel =>
            have e := HE.out
            have hs := ((HRk.out.setC h5 h6 k (min ci cj)).setM h5 h7 k (mxI mx my))
            rw [← mnI_nat] at hs
            refine ⟨k + 1, by go_num, by omega, Lib.hid (hs.congr (fun x hx => ?_) (fun x hx => ?_)), Lib.hid ((HFk.out.set_C k _).set_M k _)⟩
            · simp only [tcUp]
              by_cases ek : x = k
              · subst ek; rw [Hck.out]; simp [e]
              · have t : x < k + 1 ↔ x < k := by omega
                simp [ek, t]
            · simp only [tmUp]
              by_cases ek : x = k
              · subst ek; rw [Hck.out]; simp [e]
              · have t : x < k + 1 ↔ x < k := by omega
                simp [ek, t]
          case measure => simp [intOf]; omega
      · have d1 : ((ck : Int) == (ci : Int)) = false := by simp; omega
        have d2 : ((ck : Int) == (cj : Int)) = false := by simp; omega
        have HE := Lib.hid e
        clear e
        go_wp2
        go_roundw
        case rel =>
          have e := HE.out
          refine ⟨k + 1, by go_num, by omega, Lib.hid (HRk.out.congr (fun x hx => ?_) (fun x hx => ?_)), HFk⟩
          · simp only [tcUp]
            by_cases ek : x = k
            · subst ek; rw [Hck.out]; simp [e]
            · have t : x < k + 1 ↔ x < k := by omega
              simp [t]
          · simp only [tmUp]
            by_cases ek : x = k
            · subst ek; rw [Hck.out]; simp [e]
            · have t : x < k + 1 ↔ x < k := by omega
              simp [t]
        case measure => simp [intOf]; omega
    · obtain rfl : k = n := by omega
      go_wp2
      go_ret
      refine ⟨rfl, HRk.out.congr (fun x hx => ?_) (fun x hx => ?_), HFk.out⟩
      · simp only [tieC, tcUp, Int.toNat_natCast, hx, true_and, Hci.out, Hcj.out]
      · simp only [tieM, tmUp, Int.toNat_natCast, hx, true_and, Hci.out, Hcj.out, HMX.out, HMY.out]
        rfl

end
end Go.Proofs.Ytdopccbnnmaccaa.Kn
