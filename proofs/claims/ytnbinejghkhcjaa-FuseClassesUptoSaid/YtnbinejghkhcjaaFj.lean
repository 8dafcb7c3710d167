/- How many statements there are: the law's own count. -/
import Derived.Test.YtnbinejghkhcjaaFf
namespace Go.Proofs.Ytnbinejghkhcjaa.Fu
open Go.RowKit
set_option linter.unusedVariables false
set_option linter.unusedSimpArgs false
set_option maxHeartbeats 4000000

/-- The arms' part of the count. -/
def szArms (l : List Stm) : Nat := (l.map fun s => szA 0 s.arms).sum
theorem szArms_eq (l : List Stm) : szB 0 l = l.length + szArms l := by
  induction l with
  | nil => rfl
  | cons s r ih => simp only [szB, szArms, List.map_cons, List.sum_cons, List.length_cons] at ih ⊢; rw [szS_eq, ih]; omega
theorem szArms_snoc (l : List Stm) (s : Stm) : szArms (l ++ [s]) = szArms l + szA 0 s.arms := by simp [szArms]
theorem szArms_append (x y : List Stm) : szArms (x ++ y) = szArms x + szArms y := by simp [szArms]
theorem sz01 : (∀ l : List Stm, szB 0 l ≤ szB 1 l) := by
  intro l
  suffices h : ∀ n, ∀ l : List Stm, szB 1 l ≤ n → szB 0 l ≤ szB 1 l from h _ l (Nat.le_refl _)
  intro n
  induction n with
  | zero => intro l h; cases l with
    | nil => simp [szB]
    | cons s r => simp only [szB] at h; rw [szS_eq] at h; omega
  | succ n ih =>
    intro l h
    have hA : ∀ arms : List Arm, szA 1 arms ≤ n → szA 0 arms ≤ szA 1 arms := by
      intro arms
      induction arms with
      | nil => intro _; simp [szA]
      | cons a r ihr =>
        intro h
        simp only [szA] at h ⊢
        rw [szR_eq] at h ⊢
        rw [szR_eq]
        have h1 := ihr (by omega)
        have h2 := ih a.body (by omega)
        omega
    induction l with
    | nil => simp [szB]
    | cons s r ihr =>
      simp only [szB] at h ⊢
      rw [szS_eq] at h ⊢
      rw [szS_eq]
      have h1 := hA s.arms (by omega)
      have h2 := ihr (by omega)
      omega
theorem szArms_bound {l : List Stm} {m : Nat} {s : Stm} (h : l[m]? = some s) (arms : List Arm) (j : Nat) (e : s.arms = arms) : l.length + szArms (l.take m) + szA 0 (arms.take j) ≤ szB 0 l := by
  subst e
  have h1 := szArms_eq l
  have h2 : szArms l = szArms (l.take m) + szArms (l.drop m) := by
    rw [← szArms_append, List.take_append_drop]
  have hml := (List.getElem?_eq_some_iff.1 h).1
  rw [List.drop_eq_getElem_cons hml, (List.getElem?_eq_some_iff.1 h).2] at h2
  simp only [szArms, List.map_cons, List.sum_cons] at h1 h2 ⊢
  have h3 := szA_append 0 (s.arms.take j) (s.arms.drop j)
  rw [List.take_append_drop] at h3
  omega
def SizeC (k : Nat) : Prop := ∀ (l : List Stm) (w : World) (A : Nat → Prop) (v : Value), szB 1 l < k → szB 1 l ≤ 2097152 → VB w A v l → Calls Try.prog 15 #[v] w fun e w' => e = .returned (.int .i64 (szB 0 l)) ∧ w = w'
theorem size_step {k : Nat} (ih : SizeC k) : SizeC (k + 1) := by
  intro l w A v hk hN h
  obtain ⟨a, cap, rfl, h2, h3⟩ := h.any
  have hu : cap ≤ 9223372036854775807 := by unfold maxLen at h3; exact h3
  have HV := Lib.hid h
  have HK := Lib.hid (And.intro hk hN)
  have h01 : szB 0 l ≤ 2097152 := Nat.le_trans (sz01 l) hN
  obtain ⟨S, HS⟩ : ∃ S, Hid (szB 0 l = S) := ⟨_, Lib.hid rfl⟩
  rw [HS.out] at h01 ⊢
  obtain ⟨n, hn⟩ : ∃ n, l.length = n := ⟨_, rfl⟩
  have hnl : n ≤ 2097152 := by have := len_szB 1 l; omega
  rw [hn] at h2 ⊢
  have HN := Lib.hid hn
  have IH := Lib.hid ih
  clear hn h hk hN ih
  go_enter Try.func15, Try.ntmps15
  go_wp2
  go_loop [3, 4] (fun c i => ∃ m x : Nat, i = .int .i64 m ∧ m ≤ n ∧ c = .int .i64 x ∧ x ≤ S ∧ Hid (x = n + szArms (l.take m))) (fun _ i => n - (intOf i).toNat)
  case atStart => exact ⟨0, n, rfl, Nat.zero_le _, rfl, by rw [← HS.out, szArms_eq, HN.out]; omega, Lib.hid (by simp [szArms])⟩
  case round =>
    obtain ⟨m, x, rfl, hm, rfl, hxS, HX⟩ := hrel
    by_cases hlt : m < n
    · have hml : m < l.length := by rw [HN.out]; exact hlt
      obtain ⟨y, hy⟩ : ∃ y, l[m]? = some y := ⟨_, getE hml⟩
      obtain ⟨b, off, cap', u, he, _, _, _, hbs, hat, hho, hva⟩ := HV.out.get m y hy
      simp only [Value.slice.injEq, true_and] at he
      obtain ⟨rfl, -, rfl⟩ := he
      have c10 := hat.c10
      obtain ⟨au, cu, rfl, hcu1, hcu2⟩ := hva.any
      have hcu3 : cu ≤ 9223372036854775807 := by unfold maxLen at hcu2; exact hcu2
      obtain ⟨arms, harms⟩ : ∃ arms, y.arms = arms := ⟨_, rfl⟩
      rw [harms] at hva c10 hcu1
      obtain ⟨na, hna⟩ : ∃ na, arms.length = na := ⟨_, rfl⟩
      rw [hna] at c10 hcu1 hva
      have HY := Lib.hid (And.intro hy harms)
      have HB := Lib.hid (And.intro hva hna)
      clear hy harms hva hna hat hho hcu2
      go_wp2
      go_loop [3, 5] (fun c i => ∃ j z : Nat, i = .int .i64 j ∧ j ≤ na ∧ c = .int .i64 z ∧ z ≤ S ∧ Hid (z = x + szA 0 (arms.take j))) (fun _ i => na - (intOf i).toNat)
      case atStart => exact ⟨0, x, rfl, Nat.zero_le _, rfl, hxS, Lib.hid (by simp [szA])⟩
      case round =>
        obtain ⟨j, z, rfl, hj, rfl, hzS, HZ⟩ := hrel
        by_cases hlt2 : j < na
        · obtain ⟨t, ht⟩ : ∃ t, arms[j]? = some t := ⟨_, getE (by rw [HB.out.2]; exact hlt2)⟩
          obtain ⟨b2, off2, cap2, u2, he, _, _, _, _, d1, d2, hb2⟩ := HB.out.1.get j t ht
          simp only [Value.slice.injEq, true_and] at he
          obtain ⟨rfl, -, rfl⟩ := he
          have hz1 : z + szB 0 t.body = x + szA 0 (arms.take (j + 1)) := by
            rw [take_snoc ht, szA_append, HZ.out]
            simp only [szA]; rw [szR_eq]; omega
          have hz2 : z + szB 0 t.body ≤ S := by
            have := szArms_bound HY.out.1 arms (j + 1) HY.out.2
            rw [HS.out, HN.out] at this
            rw [hz1, HX.out]; exact this
          have hsz : szB 1 t.body < k ∧ szB 1 t.body ≤ 2097152 := by
            have h1 := szB_mem 1 (List.mem_of_getElem? HY.out.1)
            rw [HY.out.2] at h1
            have h2 := szA_mem 1 (List.mem_of_getElem? ht)
            have h3 := HK.out
            omega
          have hc := IH.out t.body w A u2 hsz.1 hsz.2 hb2
          obtain ⟨q, hq⟩ : ∃ q, szB 0 t.body = q := ⟨_, rfl⟩
          rw [hq] at hc hz1 hz2
          have HZ1 := Lib.hid hz1
          clear hq hz1 ht hb2 hsz d1
          have hwr : IntKind.i64.wrap ((z : Int) + (q : Int)) = ((z + q : Nat) : Int) := by
            rw [IntKind.wrap_i64]; omega
          go_wp2_with (go_at_call 15; (with_reducible refine hc.mono ?_); rintro e w1 ⟨rfl, rfl⟩)
          refine ⟨⟨j + 1, z + q, by simp, by omega, by simp, by omega, HZ1⟩, by simp [intOf]; omega⟩
        · go_wp2
          refine ⟨⟨m + 1, z, by simp, by omega, by simp, by omega, Lib.hid ?_⟩, by simp [intOf]; omega⟩
          rw [take_snoc HY.out.1, szArms_snoc, HY.out.2, HZ.out, HX.out, show arms.take j = arms from List.take_of_length_le (by rw [HB.out.2]; omega)]
          omega
    · go_wp2
      go_ret
      refine ⟨ret_i ?_, rfl⟩
      have := HX.out
      rw [List.take_of_length_le (by rw [HN.out]; omega)] at this
      rw [this, ← HS.out, szArms_eq, HN.out]
theorem size_all : ∀ k, SizeC k
  | 0 => fun l w A v h => absurd h (Nat.not_lt_zero _)
  | k + 1 => size_step (size_all k)
end Go.Proofs.Ytnbinejghkhcjaa.Fu
