/- That the order of ties and marks plays no part: the plain side. -/
import Derived.Test.YtdopccbnnmaccaaKi
namespace Go.Proofs.Ytdopccbnnmaccaa.Kn
set_option linter.unusedVariables false
set_option linter.unusedSimpArgs false

/-- A step that is no Add. -/
def St.stepN (s : St) (k x y : Int) : St := if k = 0 then s else s.step k x y
def St.okN (s : St) (k x y : Int) : Prop := k ≠ 0 → s.ok k x y = true

/-- One state says no more than another. -/
structure Ref (s t : St) : Prop where
  cls : ∀ i j, i < s.n → j < s.n → s.C i = s.C j → t.C i = t.C j
  mks : ∀ i, i < s.n → s.M i ≠ 0 → t.M i = s.M i

/-- A state says all that a step asks for. -/
def Closed (t : St) (k x y : Int) : Prop :=
  (k = 1 → 0 ≤ x ∧ x < t.n ∧ 0 < y ∧ t.M x.toNat = y) ∧ (k = 2 → 0 ≤ x ∧ x < t.n ∧ 0 ≤ y ∧ y < t.n ∧ t.C x.toNat = t.C y.toNat)

theorem St.stepN_n (s : St) (k x y : Int) (hk : k = 0 ∨ k = 1 ∨ k = 2) : (s.stepN k x y).n = s.n := by
  unfold St.stepN St.step
  rcases hk with rfl | rfl | rfl <;> simp

theorem Good.same_mark {t : St} (h : Good t.n t.C t.M) {i j : Nat} (hi : i < t.n) (hj : j < t.n) (e : t.C i = t.C j) : t.M i = t.M j := by
  rw [← h.mkr i hi, ← h.mkr j hj, e]

theorem St.stepN_good {s : St} (h : Good s.n s.C s.M) (k x y : Int) (hk : k = 0 ∨ k = 1 ∨ k = 2) : Good (s.stepN k x y).n (s.stepN k x y).C (s.stepN k x y).M := by
  rcases hk with rfl | rfl | rfl
  · exact h
  · show Good s.n s.C (markN s.n s.C s.M x y)
    unfold markN
    by_cases ho : markOk s.n s.M x y = true
    · rw [if_pos ho]
      simp only [markOk, decide_eq_true_eq] at ho
      obtain ⟨i, rfl⟩ := Int.eq_ofNat_of_zero_le ho.1
      exact h.setMark i ho.2.2.1
    · rw [if_neg ho]; exact h
  · show Good s.n (tieNC s.n s.C s.M x y) (tieNM s.n s.C s.M x y)
    unfold tieNC tieNM
    by_cases ho : tieOk s.n s.M x y = true
    · rw [if_pos ho, if_pos ho]
      simp only [tieOk, decide_eq_true_eq] at ho
      obtain ⟨i, rfl⟩ := Int.eq_ofNat_of_zero_le ho.1
      obtain ⟨j, rfl⟩ := Int.eq_ofNat_of_zero_le ho.2.2.1
      exact h.tie (by omega) (by omega)
    · rw [if_neg ho, if_neg ho]; exact h

/-- What refines a state that says all that a step asks for takes the step, and refines it still. -/
theorem Ref.step {s t : St} (h : Ref s t) (hs : Good s.n s.C s.M) (ht : Good t.n t.C t.M) (hn : s.n = t.n) {k x y : Int} (hk : k = 0 ∨ k = 1 ∨ k = 2) (hc : Closed t k x y) : s.okN k x y ∧ Ref (s.stepN k x y) t := by
  rcases hk with rfl | rfl | rfl
  · exact ⟨fun e => absurd rfl e, h⟩
  · obtain ⟨h0, h1, h2, h3⟩ := hc.1 rfl
    obtain ⟨a, rfl⟩ := Int.eq_ofNat_of_zero_le h0
    have ha : a < s.n := by omega
    simp only [Int.toNat_natCast] at h3
    have hok : markOk s.n s.M (a : Int) y = true := by
      simp only [markOk, Int.toNat_natCast, decide_eq_true_eq]
      refine ⟨h0, by omega, h2, ?_⟩
      by_cases e : s.M a = 0
      · exact Or.inl e
      · right; rw [← h.mks a ha e]; exact h3
    refine ⟨fun _ => hok, ?_⟩
    show Ref ⟨s.n, s.C, markN s.n s.C s.M (a : Int) y⟩ t
    refine ⟨h.cls, ?_⟩
    intro i hi hne
    simp only [markN, hok, if_true] at hne ⊢
    simp only [markM, Int.toNat_natCast] at hne ⊢
    by_cases e : s.C i = s.C a
    · rw [if_pos e]
      have hi' : i < s.n := hi
      rw [ht.same_mark (by omega) (by omega) (h.cls i a hi ha e)]; exact h3
    · rw [if_neg e] at hne ⊢; exact h.mks i hi hne
  · obtain ⟨h0, h1, h2, h3, h4⟩ := hc.2 rfl
    obtain ⟨a, rfl⟩ := Int.eq_ofNat_of_zero_le h0
    obtain ⟨b, rfl⟩ := Int.eq_ofNat_of_zero_le h2
    have ha : a < s.n := by omega
    have hb : b < s.n := by omega
    simp only [Int.toNat_natCast] at h4
    have hmm := ht.same_mark (t := t) (i := a) (j := b) (by omega) (by omega) h4
    have hok : tieOk s.n s.M (a : Int) (b : Int) = true := by
      simp only [tieOk, Int.toNat_natCast, decide_eq_true_eq]
      refine ⟨h0, by omega, h2, by omega, ?_⟩
      by_cases e : s.M a = 0
      · exact Or.inl e
      · by_cases e2 : s.M b = 0
        · exact Or.inr (Or.inl e2)
        · right; right; rw [← h.mks a ha e, ← h.mks b hb e2, hmm]
    refine ⟨fun _ => hok, ?_⟩
    show Ref ⟨s.n, tieNC s.n s.C s.M (a : Int) (b : Int), tieNM s.n s.C s.M (a : Int) (b : Int)⟩ t
    simp only [tieNC, tieNM, hok, if_true]
    have inU : ∀ i, i < s.n → (s.C i = s.C a ∨ s.C i = s.C b) → t.C i = t.C a := by
      intro i hi q
      rcases q with q | q
      · exact h.cls i a hi ha q
      · rw [h4]; exact h.cls i b hi hb q
    have mn : min (s.C a) (s.C b) = s.C a ∨ min (s.C a) (s.C b) = s.C b := by omega
    refine ⟨?_, ?_⟩
    · intro i j hi hj e
      have hi' : i < s.n := hi
      have hj' : j < s.n := hj
      simp only [tieC, Int.toNat_natCast] at e
      by_cases q : s.C i = s.C a ∨ s.C i = s.C b <;> by_cases q2 : s.C j = s.C a ∨ s.C j = s.C b
      · rw [inU i hi' q, inU j hj' q2]
      · rw [if_pos q, if_neg q2] at e
        exfalso; apply q2; rcases mn with m | m <;> rw [m] at e
        · exact Or.inl e.symm
        · exact Or.inr e.symm
      · rw [if_neg q, if_pos q2] at e
        exfalso; apply q; rcases mn with m | m <;> rw [m] at e
        · exact Or.inl e
        · exact Or.inr e
      · rw [if_neg q, if_neg q2] at e; exact h.cls i j hi' hj' e
    · intro i hi hne
      have hi' : i < s.n := hi
      simp only [tieM, Int.toNat_natCast] at hne ⊢
      by_cases q : s.C i = s.C a ∨ s.C i = s.C b
      · rw [if_pos q] at hne ⊢
        have e1 : t.M i = t.M a := ht.same_mark (by omega) (by omega) (inU i hi' q)
        rw [e1]
        have n1 := hs.nn a ha
        have n2 := hs.nn b hb
        by_cases e : s.M a = 0
        · have e2 : s.M b ≠ 0 := by intro z; rw [e, z] at hne; exact hne (by omega)
          rw [hmm, h.mks b hb e2]; omega
        · by_cases e2 : s.M b = 0
          · rw [h.mks a ha e]; omega
          · have := h.mks a ha e
            have := h.mks b hb e2
            omega
      · rw [if_neg q] at hne ⊢; exact h.mks i hi' hne

/-- A step that is taken says what it asks for; and what was said stays said. -/
theorem Closed.self {s : St} (hs : Good s.n s.C s.M) {k x y : Int} (hk : k = 0 ∨ k = 1 ∨ k = 2) (ho : s.okN k x y) : Closed (s.stepN k x y) k x y := by
  rcases hk with rfl | rfl | rfl
  · exact ⟨fun e => absurd e (by decide), fun e => absurd e (by decide)⟩
  · refine ⟨fun _ => ?_, fun e => absurd e (by decide)⟩
    have hok : markOk s.n s.M x y = true := ho (by decide)
    show 0 ≤ x ∧ x < (s.n : Int) ∧ 0 < y ∧ markN s.n s.C s.M x y x.toNat = y
    simp only [markN, hok, if_true, markM]
    simp only [markOk, decide_eq_true_eq] at hok
    exact ⟨hok.1, hok.2.1, hok.2.2.1, trivial⟩
  · refine ⟨fun e => absurd e (by decide), fun _ => ?_⟩
    have hok : tieOk s.n s.M x y = true := ho (by decide)
    show 0 ≤ x ∧ x < (s.n : Int) ∧ 0 ≤ y ∧ y < (s.n : Int) ∧ tieNC s.n s.C s.M x y x.toNat = tieNC s.n s.C s.M x y y.toNat
    simp only [tieNC, hok, if_true, tieC]
    simp only [tieOk, decide_eq_true_eq] at hok
    exact ⟨hok.1, hok.2.1, hok.2.2.1, hok.2.2.2.1, by simp⟩
theorem Closed.keep {s : St} (hs : Good s.n s.C s.M) {k x y k' x' y' : Int} (h : Closed s k' x' y') (hk : k = 0 ∨ k = 1 ∨ k = 2) (ho : s.okN k x y) : Closed (s.stepN k x y) k' x' y' := by
  rcases hk with rfl | rfl | rfl
  · exact h
  · have hok : markOk s.n s.M x y = true := ho (by decide)
    show Closed ⟨s.n, s.C, markN s.n s.C s.M x y⟩ k' x' y'
    simp only [markN, hok, if_true]
    simp only [markOk, decide_eq_true_eq] at hok
    refine ⟨fun e => ?_, h.2⟩
    obtain ⟨h0, h1, h2, h3⟩ := h.1 e
    refine ⟨h0, h1, h2, ?_⟩
    show markM s.C s.M x y x'.toNat = y'
    simp only [markM]
    by_cases q : s.C x'.toNat = s.C x.toNat
    · rw [if_pos q]
      have e1 := hs.same_mark (t := s) (i := x'.toNat) (j := x.toNat) (by omega) (by omega) q
      rcases hok.2.2.2 with z | z
      · rw [e1, z] at h3; omega
      · rw [← z, ← e1]; exact h3
    · rw [if_neg q]; exact h3
  · have hok : tieOk s.n s.M x y = true := ho (by decide)
    show Closed ⟨s.n, tieNC s.n s.C s.M x y, tieNM s.n s.C s.M x y⟩ k' x' y'
    simp only [tieNC, tieNM, hok, if_true]
    simp only [tieOk, decide_eq_true_eq] at hok
    refine ⟨fun e => ?_, fun e => ?_⟩
    · obtain ⟨h0, h1, h2, h3⟩ := h.1 e
      refine ⟨h0, h1, h2, ?_⟩
      show tieM s.C s.M x y x'.toNat = y'
      simp only [tieM]
      have n1 := hs.nn x.toNat (by omega)
      have n2 := hs.nn y.toNat (by omega)
      by_cases q : s.C x'.toNat = s.C x.toNat ∨ s.C x'.toNat = s.C y.toNat
      · rw [if_pos q]
        rcases q with q | q
        · have e1 := hs.same_mark (t := s) (i := x'.toNat) (j := x.toNat) (by omega) (by omega) q
          omega
        · have e1 := hs.same_mark (t := s) (i := x'.toNat) (j := y.toNat) (by omega) (by omega) q
          omega
      · rw [if_neg q]; exact h3
    · obtain ⟨h0, h1, h2, h3, h4⟩ := h.2 e
      refine ⟨h0, h1, h2, h3, ?_⟩
      show tieC s.C x y x'.toNat = tieC s.C x y y'.toNat
      simp only [tieC, h4]

/-- Two states that refine each other are the same. -/
theorem Ref.both {s t : St} (h1 : Ref s t) (h2 : Ref t s) (hs : Good s.n s.C s.M) (ht : Good t.n t.C t.M) (hn : s.n = t.n) : (∀ i, i < s.n → s.C i = t.C i) ∧ ∀ i, i < s.n → s.M i = t.M i := by
  refine ⟨fun i hi => ?_, fun i hi => ?_⟩
  · have a1 := hs.le i hi
    have a2 := ht.le i (by omega)
    have b1 := h1.cls (s.C i) i (by omega) hi (hs.idem i hi)
    have b2 := h2.cls (t.C i) i (by omega) (by omega) (ht.idem i (by omega))
    have c1 := ht.le (s.C i) (by omega)
    have c2 := hs.le (t.C i) (by omega)
    omega
  · by_cases e : s.M i = 0
    · by_cases e2 : t.M i = 0
      · rw [e, e2]
      · exact h2.mks i (by omega) e2
    · exact (h1.mks i hi e).symm

/-- So many things, by themselves. -/
def bare (n : Nat) : St := ⟨n, fun i => i, fun _ => 0⟩
theorem bare_good (n : Nat) : Good (bare n).n (bare n).C (bare n).M := ⟨fun i hi => Nat.le_refl _, fun i hi => rfl, fun i hi => rfl, fun i hi => Int.le_refl _⟩
theorem bare_ref (n : Nat) (t : St) : Ref (bare n) t := ⟨fun i j hi hj e => by
  have e' : i = j := e
  rw [e'], fun i hi e => absurd rfl e⟩

/-- The states one by one: forward, and from behind with the ties the other way round. -/
def fwd (n : Nat) (f : Nat → Int × Int × Int) : Nat → St
  | 0 => bare n
  | k + 1 => (fwd n f k).stepN (kd (f k).1) (f k).2.1 (f k).2.2
def fx (o : Int × Int × Int) : Int := if kd o.1 = 2 then o.2.2 else o.2.1
def fy (o : Int × Int × Int) : Int := if kd o.1 = 2 then o.2.1 else o.2.2
def bwd (n : Nat) (f : Nat → Int × Int × Int) (len : Nat) : Nat → St
  | 0 => bare n
  | d + 1 => (bwd n f len d).stepN (kd (f (len - 1 - d)).1) (fx (f (len - 1 - d))) (fy (f (len - 1 - d)))
def okF (n : Nat) (f : Nat → Int × Int × Int) (k : Nat) : Prop := ∀ j, j < k → (fwd n f j).okN (kd (f j).1) (f j).2.1 (f j).2.2

theorem fwd_good (n : Nat) (f : Nat → Int × Int × Int) (k : Nat) : Good (fwd n f k).n (fwd n f k).C (fwd n f k).M ∧ (fwd n f k).n = n := by
  induction k with
  | zero => exact ⟨bare_good n, rfl⟩
  | succ k ih => exact ⟨St.stepN_good ih.1 _ _ _ (kd_range _), by rw [fwd, St.stepN_n _ _ _ _ (kd_range _)]; exact ih.2⟩
theorem bwd_good (n : Nat) (f : Nat → Int × Int × Int) (len d : Nat) : Good (bwd n f len d).n (bwd n f len d).C (bwd n f len d).M ∧ (bwd n f len d).n = n := by
  induction d with
  | zero => exact ⟨bare_good n, rfl⟩
  | succ d ih => exact ⟨St.stepN_good ih.1 _ _ _ (kd_range _), by rw [bwd, St.stepN_n _ _ _ _ (kd_range _)]; exact ih.2⟩
theorem fwd_closed (n : Nat) (f : Nat → Int × Int × Int) (k : Nat) (ho : okF n f k) : ∀ j, j < k → Closed (fwd n f k) (kd (f j).1) (f j).2.1 (f j).2.2 := by
  induction k with
  | zero => intro j hj; omega
  | succ k ih =>
    intro j hj
    have hk := ho k (by omega)
    by_cases e : j = k
    · subst e; exact Closed.self (fwd_good n f j).1 (kd_range _) hk
    · exact Closed.keep (fwd_good n f k).1 (ih (fun i hi => ho i (by omega)) j (by omega)) (kd_range _) hk
theorem Closed.flip {t : St} {o : Int × Int × Int} (h : Closed t (kd o.1) o.2.1 o.2.2) : Closed t (kd o.1) (fx o) (fy o) := by
  by_cases e : kd o.1 = 2
  · simp only [fx, fy, e, if_true]
    rw [e] at h
    obtain ⟨a, b, c, d, q⟩ := h.2 rfl
    exact ⟨fun z => absurd z (by decide), fun _ => ⟨c, d, a, b, q.symm⟩⟩
  · simp only [fx, fy, e, if_false]; exact h
/-- From behind no step is refused, and in the end the two say the same. -/
theorem bwd_ok (n : Nat) (f : Nat → Int × Int × Int) (len : Nat) (ho : okF n f len) (d : Nat) (hd : d ≤ len) : Ref (bwd n f len d) (fwd n f len) ∧ ∀ j, j < d → (bwd n f len j).okN (kd (f (len - 1 - j)).1) (fx (f (len - 1 - j))) (fy (f (len - 1 - j))) := by
  induction d with
  | zero => exact ⟨bare_ref n _, fun j hj => by omega⟩
  | succ d ih =>
    obtain ⟨h1, h2⟩ := ih (by omega)
    have hc := (fwd_closed n f len ho (len - 1 - d) (by omega)).flip
    have hs := bwd_good n f len d
    have ht := fwd_good n f len
    obtain ⟨q1, q2⟩ := h1.step hs.1 ht.1 (by rw [hs.2, ht.2]) (kd_range _) hc
    refine ⟨q2, fun j hj => ?_⟩
    by_cases e : j = d
    · subst e; exact q1
    · exact h2 j (by omega)
theorem bwd_closed (n : Nat) (f : Nat → Int × Int × Int) (len : Nat) (ho : okF n f len) (d : Nat) (hd : d ≤ len) : ∀ j, j < d → Closed (bwd n f len d) (kd (f (len - 1 - j)).1) (fx (f (len - 1 - j))) (fy (f (len - 1 - j))) := by
  induction d with
  | zero => intro j hj; omega
  | succ d ih =>
    intro j hj
    have hk := (bwd_ok n f len ho (d + 1) hd).2 d (by omega)
    by_cases e : j = d
    · subst e; exact Closed.self (bwd_good n f len j).1 (kd_range _) hk
    · exact Closed.keep (bwd_good n f len d).1 (ih (by omega) j (by omega)) (kd_range _) hk
theorem Closed.unflip {t : St} {o : Int × Int × Int} (h : Closed t (kd o.1) (fx o) (fy o)) : Closed t (kd o.1) o.2.1 o.2.2 := by
  by_cases e : kd o.1 = 2
  · simp only [fx, fy, e, if_true] at h
    rw [e]
    obtain ⟨a, b, c, d, q⟩ := h.2 rfl
    exact ⟨fun z => absurd z (by decide), fun _ => ⟨c, d, a, b, q.symm⟩⟩
  · simp only [fx, fy, e, if_false] at h; exact h
theorem fwd_ref (n : Nat) (f : Nat → Int × Int × Int) (len : Nat) (ho : okF n f len) (k : Nat) (hk : k ≤ len) : Ref (fwd n f k) (bwd n f len len) := by
  induction k with
  | zero => exact bare_ref n _
  | succ k ih =>
    have hc := bwd_closed n f len ho len (Nat.le_refl _) (len - 1 - k) (by omega)
    have e : len - 1 - (len - 1 - k) = k := by omega
    rw [e] at hc
    have hs := fwd_good n f k
    have ht := bwd_good n f len len
    exact ((ih (by omega)).step hs.1 ht.1 (by rw [hs.2, ht.2]) (kd_range _) hc.unflip).2
theorem order_same (n : Nat) (f : Nat → Int × Int × Int) (len : Nat) (ho : okF n f len) : (∀ i, i < n → (fwd n f len).C i = (bwd n f len len).C i) ∧ ∀ i, i < n → (fwd n f len).M i = (bwd n f len len).M i := by
  have hs := fwd_good n f len
  have ht := bwd_good n f len len
  have := (fwd_ref n f len ho len (Nat.le_refl _)).both (bwd_ok n f len ho len (Nat.le_refl _)).1 hs.1 ht.1 (by rw [hs.2, ht.2])
  rw [hs.2] at this
  exact this
end Go.Proofs.Ytdopccbnnmaccaa.Kn
