/- The plain side of the knot: things that hang on one another, and what they say of classes and marks. No program here. -/
namespace Go.Proofs.Ytdopccbnnmaccaa.Kn

/-- A thing. -/
structure Th where
  up : Nat
  size : Int
  mark : Int
  least : Int

def L0 : Th := ⟨0, 0, 0, 0⟩
def at_ (L : List Th) (i : Nat) : Th := L.getD i L0

/-- What the things say: rt i is what stands for i, dp falls on the way up; n things, C their least ones, M their marks. -/
structure Rep (L : List Th) (n : Nat) (C : Nat → Nat) (M : Nat → Int) (rt dp : Nat → Nat) : Prop where
  len : L.length = n
  up_lt : ∀ i, i < n → (at_ L i).up < n
  rt_up : ∀ i, i < n → rt (at_ L i).up = rt i
  rt_root : ∀ i, i < n → (at_ L i).up = i → rt i = i
  fall : ∀ i, i < n → (at_ L i).up ≠ i → dp (at_ L i).up < dp i
  rt_lt : ∀ i, i < n → rt i < n
  root_rt : ∀ i, i < n → (at_ L (rt i)).up = rt i
  least : ∀ i, i < n → (at_ L (rt i)).least = (C i : Int)
  mark : ∀ i, i < n → (at_ L (rt i)).mark = M i
  same : ∀ i j, i < n → j < n → (rt i = rt j ↔ C i = C j)

/-- The abstract state's own law. -/
structure Good (n : Nat) (C : Nat → Nat) (M : Nat → Int) : Prop where
  le : ∀ i, i < n → C i ≤ i
  idem : ∀ i, i < n → C (C i) = C i
  mkr : ∀ i, i < n → M (C i) = M i
  nn : ∀ i, i < n → 0 ≤ M i

theorem Rep.root_of {L n C M rt dp} (h : Rep L n C M rt dp) {i : Nat} (hi : i < n) (hu : (at_ L i).up = i) : rt i = i := h.rt_root i hi hu
theorem Rep.rt_rt {L n C M rt dp} (h : Rep L n C M rt dp) {i : Nat} (hi : i < n) : rt (rt i) = rt i :=
  h.rt_root _ (h.rt_lt i hi) (h.root_rt i hi)

/-- Setting one thing. -/
theorem at_set (L : List Th) (i j : Nat) (t : Th) (hi : i < L.length) : at_ (L.set i t) j = if j = i then t else at_ L j := by
  unfold at_
  by_cases h : j = i
  · subst h; simp [List.getD, hi]
  · simp [List.getD, h, Ne.symm h]

/-- Halving a way keeps all that is said. -/
theorem Rep.halve {L n C M rt dp} (h : Rep L n C M rt dp) {a : Nat} (ha : a < n) (hu : (at_ L a).up ≠ a) :
    Rep (L.set a { at_ L a with up := (at_ L (at_ L a).up).up }) n C M rt dp := by
  have hl := h.len
  have hal : a < L.length := by omega
  have hg := h.up_lt _ (h.up_lt a ha)
  have key : ∀ i, at_ (L.set a { at_ L a with up := (at_ L (at_ L a).up).up }) i = if i = a then { at_ L a with up := (at_ L (at_ L a).up).up } else at_ L i := fun i => at_set L a i _ hal
  have hra : ∀ i, i < n → rt i ≠ a := by
    intro i hi e
    have := h.root_rt i hi
    rw [e] at this
    exact hu this
  refine ⟨by simp [hl], ?_, ?_, ?_, ?_, h.rt_lt, ?_, ?_, ?_, h.same⟩
  · intro i hi; rw [key]; split
    · exact hg
    · exact h.up_lt i hi
  · intro i hi; rw [key]; split
    · rename_i e; subst e
      show rt (at_ L (at_ L i).up).up = rt i
      rw [h.rt_up _ (h.up_lt i hi), h.rt_up i hi]
    · exact h.rt_up i hi
  · intro i hi; rw [key]; split
    · rename_i e; subst e
      intro e2
      exfalso
      have e2' : (at_ L (at_ L i).up).up = i := e2
      have d1 := h.fall i hi hu
      by_cases hq : (at_ L (at_ L i).up).up = (at_ L i).up
      · rw [hq] at e2'; exact hu e2'
      · have d2 := h.fall _ (h.up_lt i hi) hq
        rw [e2'] at d2
        omega
    · exact h.rt_root i hi
  · intro i hi; rw [key]; split
    · rename_i e; subst e
      intro _
      show dp (at_ L (at_ L i).up).up < dp i
      have d1 := h.fall i hi hu
      by_cases hq : (at_ L (at_ L i).up).up = (at_ L i).up
      · rw [hq]; exact d1
      · exact Nat.lt_trans (h.fall _ (h.up_lt i hi) hq) d1
    · exact h.fall i hi
  · intro i hi; rw [key, if_neg (hra i hi)]; exact h.root_rt i hi
  · intro i hi; rw [key, if_neg (hra i hi)]; exact h.least i hi
  · intro i hi; rw [key, if_neg (hra i hi)]; exact h.mark i hi

theorem Rep.halve_fall {L n C M rt dp} (h : Rep L n C M rt dp) {a : Nat} (ha : a < n) (hu : (at_ L a).up ≠ a) : dp (at_ L (at_ L a).up).up < dp a := by
  have d1 := h.fall a ha hu
  by_cases hq : (at_ L (at_ L a).up).up = (at_ L a).up
  · rw [hq]; exact d1
  · exact Nat.lt_trans (h.fall _ (h.up_lt a ha) hq) d1

/-! The operations on the abstract state. -/
def addC (n : Nat) (C : Nat → Nat) : Nat → Nat := fun i => if i = n then n else C i
def addM (n : Nat) (M : Nat → Int) : Nat → Int := fun i => if i = n then 0 else M i
def markOk (n : Nat) (M : Nat → Int) (a m : Int) : Bool := decide (0 ≤ a ∧ a < n ∧ 0 < m ∧ (M a.toNat = 0 ∨ M a.toNat = m))
def markM (C : Nat → Nat) (M : Nat → Int) (a m : Int) : Nat → Int := fun i => if C i = C a.toNat then m else M i
def tieOk (n : Nat) (M : Nat → Int) (a b : Int) : Bool := decide (0 ≤ a ∧ a < n ∧ 0 ≤ b ∧ b < n ∧ (M a.toNat = 0 ∨ M b.toNat = 0 ∨ M a.toNat = M b.toNat))
def tieC (C : Nat → Nat) (a b : Int) : Nat → Nat := fun i => if C i = C a.toNat ∨ C i = C b.toNat then min (C a.toNat) (C b.toNat) else C i
def tieM (C : Nat → Nat) (M : Nat → Int) (a b : Int) : Nat → Int := fun i => if C i = C a.toNat ∨ C i = C b.toNat then max (M a.toNat) (M b.toNat) else M i
def ofA (n : Nat) (M : Nat → Int) (a : Int) : Int := if 0 ≤ a ∧ a < n then M a.toNat else 0
def leastA (n : Nat) (C : Nat → Nat) (a : Int) : Int := if 0 ≤ a ∧ a < n then (C a.toNat : Int) else -1
def alikeA (n : Nat) (C : Nat → Nat) (a b : Int) : Bool := decide (0 ≤ a ∧ a < n ∧ 0 ≤ b ∧ b < n ∧ C a.toNat = C b.toNat)

theorem Rep.add {L n C M rt dp} (h : Rep L n C M rt dp) (hg : Good n C M) :
    Rep (L ++ [⟨n, 1, 0, n⟩]) (n + 1) (addC n C) (addM n M) (fun i => if i = n then n else rt i) (fun i => if i = n then 0 else dp i) := by
  have hl := h.len
  have key : ∀ i, i < n + 1 → at_ (L ++ [⟨n, 1, 0, n⟩]) i = if i = n then ⟨n, 1, 0, n⟩ else at_ L i := by
    intro i hi
    unfold at_
    by_cases e : i = n
    · subst e; simp [List.getD, ← hl]
    · have : i < L.length := by omega
      simp [List.getD, List.getElem?_append, this, e]
  have old : ∀ i, i < n + 1 → i ≠ n → i < n := fun i h1 h2 => by omega
  refine ⟨by simp [hl], ?_, ?_, ?_, ?_, ?_, ?_, ?_, ?_, ?_⟩
  · intro i hi; rw [key i hi]; split
    · simp
    · rename_i e; exact Nat.lt_succ_of_lt (h.up_lt i (old i hi e))
  · intro i hi; rw [key i hi]; split
    · simp_all
    · rename_i e
      have := h.up_lt i (old i hi e)
      have e1 : ¬ (at_ L i).up = n := by omega
      show (if (at_ L i).up = n then n else rt (at_ L i).up) = rt i
      rw [if_neg e1]
      exact h.rt_up i (old i hi e)
  · intro i hi; rw [key i hi]; split
    · simp_all
    · rename_i e; intro hu
      exact h.rt_root i (old i hi e) hu
  · intro i hi; rw [key i hi]; split
    · rename_i e; intro hu; exact absurd e.symm hu
    · rename_i e; intro hu
      have := h.up_lt i (old i hi e)
      have e1 : ¬ (at_ L i).up = n := by omega
      show (if (at_ L i).up = n then 0 else dp (at_ L i).up) < dp i
      rw [if_neg e1]
      exact h.fall i (old i hi e) hu
  · intro i hi
    by_cases e : i = n
    · simp [e]
    · simp only [e, if_false]; exact Nat.lt_succ_of_lt (h.rt_lt i (old i hi e))
  · intro i hi
    by_cases e : i = n
    · subst e; simp only [if_true]; rw [key i hi, if_pos rfl]
    · have := h.rt_lt i (old i hi e)
      simp only [e, if_false]; rw [key _ (by omega), if_neg (by omega)]; exact h.root_rt i (old i hi e)
  · intro i hi
    by_cases e : i = n
    · subst e; simp only [if_true]; rw [key i hi, if_pos rfl]; simp [addC]
    · have := h.rt_lt i (old i hi e)
      simp only [e, if_false]; rw [key _ (by omega), if_neg (by omega)]; simp only [addC, e, if_false]; exact h.least i (old i hi e)
  · intro i hi
    by_cases e : i = n
    · subst e; simp only [if_true]; rw [key i hi, if_pos rfl]; simp [addM]
    · have := h.rt_lt i (old i hi e)
      simp only [e, if_false]; rw [key _ (by omega), if_neg (by omega)]; simp only [addM, e, if_false]; exact h.mark i (old i hi e)
  · intro i j hi hj
    by_cases e : i = n <;> by_cases e2 : j = n
    · simp [e, e2]
    · have := h.rt_lt j (old j hj e2); have := hg.le j (old j hj e2); simp only [addC, e, e2, if_true, if_false]; omega
    · have := h.rt_lt i (old i hi e); have := hg.le i (old i hi e); simp only [addC, e, e2, if_true, if_false]; omega
    · simp only [addC, e, e2, if_false]; exact h.same i j (old i hi e) (old j hj e2)

theorem Good.add {n C M} (h : Good n C M) : Good (n + 1) (addC n C) (addM n M) := by
  refine ⟨?_, ?_, ?_, ?_⟩ <;> intro i hi <;> by_cases e : i = n
  · simp [addC, e]
  · simp only [addC, e, if_false]; exact h.le i (by omega)
  · simp [addC, e]
  · have := h.le i (by omega)
    simp only [addC, e, if_false]; rw [if_neg (by omega)]; exact h.idem i (by omega)
  · simp [addC, addM, e]
  · have := h.le i (by omega)
    simp only [addC, addM, e, if_false]; rw [if_neg (by omega)]; exact h.mkr i (by omega)
  · simp [addM, e]
  · simp only [addM, e, if_false]; exact h.nn i (by omega)

theorem Rep.setMark {L n C M rt dp} (h : Rep L n C M rt dp) {a : Nat} (ha : a < n) (m : Int) :
    Rep (L.set (rt a) { at_ L (rt a) with mark := m }) n C (markM C M a m) rt dp := by
  have hl := h.len
  have hrl : rt a < L.length := by have := h.rt_lt a ha; omega
  have key : ∀ i, at_ (L.set (rt a) { at_ L (rt a) with mark := m }) i = if i = rt a then { at_ L (rt a) with mark := m } else at_ L i := fun i => at_set L (rt a) i _ hrl
  have ku : ∀ i, (at_ (L.set (rt a) { at_ L (rt a) with mark := m }) i).up = (at_ L i).up := by
    intro i; rw [key]; split
    · rename_i e; rw [e]
    · rfl
  refine ⟨by simp [hl], ?_, ?_, ?_, ?_, h.rt_lt, ?_, ?_, ?_, h.same⟩
  · intro i hi; rw [ku]; exact h.up_lt i hi
  · intro i hi; rw [ku]; exact h.rt_up i hi
  · intro i hi; rw [ku]; exact h.rt_root i hi
  · intro i hi; rw [ku]; exact h.fall i hi
  · intro i hi; rw [ku]; exact h.root_rt i hi
  · intro i hi; rw [key]; split
    · rename_i e; show (at_ L (rt a)).least = _; rw [← e]; exact h.least i hi
    · exact h.least i hi
  · intro i hi
    rw [key]
    by_cases e : rt i = rt a
    · have := (h.same i a hi ha).mp e
      rw [if_pos e]; simp [markM, this]
    · have : ¬ C i = C a := fun q => e ((h.same i a hi ha).mpr q)
      rw [if_neg e]; simp only [markM, Int.toNat_natCast, this, if_false]; exact h.mark i hi

theorem Good.setMark {n C M} (h : Good n C M) (a : Nat) {m : Int} (hm : 0 < m) : Good n C (markM C M a m) := by
  refine ⟨h.le, h.idem, ?_, ?_⟩
  · intro i hi
    simp only [markM]
    rw [h.idem i hi, h.mkr i hi]
  · intro i hi
    simp only [markM]
    split
    · omega
    · exact h.nn i hi

/-- Tying two classes: x stands for both. -/
theorem Rep.tie {L n C M rt dp} (h : Rep L n C M rt dp) {x y : Nat} (hx : x < n) (hy : y < n) (rx : rt x = x) (ry : rt y = y) (hne : x ≠ y) (sz : Int) {a b : Nat} (ha : a < n) (hb : b < n)
    (hxy : (rt a = x ∧ rt b = y) ∨ (rt a = y ∧ rt b = x)) :
    Rep ((L.set x { at_ L x with mark := max (M a) (M b), least := (min (C a) (C b) : Nat), size := sz }).set y { at_ L y with up := x }) n (tieC C a b) (tieM C M a b) (fun i => if rt i = y then x else rt i) (fun i => if rt i = y then dp i + dp x + 1 else dp i) := by
  have hl := h.len
  have ux : (at_ L x).up = x := by have := h.root_rt x hx; rwa [rx] at this
  have key : ∀ i, at_ ((L.set x { at_ L x with mark := max (M a) (M b), least := (min (C a) (C b) : Nat), size := sz }).set y { at_ L y with up := x }) i = if i = y then { at_ L y with up := x } else if i = x then { at_ L x with mark := max (M a) (M b), least := (min (C a) (C b) : Nat), size := sz } else at_ L i := by
    intro i
    rw [at_set _ _ _ _ (by simp; omega), at_set _ _ _ _ (by omega)]
  have ku : ∀ i, i ≠ y → (at_ ((L.set x { at_ L x with mark := max (M a) (M b), least := (min (C a) (C b) : Nat), size := sz }).set y { at_ L y with up := x }) i).up = (at_ L i).up := by
    intro i e; rw [key, if_neg e]; split
    · rename_i e2; rw [e2]
    · rfl
  have kuy : (at_ ((L.set x { at_ L x with mark := max (M a) (M b), least := (min (C a) (C b) : Nat), size := sz }).set y { at_ L y with up := x }) y).up = x := by rw [key, if_pos rfl]
  have cls : ∀ i, i < n → ((C i = C a ∨ C i = C b) ↔ (rt i = x ∨ rt i = y)) := by
    intro i hi
    rw [← h.same i a hi ha, ← h.same i b hi hb]
    rcases hxy with ⟨h1, h2⟩ | ⟨h1, h2⟩ <;> rw [h1, h2]
    constructor <;> (intro q; rcases q with q | q <;> simp [q])
  have rtx : ∀ i, i < n → ((if rt i = y then x else rt i) = x ↔ (rt i = x ∨ rt i = y)) := by
    intro i hi
    by_cases e : rt i = y
    · simp [e]
    · simp [e]
  have nrt : ∀ i, i < n → (if rt i = y then x else rt i) ≠ y := by
    intro i hi
    by_cases e : rt i = y
    · rw [if_pos e]; exact hne
    · rw [if_neg e]; exact e
  refine ⟨by simp [hl], ?_, ?_, ?_, ?_, ?_, ?_, ?_, ?_, ?_⟩
  · intro i hi
    by_cases e : i = y
    · rw [e, kuy]; exact hx
    · rw [ku i e]; exact h.up_lt i hi
  · intro i hi
    by_cases e : i = y
    · rw [e, kuy]; simp only [ry, rx, if_true]; rw [if_neg hne]
    · rw [ku i e]; simp only [h.rt_up i hi]
  · intro i hi hu
    by_cases e : i = y
    · rw [e, kuy] at hu; exact absurd hu hne
    · rw [ku i e] at hu
      have := h.rt_root i hi hu
      simp only [this]
      rw [if_neg e]
  · intro i hi hu
    by_cases e : i = y
    · rw [e, kuy]
      simp only [rx, ry, if_true]
      rw [if_neg hne]
      omega
    · rw [ku i e] at hu ⊢
      have := h.fall i hi hu
      simp only [h.rt_up i hi]
      by_cases q : rt i = y
      · simp only [q, if_true]; omega
      · simp only [q, if_false]; exact this
  · intro i hi
    by_cases q : rt i = y
    · simp only [q, if_true]; exact hx
    · simp only [q, if_false]; exact h.rt_lt i hi
  · intro i hi
    rw [ku _ (nrt i hi)]
    by_cases q : rt i = y
    · simp only [q, if_true]; exact ux
    · simp only [q, if_false]; exact h.root_rt i hi
  · intro i hi
    rw [key, if_neg (nrt i hi)]
    by_cases q : rt i = x ∨ rt i = y
    · rw [if_pos ((rtx i hi).mpr q)]
      simp only [tieC, Int.toNat_natCast]
      rw [if_pos ((cls i hi).mpr q)]
    · rw [if_neg (fun z => q ((rtx i hi).mp z))]
      simp only [tieC, Int.toNat_natCast]
      rw [if_neg (fun z => q ((cls i hi).mp z)), if_neg (fun z => q (Or.inr z))]
      exact h.least i hi
  · intro i hi
    rw [key, if_neg (nrt i hi)]
    by_cases q : rt i = x ∨ rt i = y
    · rw [if_pos ((rtx i hi).mpr q)]
      simp only [tieM, Int.toNat_natCast]
      rw [if_pos ((cls i hi).mpr q)]
    · rw [if_neg (fun z => q ((rtx i hi).mp z))]
      simp only [tieM, Int.toNat_natCast]
      rw [if_neg (fun z => q ((cls i hi).mp z)), if_neg (fun z => q (Or.inr z))]
      exact h.mark i hi
  · intro i j hi hj
    have mn : min (C a) (C b) = C a ∨ min (C a) (C b) = C b := by omega
    by_cases q : rt i = x ∨ rt i = y <;> by_cases q2 : rt j = x ∨ rt j = y
    · rw [(rtx i hi).mpr q, (rtx j hj).mpr q2]
      simp only [tieC, Int.toNat_natCast]
      rw [if_pos ((cls i hi).mpr q), if_pos ((cls j hj).mpr q2)]
      simp
    · rw [(rtx i hi).mpr q]
      simp only [tieC, Int.toNat_natCast]
      rw [if_pos ((cls i hi).mpr q), if_neg (fun z => q2 ((cls j hj).mp z)), if_neg (fun z => q2 (Or.inr z))]
      have hc := fun z => q2 ((cls j hj).mp z)
      constructor
      · intro z; exact absurd (Or.inl z.symm) q2
      · intro z; exfalso; apply hc; rcases mn with m | m <;> rw [m] at z
        · exact Or.inl z.symm
        · exact Or.inr z.symm
    · rw [(rtx j hj).mpr q2]
      simp only [tieC, Int.toNat_natCast]
      rw [if_pos ((cls j hj).mpr q2), if_neg (fun z => q ((cls i hi).mp z)), if_neg (fun z => q (Or.inr z))]
      have hc := fun z => q ((cls i hi).mp z)
      constructor
      · intro z; exact absurd (Or.inl z) q
      · intro z; exfalso; apply hc; rcases mn with m | m <;> rw [m] at z
        · exact Or.inl z
        · exact Or.inr z
    · simp only [tieC, Int.toNat_natCast]
      rw [if_neg (fun z => q ((cls i hi).mp z)), if_neg (fun z => q2 ((cls j hj).mp z)), if_neg (fun z => q (Or.inr z)), if_neg (fun z => q2 (Or.inr z))]
      exact h.same i j hi hj

theorem Good.tie {n C M} (h : Good n C M) {a b : Nat} (ha : a < n) (hb : b < n) : Good n (tieC C a b) (tieM C M a b) := by
  have la := h.le a ha
  have lb := h.le b hb
  have na := h.nn a ha
  have nb := h.nn b hb
  have mn : min (C a) (C b) = C a ∨ min (C a) (C b) = C b := by omega
  have cmin : C (min (C a) (C b)) = C a ∨ C (min (C a) (C b)) = C b := by
    rcases mn with m | m <;> rw [m]
    · left; exact h.idem a ha
    · right; exact h.idem b hb
  refine ⟨?_, ?_, ?_, ?_⟩ <;> intro i hi
  · simp only [tieC, Int.toNat_natCast]
    split
    · rename_i q; have := h.le i hi; omega
    · exact h.le i hi
  · simp only [tieC, Int.toNat_natCast]
    by_cases q : C i = C a ∨ C i = C b
    · rw [if_pos q]
      rw [if_pos cmin]
    · rw [if_neg q, h.idem i hi, if_neg q]
  · simp only [tieC, tieM, Int.toNat_natCast]
    by_cases q : C i = C a ∨ C i = C b
    · rw [if_pos q, if_pos cmin, if_pos q]
    · rw [if_neg q, h.idem i hi, if_neg q, if_neg q]; exact h.mkr i hi
  · simp only [tieM, Int.toNat_natCast]
    split
    · omega
    · exact h.nn i hi

/-- Tying a class to itself says nothing new. -/
theorem tie_self {n C M} (h : Good n C M) {a b : Nat} (ha : a < n) (hb : b < n) (e : C a = C b) : (∀ i, i < n → tieC C a b i = C i) ∧ ∀ i, i < n → tieM C M a b i = M i := by
  have m1 := h.mkr a ha
  have m2 := h.mkr b hb
  refine ⟨fun i hi => ?_, fun i hi => ?_⟩
  · simp only [tieC, Int.toNat_natCast]
    split
    · rename_i q; rcases q with q | q <;> rw [q, e] <;> omega
    · rfl
  · simp only [tieM, Int.toNat_natCast]
    split
    · rename_i q
      have m3 := h.mkr i hi
      have e1 : M a = M b := by rw [← m1, ← m2, e]
      rcases q with q | q
      · rw [← m3, q, m1, ← e1]; omega
      · rw [← m3, q, m2, e1]; omega
    · rfl

theorem Rep.congr {L n C M C' M' rt dp} (h : Rep L n C M rt dp) (hC : ∀ i, i < n → C' i = C i) (hM : ∀ i, i < n → M' i = M i) : Rep L n C' M' rt dp :=
  ⟨h.len, h.up_lt, h.rt_up, h.rt_root, h.fall, h.rt_lt, h.root_rt, fun i hi => by rw [hC i hi]; exact h.least i hi, fun i hi => by rw [hM i hi]; exact h.mark i hi,
    fun i j hi hj => by rw [hC i hi, hC j hj]; exact h.same i j hi hj⟩
end Go.Proofs.Ytdopccbnnmaccaa.Kn
