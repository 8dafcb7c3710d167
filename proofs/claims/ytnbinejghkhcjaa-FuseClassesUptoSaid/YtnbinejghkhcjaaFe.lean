/- join's own memory: arms whose bodies are rows of the call's own. -/
import Derived.Test.YtnbinejghkhcjaaFd
namespace Go.Proofs.Ytnbinejghkhcjaa.Fu
open Go.RowKit
set_option linter.unusedVariables false
set_option linter.unusedSimpArgs false
set_option maxHeartbeats 2000000

/-- The first of a constructor, and what put makes of it. -/
theorem put_none (out : List Arm) (a : Arm) (h : ∀ x ∈ out, decide (x.con = a.con) = false) : put out a = out ++ [a] := by
  induction out with
  | nil => rfl
  | cons x r ih =>
    have hx : ¬ x.con = a.con := by simpa using h x (List.mem_cons_self ..)
    simp only [put]
    rw [if_neg hx, ih (fun y hy => h y (List.mem_cons_of_mem _ hy))]; rfl
theorem put_some (out : List Arm) (a : Arm) : ∀ (k : Nat) (x : Arm), out[k]? = some x → x.con = a.con → (∀ y ∈ out.take k, decide (y.con = a.con) = false) → put out a = out.set k (.mk x.con (x.body ++ a.body)) := by
  induction out with
  | nil => intro k x h; simp at h
  | cons y r ih =>
    intro k x h hx hy
    cases k with
    | zero =>
      simp at h; subst h
      simp only [put]
      rw [if_pos hx]; rfl
    | succ k =>
      have hyy : ¬ y.con = a.con := by simpa using hy y (by simp)
      simp only [put]
      rw [if_neg hyy, ih k x (by simpa using h) hx (fun z hz => hy z (by simp [hz]))]; rfl
theorem pidx_cases {α : Type} (p : α → Bool) (l : List α) : (pidx p l = -1 ∧ ∀ a ∈ l, p a = false) ∨ ∃ (k : Nat) (a : α), pidx p l = k ∧ l[k]? = some a ∧ p a = true ∧ ∀ b ∈ l.take k, p b = false := by
  induction l with
  | nil => exact Or.inl ⟨rfl, by simp⟩
  | cons x r ih =>
    by_cases h : p x = true
    · exact Or.inr ⟨0, x, by simp [pidx, h], rfl, h, by simp⟩
    · have h' : p x = false := by simpa using h
      rcases ih with ⟨q1, q2⟩ | ⟨k, a, q1, q2, q3, q4⟩
      · refine Or.inl ⟨by simp [pidx, h', q1], fun a ha => ?_⟩
        rcases List.mem_cons.mp ha with e | e
        · subst e; exact h'
        · exact q2 a e
      · refine Or.inr ⟨k + 1, a, ?_, by simpa using q2, q3, fun b hb => ?_⟩
        · simp only [pidx, h', q1]
          rw [if_neg (by decide), if_neg (by omega)]; omega
        · simp only [List.take_succ_cons, List.mem_cons] at hb
          rcases hb with e | e
          · subst e; exact h'
          · exact q4 b e
theorem EA_of {w : World} {A : Nat → Prop} {out : List Arm} : ∀ {row : List Value}, row.length = out.length * 2 → (∀ i x, out[i]? = some x → ∃ vb, row[i * 2]? = some (.string x.con) ∧ row[i * 2 + 1]? = some vb ∧ VB w A vb x.body) → EA w A out row := by
  induction out with
  | nil => intro row hl _; simp only [EA]; exact List.eq_nil_of_length_eq_zero (by simpa using hl)
  | cons a r ih =>
    intro row hl h
    match row, hl with
    | c0 :: c1 :: row', hl =>
      obtain ⟨vb, h1, h2, h3⟩ := h 0 a rfl
      simp at h1 h2
      subst h1; subst h2
      simp only [EA]
      refine ⟨[.string a.con, c1], row', rfl, (ER_iff _ _).mpr ⟨c1, rfl, h3⟩, ih (by simp at hl; omega) fun i x hi => ?_⟩
      obtain ⟨vb, q1, q2, q3⟩ := h (i + 1) x (by simpa using hi)
      refine ⟨vb, ?_, ?_, q3⟩
      · have e : (i + 1) * 2 = i * 2 + 1 + 1 := by omega
        rw [e] at q1; simpa using q1
      · have e : (i + 1) * 2 + 1 = i * 2 + 1 + 1 + 1 := by omega
        rw [e] at q2; simpa using q2
    | [], hl => simp at hl
    | [_], hl => simp at hl; omega

/-- Arms whose bodies are rows of the call's own; what lies in the bodies lies as it did in W. -/
structure JB (W wr : World) (A : Nat → Prop) (base : Nat) (out : List Arm) (row : List Value) : Prop where
  len : row.length = out.length * 2
  at_ : ∀ i x, out[i]? = some x → ∃ vb rowb, row[i * 2]? = some (.string x.con) ∧ row[i * 2 + 1]? = some vb ∧ wr.ownsRow base 38 11 vb x.body.length rowb ∧ EB W A x.body rowb
  apart : ∀ i j vb vb' g, i ≠ j → row[i * 2 + 1]? = some vb → row[j * 2 + 1]? = some vb' → vb.ownBlock = some g → vb'.ownBlock ≠ some g
section
variable {W wr wr' : World} {A : Nat → Prop} {base : Nat} {out : List Arm} {row : List Value}
theorem JB.nil (W wr : World) (A : Nat → Prop) (base : Nat) : JB W wr A base [] [] := ⟨rfl, fun i x h => by simp at h, fun i j vb vb' g _ h => by simp at h⟩
theorem own_keep {w w' : World} {base e k n : Nat} {v : Value} {xs : List Value} (h : w.ownsRow base e k v n xs) (hk : ∀ g, v.ownBlock = some g → w'.heap[g]? = w.heap[g]?) : w'.ownsRow base e k v n xs := by
  refine ⟨h.1, ?_⟩
  rcases h.2 with hn | ⟨g, cap, cur, rfl, hb, hg, rest⟩
  · exact .inl hn
  · exact .inr ⟨g, cap, cur, rfl, hb, (hk g rfl).trans hg, rest⟩
theorem own_block {w : World} {base e k n : Nat} {v : Value} {xs : List Value} (h : w.ownsRow base e k v n xs) {g : Nat} (hg : v.ownBlock = some g) : base ≤ g ∧ g < w.heap.size ∧ ∃ cur, w.heap[g]? = some (.cells cur e (0, 0)) := by
  rcases h.2 with ⟨rfl, _⟩ | ⟨g', cap, cur, rfl, hb, hgg, rest⟩
  · simp [Value.ownBlock] at hg
  · simp [Value.ownBlock] at hg
    subst hg
    exact ⟨hb, (Array.getElem?_eq_some_iff.1 hgg).1, cur, hgg⟩
/-- Whatever leaves rows of statements alone. -/
theorem JB.keep (h : JB W wr A base out row) (hk : ∀ g cur, base ≤ g → wr.heap[g]? = some (.cells cur 38 (0, 0)) → wr'.heap[g]? = wr.heap[g]?) : JB W wr' A base out row := by
  refine ⟨h.len, fun i x hi => ?_, h.apart⟩
  obtain ⟨vb, rowb, q1, q2, q3, q4⟩ := h.at_ i x hi
  refine ⟨vb, rowb, q1, q2, own_keep q3 (fun g hg => ?_), q4⟩
  obtain ⟨e1, _, cur, e2⟩ := own_block q3 hg
  exact hk g cur e1 e2
theorem JB.below (h : JB W wr A base out row) (hb : Below wr.heap.size wr wr') : JB W wr' A base out row :=
  h.keep fun g cur _ hg => hb.block g (Array.getElem?_eq_some_iff.1 hg).1
theorem JB.ea (h : JB W wr A base out row) {A' : Nat → Prop} (s : Stay W A wr A') (hA : ∀ g cur, base ≤ g → wr.heap[g]? = some (.cells cur 38 (0, 0)) → A' g) : EA wr A' out row := by
  refine EA_of h.len fun i x hi => ?_
  obtain ⟨vb, rowb, q1, q2, q3, q4⟩ := h.at_ i x hi
  refine ⟨vb, q1, q2, VB.own q3 rfl (fun g hg => ?_) (EB.stay s _ _ q4)⟩
  obtain ⟨e1, _, cur, e2⟩ := own_block q3 hg
  exact hA g cur e1 e2
/-- A new arm. -/
theorem JB.snoc (h : JB W wr A base out row) (hb : Below wr.heap.size wr wr') (a : Arm) (vb : Value) (rowb : List Value) (ho : wr'.ownsRow wr.heap.size 38 11 vb a.body.length rowb) (hle : base ≤ wr.heap.size) (he : EB W A a.body rowb) : JB W wr' A base (out ++ [a]) (row ++ [.string a.con, vb]) := by
  have h' := h.below hb
  have hnew : (row ++ [.string a.con, vb])[out.length * 2 + 1]? = some vb := by
    rw [List.getElem?_append_right (by rw [h.len]; omega), h.len]
    have : out.length * 2 + 1 - out.length * 2 = 1 := by omega
    rw [this]; rfl
  have hnew0 : (row ++ [.string a.con, vb])[out.length * 2]? = some (.string a.con) := by
    rw [List.getElem?_append_right (by rw [h.len]; omega), h.len]
    have : out.length * 2 - out.length * 2 = 0 := by omega
    rw [this]; rfl
  have hold : ∀ j, j < out.length * 2 → (row ++ [.string a.con, vb])[j]? = row[j]? := fun j hj => List.getElem?_append_left (by rw [h.len]; exact hj)
  have hbig : ∀ j, out.length < j → (row ++ [.string a.con, vb])[j * 2 + 1]? = none := fun j hj => by
    rw [List.getElem?_eq_none_iff]; simp [h.len]; omega
  refine ⟨by simp [h.len]; omega, fun i x hi => ?_, fun i j u u' g hij hu hu' hg => ?_⟩
  · rcases Nat.lt_or_ge i out.length with q | q
    · rw [List.getElem?_append_left q] at hi
      obtain ⟨vb', rowb', q1, q2, q3, q4⟩ := h'.at_ i x hi
      exact ⟨vb', rowb', by rw [hold _ (by omega)]; exact q1, by rw [hold _ (by omega)]; exact q2, q3, q4⟩
    · have hlt := (List.getElem?_eq_some_iff.1 hi).1
      simp at hlt
      have e : i = out.length := by omega
      subst e
      simp at hi
      subst hi
      refine ⟨vb, rowb, hnew0, hnew, ⟨ho.1, ?_⟩, he⟩
      rcases ho.2 with hn | ⟨g, cap, cur, rfl, hb', rest⟩
      · exact .inl hn
      · exact .inr ⟨g, cap, cur, rfl, Nat.le_trans hle hb', rest⟩
  · have old : ∀ i u, i < out.length → row[i * 2 + 1]? = some u → ∀ g, u.ownBlock = some g → g < wr.heap.size := by
      intro i u hi hu g hg
      obtain ⟨vb', rowb', q1, q2, q3, q4⟩ := h.at_ i _ (getE hi)
      rw [hu] at q2
      cases q2
      exact (own_block q3 hg).2.1
    rcases Nat.lt_trichotomy i out.length with q | q | q
    · rw [hold _ (by omega)] at hu
      rcases Nat.lt_trichotomy j out.length with r | r | r
      · rw [hold _ (by omega)] at hu'
        exact h.apart i j u u' g hij hu hu' hg
      · subst r
        rw [hnew] at hu'
        cases hu'
        intro e
        have := (own_block ho e).1
        have := old i u q hu g hg
        omega
      · rw [hbig j r] at hu'; cases hu'
    · subst q
      rw [hnew] at hu
      cases hu
      rcases Nat.lt_trichotomy j out.length with r | r | r
      · rw [hold _ (by omega)] at hu'
        intro e
        have := (own_block ho hg).1
        have := old j u' r hu' g e
        omega
      · omega
      · rw [hbig j r] at hu'; cases hu'
    · rw [hbig i q] at hu; cases hu
/-- More for the body of one arm. -/
theorem JB.turn (h : JB W wr A base out row) (k : Nat) (x : Arm) (vb vb' : Value) (new : List Stm) (rowb rown : List Value) (hx : out[k]? = some x) (hv : row[k * 2 + 1]? = some vb)
    (ho : wr'.ownsRow base 38 11 vb' (x.body.length + new.length) (rowb ++ rown)) (hb : EB W A x.body rowb) (hn : EB W A new rown)
    (hown : vb'.ownBlock = vb.ownBlock ∨ ∀ g, vb'.ownBlock = some g → wr.heap.size ≤ g) (hkeep : ∀ g cur, base ≤ g → wr.heap[g]? = some (.cells cur 38 (0, 0)) → vb.ownBlock ≠ some g → wr'.heap[g]? = wr.heap[g]?) :
    JB W wr' A base (out.set k (.mk x.con (x.body ++ new))) (row.set (k * 2 + 1) vb') := by
  have hkl := (List.getElem?_eq_some_iff.1 hx).1
  have old : ∀ i u, i < out.length → row[i * 2 + 1]? = some u → ∀ g, u.ownBlock = some g → g < wr.heap.size := by
    intro i u hi hu g hg
    obtain ⟨vb', rowb', q1, q2, q3, q4⟩ := h.at_ i _ (getE hi)
    rw [hu] at q2
    cases q2
    exact (own_block q3 hg).2.1
  have inr : ∀ i u, row[i * 2 + 1]? = some u → i < out.length := by
    intro i u hu
    have := (List.getElem?_eq_some_iff.1 hu).1
    rw [h.len] at this; omega
  refine ⟨by simp [h.len], fun i y hi => ?_, fun i j u u' g hij hu hu' hg => ?_⟩
  · by_cases e : i = k
    · subst e
      rw [List.getElem?_set_self hkl] at hi
      cases hi
      obtain ⟨vb0, rowb0, q1, q2, q3, q4⟩ := h.at_ i x hx
      refine ⟨vb', rowb ++ rown, ?_, ?_, ?_, ?_⟩
      · rw [List.getElem?_set_ne (by omega)]; exact q1
      · rw [List.getElem?_set_self (by rw [h.len]; omega)]
      · have : (x.body ++ new).length = x.body.length + new.length := by simp
        show wr'.ownsRow base 38 11 vb' (x.body ++ new).length _
        rw [this]; exact ho
      · exact EB_append hb hn
    · rw [List.getElem?_set_ne (fun q => e q.symm)] at hi
      obtain ⟨vb0, rowb0, q1, q2, q3, q4⟩ := h.at_ i y hi
      refine ⟨vb0, rowb0, ?_, ?_, own_keep q3 (fun g hg => ?_), q4⟩
      · rw [List.getElem?_set_ne (by omega)]; exact q1
      · rw [List.getElem?_set_ne (by omega)]; exact q2
      · obtain ⟨e1, _, cur, e2⟩ := own_block q3 hg
        exact hkeep g cur e1 e2 (h.apart i k vb0 vb g e q2 hv hg)
  · by_cases ei : i = k
    · subst ei
      rw [List.getElem?_set_self (by rw [h.len]; omega)] at hu
      cases hu
      rw [List.getElem?_set_ne (by omega)] at hu'
      rcases hown with q | q
      · exact h.apart i j vb u' g hij hv hu' (by rw [← q]; exact hg)
      · intro e
        have := q g hg
        have := old j u' (inr j u' hu') hu' g e
        omega
    · rw [List.getElem?_set_ne (by omega)] at hu
      by_cases ej : j = k
      · subst ej
        rw [List.getElem?_set_self (by rw [h.len]; omega)] at hu'
        cases hu'
        rcases hown with q | q
        · rw [q]; exact h.apart i j u vb g hij hu hv hg
        · intro e
          have := q g e
          have := old i u (inr i u hu) hu g hg
          omega
      · rw [List.getElem?_set_ne (by omega)] at hu'
        exact h.apart i j u u' g hij hu hu' hg
end
end Go.Proofs.Ytnbinejghkhcjaa.Fu
