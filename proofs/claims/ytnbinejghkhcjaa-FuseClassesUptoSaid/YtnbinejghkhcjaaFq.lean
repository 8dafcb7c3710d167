/- The plain side of fuse, second part: nothing is left that could be put together, and what is fused stays. -/
import Derived.Test.YtnbinejghkhcjaaFp
namespace Go.Proofs.Ytnbinejghkhcjaa.Fu

/-- No two neighbours could be put together. -/
def adj : List Stm → Prop
  | [] => True
  | [_] => True
  | x :: y :: r => tog x y = false ∧ adj (y :: r)
mutual
def fixS : Stm → Prop
  | .mk _ arms => fixA arms
def fixA : List Arm → Prop
  | [] => True
  | a :: r => fixR a ∧ fixA r
def fixR : Arm → Prop
  | .mk _ body => adj body ∧ fixB body
def fixB : List Stm → Prop
  | [] => True
  | s :: r => fixS s ∧ fixB r
end
/-- Fused through and through. -/
def fixL (l : List Stm) : Prop := adj l ∧ fixB l
theorem fixS_iff (s : Stm) : fixS s ↔ ∀ a ∈ s.arms, fixL a.body := by
  have hA : ∀ l : List Arm, fixA l ↔ ∀ a ∈ l, fixL a.body := by
    intro l
    induction l with
    | nil => simp [fixA]
    | cons a r ih => cases a; simp only [fixA, fixR, ih, List.mem_cons, forall_eq_or_imp, fixL]; exact Iff.rfl
  cases s; simp [fixS, Stm.arms, hA]
theorem fixB_iff (l : List Stm) : fixB l ↔ ∀ s ∈ l, fixS s := by
  induction l with
  | nil => simp [fixB]
  | cons a r ih => simp [fixB, ih]
theorem adj_snoc (l : List Stm) (x y : Stm) : adj (l ++ [x, y]) ↔ adj (l ++ [x]) ∧ tog x y = false := by
  induction l with
  | nil => simp [adj]
  | cons a r ih =>
    cases r with
    | nil => simp [adj]
    | cons b q =>
      simp only [List.cons_append] at ih ⊢
      simp only [adj, ih, and_assoc]
/-- The last one may be turned for one of the same number and name. -/
theorem adj_turn (l : List Stm) (x x' : Stm) (ho : x'.op = x.op) (hn : x'.name = x.name) (h : adj (l ++ [x])) : adj (l ++ [x']) := by
  rcases List.eq_nil_or_concat l with e | ⟨m, z, e⟩
  · subst e; simp [adj]
  · subst e
    rw [List.concat_eq_append, List.append_assoc] at h ⊢
    have h := (adj_snoc m z x).mp h
    refine (adj_snoc m z x').mpr ⟨h.1, ?_⟩
    have h2 := h.2
    unfold tog at h2 ⊢
    rw [ho, hn]; exact h2

theorem fixL_fstep {F : List Stm → List Stm} (hF : ∀ l, szB 1 (F l) ≤ szB 1 l) (k : Nat) (hX : ∀ l, szB 1 l ≤ k → fixL (F l)) (out : List Stm) (s : Stm) (hk : szB 1 out + szS 1 s ≤ k + 1) (ho : fixL out) : fixL (fstep F out s) := by
  have hs1 := szS_eq 1 s
  have hs : fixS (.mk s.hd (mapF F s.arms)) := by
    rw [fixS_iff]
    intro x hx
    obtain ⟨a, ha, _, e⟩ := mapF_mem hx
    have := szA_mem 1 ha
    rw [e]; exact hX _ (by omega)
  have hm := szA_mapF 1 hF s.arms
  unfold fstep
  split
  · exact ⟨trivial, by simp [fixB, hs]⟩
  · rename_i t ht
    have hspl := split_last ht
    have hall := (fixB_iff out).mp ho.2
    have htm : t ∈ out := by rw [hspl]; simp
    have ht1 := szS_eq 1 t
    have ht2 := szB_mem 1 htm
    split
    · rename_i hg
      simp only [tog, Bool.and_eq_true, decide_eq_true_eq] at hg
      obtain ⟨⟨g1, g2, g3⟩, _⟩ := hg
      refine ⟨adj_turn _ t _ (by rw [g1]; rfl) (by rw [g3]; rfl) (by rw [← hspl]; exact ho.1), ?_⟩
      rw [fixB_iff]
      intro z hz
      rcases List.mem_append.mp hz with q | q
      · exact hall z (by rw [hspl]; exact List.mem_append_left _ q)
      · simp only [List.mem_singleton] at q
        subst q
        rw [fixS_iff]
        intro x hx
        obtain ⟨a, ha, _, e⟩ := mapF_mem (show x ∈ mapF F (gather [] (t.arms ++ mapF F s.arms)) from hx)
        have h1 := szA_mem 1 ha
        have h2 := szA_gather 1 (t.arms ++ mapF F s.arms) []
        rw [szA_append] at h2
        simp only [szA] at h2
        rw [e]; exact hX _ (by omega)
    · rename_i hg
      refine ⟨?_, ?_⟩
      · rw [hspl, List.append_assoc]
        refine (adj_snoc _ _ _).mpr ⟨by rw [← hspl]; exact ho.1, by simpa using hg⟩
      · rw [fixB_iff]
        intro z hz
        rcases List.mem_append.mp hz with q | q
        · exact hall z q
        · simp only [List.mem_singleton] at q
          subst q; exact hs
theorem fixL_fold {F : List Stm → List Stm} (hF : ∀ l, szB 1 (F l) ≤ szB 1 l) (k : Nat) (hX : ∀ l, szB 1 l ≤ k → fixL (F l)) (l : List Stm) : ∀ out, szB 1 out + szB 1 l ≤ k + 1 → fixL out → fixL (l.foldl (fstep F) out) := by
  induction l with
  | nil => intro out _ ho; exact ho
  | cons s r ih =>
    intro out hk ho
    simp only [szB] at hk
    have := szB_fstep 1 hF out s
    exact ih _ (by omega) (fixL_fstep hF k hX out s (by omega) ho)
theorem fixL_fuse (k : Nat) : ∀ l, szB 1 l ≤ k → fixL (fuseF k l) := by
  induction k with
  | zero =>
    intro l h
    cases l with
    | nil => exact ⟨trivial, trivial⟩
    | cons s r => simp only [szB] at h; rw [szS_eq] at h; omega
  | succ k ih =>
    intro l h
    exact fixL_fold (szB_fuse 1 k) k ih l [] (by simpa [szB] using h) ⟨trivial, trivial⟩

theorem mapF_id {F : List Stm → List Stm} (arms : List Arm) (h : ∀ a ∈ arms, F a.body = a.body) : mapF F arms = arms := by
  induction arms with
  | nil => rfl
  | cons a r ih =>
    show Arm.mk a.con (F a.body) :: mapF F r = _
    rw [ih (fun x hx => h x (List.mem_cons_of_mem _ hx)), h a (List.mem_cons_self ..), Arm.eta]
theorem fstep_id {F : List Stm → List Stm} (out : List Stm) (s : Stm) (hs : mapF F s.arms = s.arms) (hj : adj (out ++ [s])) : fstep F out s = out ++ [s] := by
  unfold fstep
  rw [hs, Stm.eta]
  split
  · rename_i h
    have : out = [] := by simpa using h
    subst this; rfl
  · rename_i t ht
    have hspl := split_last ht
    rw [hspl, List.append_assoc] at hj
    rw [if_neg]
    have := ((adj_snoc _ _ _).mp hj).2
    simp [this]
theorem adj_left (x y : List Stm) (h : adj (x ++ y)) : adj x := by
  induction x with
  | nil => trivial
  | cons a r ih =>
    cases r with
    | nil => trivial
    | cons b q =>
      simp only [List.cons_append, adj] at h ih ⊢
      exact ⟨h.1, ih h.2⟩
theorem fold_id {F : List Stm → List Stm} (l : List Stm) : ∀ out, (∀ s ∈ l, mapF F s.arms = s.arms) → adj (out ++ l) → l.foldl (fstep F) out = out ++ l := by
  induction l with
  | nil => intro out _ _; simp
  | cons s r ih =>
    intro out h hj
    have e : out ++ s :: r = (out ++ [s]) ++ r := by simp
    rw [List.foldl_cons, fstep_id out s (h s (List.mem_cons_self ..)) (adj_left _ r (by rw [← e]; exact hj)), e]
    exact ih _ (fun x hx => h x (List.mem_cons_of_mem _ hx)) (by rw [← e]; exact hj)
theorem fuse_id (k : Nat) : ∀ l, szB 1 l ≤ k → fixL l → fuseF k l = l := by
  induction k with
  | zero => intro l _ _; rfl
  | succ k ih =>
    intro l hk h
    have := fold_id (F := fuseF k) l [] (fun s hs => mapF_id _ (fun a ha => ih _ (by
      have h1 := szB_mem 1 hs
      have h2 := szA_mem 1 ha
      omega) ((fixS_iff s).mp ((fixB_iff l).mp h.2 s hs) a ha))) (by simpa using h.1)
    simpa [fuseF] using this
/-- FuseOnce's law. -/
theorem fuse_once (k : Nat) (l : List Stm) (h : szB 1 l ≤ k) : fuseF k (fuseF k l) = fuseF k l :=
  fuse_id k _ (Nat.le_trans (szB_fuse 1 k l) h) (fixL_fuse k l h)

/-! FuseLeft: as the law looks. -/
def pairApart (x y : Stm) : Bool := !(decide (y.op = 5 ∧ x.op = 5 ∧ y.name = x.name) && !setsB y.name [x])
mutual
def apS : Stm → Bool
  | .mk h arms => if h.op = 5 then apA arms else true
def apA : List Arm → Bool
  | [] => true
  | a :: r => apR a && apA r
def apR : Arm → Bool
  | .mk _ body => apJ body && apB body
def apB : List Stm → Bool
  | [] => true
  | s :: r => apS s && apB r
def apJ : List Stm → Bool
  | [] => true
  | x :: r => (match r with | [] => true | y :: _ => pairApart x y) && apJ r
end
def apart (l : List Stm) : Bool := apJ l && apB l
theorem apS_eq (s : Stm) : apS s = if s.op = 5 then s.arms.all (fun a => apart a.body) else true := by
  have hA : ∀ l : List Arm, apA l = l.all (fun a => apart a.body) := by
    intro l
    induction l with
    | nil => simp [apA]
    | cons a r ih => cases a; simp only [apA, apR, ih, List.all_cons]; rfl
  cases s; rw [apS, hA]; rfl
theorem apB_eq (l : List Stm) : apB l = l.all apS := by
  induction l with
  | nil => simp [apB]
  | cons a r ih => simp [apB, ih]
theorem apJ_adj (l : List Stm) (h : adj l) : apJ l = true := by
  induction l with
  | nil => simp [apJ]
  | cons x r ih =>
    cases r with
    | nil => simp [apJ]
    | cons y q =>
      have h2 := ih h.2
      rw [apJ, h2, Bool.and_true]
      have h1 := h.1
      show pairApart x y = true
      unfold pairApart
      unfold tog at h1
      simp only [setsB, Bool.or_false]
      by_cases e : y.op = 5 ∧ x.op = 5 ∧ y.name = x.name
      · have e' : x.op = 5 ∧ y.op = 5 ∧ x.name = y.name := ⟨e.2.1, e.1, e.2.2.symm⟩
        rw [decide_eq_true e'] at h1
        rw [decide_eq_true e, e.2.2]
        simpa using h1
      · rw [decide_eq_false e]; rfl
theorem apart_fix (n : Nat) : ∀ l, szB 1 l ≤ n → fixL l → apart l = true := by
  induction n with
  | zero =>
    intro l h _
    cases l with
    | nil => simp [apart, apJ, apB]
    | cons s r => simp only [szB] at h; rw [szS_eq] at h; omega
  | succ n ih =>
    intro l hk h
    unfold apart
    rw [apJ_adj l h.1, Bool.true_and, apB_eq, List.all_eq_true]
    intro s hs
    rw [apS_eq]
    split
    · rw [List.all_eq_true]
      intro a ha
      have h1 := szB_mem 1 hs
      have h2 := szA_mem 1 ha
      exact ih _ (by omega) ((fixS_iff s).mp ((fixB_iff l).mp h.2 s hs) a ha)
    · rfl
/-- FuseLeft's law. -/
theorem fuse_left (k : Nat) (l : List Stm) (h : szB 1 l ≤ k) : apart (fuseF k l) = true :=
  apart_fix _ _ (Nat.le_refl _) (fixL_fuse k l h)

/-! FusePlain: no two guards are neighbours. -/
def lone : List Stm → Prop
  | [] => True
  | [_] => True
  | x :: y :: r => ¬ (y.op = 5 ∧ x.op = 5) ∧ lone (y :: r)
def alone (F : List Stm → List Stm) (s : Stm) : Stm := .mk s.hd (mapF F s.arms)
theorem lone_snoc (l : List Stm) (x y : Stm) (r : List Stm) (h : lone (l ++ x :: y :: r)) : ¬ (y.op = 5 ∧ x.op = 5) := by
  induction l with
  | nil => exact h.1
  | cons a m ih =>
    cases m with
    | nil => exact ih h.2
    | cons b q => exact ih h.2
theorem plain_fold {F : List Stm → List Stm} (l : List Stm) : ∀ pre, lone (pre ++ l) → l.foldl (fstep F) (pre.map (alone F)) = (pre ++ l).map (alone F) := by
  induction l with
  | nil => intro pre _; simp
  | cons s r ih =>
    intro pre h
    have e : pre ++ s :: r = (pre ++ [s]) ++ r := by simp
    have hst : fstep F (pre.map (alone F)) s = (pre ++ [s]).map (alone F) := by
      unfold fstep
      split
      · rename_i h'
        have : pre = [] := by simpa using h'
        subst this; rfl
      · rename_i t ht
        rw [if_neg]
        · simp [alone]
        · rcases List.eq_nil_or_concat pre with q | ⟨m, z, q⟩
          · subst q; simp at ht
          · subst q
            simp at ht
            subst ht
            have := lone_snoc m z s r (by simpa using h)
            intro hg
            simp only [tog, Bool.and_eq_true, decide_eq_true_eq] at hg
            exact this ⟨hg.1.2.1, hg.1.1⟩
    rw [List.foldl_cons, hst, e]
    exact ih _ (by rw [← e]; exact h)
/-- FusePlain's law. -/
theorem fuse_plain (k : Nat) (l : List Stm) (h : lone l) : fuseF (k + 1) l = l.map (alone (fuseF k)) := by
  have := plain_fold (F := fuseF k) l [] (by simpa using h)
  simpa [fuseF] using this
theorem fuse_alone (k : Nat) (s : Stm) : fuseF (k + 1) [s] = [alone (fuseF k) s] := fuse_plain k [s] trivial
end Go.Proofs.Ytnbinejghkhcjaa.Fu
