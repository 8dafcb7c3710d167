/- The plain side of the reference: arms gathered constructor by constructor. -/
import Derived.Test.YtnbinejghkhcjaaFp
namespace Go.Proofs.Ytnbinejghkhcjaa.Fu

/-- The constructors, each once, in the order in which they come first. -/
def dcons (l : List Arm) : List ByteArray := l.foldl (fun d a => if d.any (fun x => decide (x = a.con)) = true then d else d ++ [a.con]) []
/-- All the bodies of a constructor. -/
def grp (l : List Arm) (c : ByteArray) : List Stm := (l.filter fun a => decide (a.con = c)).flatMap Arm.body
theorem dcons_snoc (l : List Arm) (a : Arm) : dcons (l ++ [a]) = if (dcons l).any (fun x => decide (x = a.con)) = true then dcons l else dcons l ++ [a.con] := by
  unfold dcons; rw [List.foldl_append]; rfl
theorem any_mem (d : List ByteArray) (c : ByteArray) : d.any (fun x => decide (x = c)) = true ↔ c ∈ d := by
  rw [List.any_eq_true]
  constructor
  · rintro ⟨x, hx, e⟩; have := of_decide_eq_true e; subst this; exact hx
  · intro h; exact ⟨c, h, decide_eq_true rfl⟩
theorem snoc_ind {α : Type} {P : List α → Prop} (h0 : P []) (hs : ∀ l a, P l → P (l ++ [a])) : ∀ l, P l := by
  intro l
  suffices h : ∀ n (l : List α), l.length = n → P l from h _ l rfl
  intro n
  induction n with
  | zero => intro l h; have : l = [] := List.eq_nil_of_length_eq_zero h; subst this; exact h0
  | succ n ih =>
    intro l h
    rcases List.eq_nil_or_concat l with e | ⟨m, x, e⟩
    · subst e; simp at h
    · rw [List.concat_eq_append] at e; subst e; exact hs m x (ih m (by simpa using h))
theorem dcons_mem : ∀ (l : List Arm) (c : ByteArray), c ∈ dcons l ↔ c ∈ l.map Arm.con := by
  intro l c
  induction l using snoc_ind with
  | h0 => simp [dcons]
  | hs l a ih =>
    rw [dcons_snoc, List.map_append, List.mem_append]
    split
    · rename_i h
      rw [ih]
      constructor
      · exact Or.inl
      · rintro (q | q)
        · exact q
        · simp at q; subst q; exact ih.mp ((any_mem _ _).mp h)
    · rw [List.mem_append, ih]; simp
theorem dcons_nodup : ∀ (l : List Arm), (dcons l).Nodup := by
  intro l
  induction l using snoc_ind with
  | h0 => simp [dcons]
  | hs l a ih =>
    rw [dcons_snoc]
    split
    · exact ih
    · rename_i h
      rw [List.nodup_append]
      refine ⟨ih, by simp, ?_⟩
      intro x hx y hy e
      simp at hy
      subst hy; subst e; exact h ((any_mem _ _).mpr hx)
theorem grp_snoc (l : List Arm) (a : Arm) (c : ByteArray) : grp (l ++ [a]) c = grp l c ++ (if a.con = c then a.body else []) := by
  unfold grp
  rw [List.filter_append, List.flatMap_append]
  congr 1
  by_cases h : a.con = c
  · simp [h]
  · simp [h]
theorem grp_append (l m : List Arm) (c : ByteArray) : grp (l ++ m) c = grp l c ++ grp m c := by
  unfold grp; rw [List.filter_append, List.flatMap_append]
theorem grp_none {l : List Arm} {c : ByteArray} (h : c ∉ l.map Arm.con) : grp l c = [] := by
  induction l with
  | nil => rfl
  | cons a r ih =>
    simp only [List.map_cons, List.mem_cons, not_or] at h
    have e : grp (a :: r) c = grp [a] c ++ grp r c := grp_append [a] r c
    rw [e, ih h.2]
    have : grp ([] ++ [a]) c = _ := grp_snoc [] a c
    simp only [List.nil_append] at this
    rw [this, if_neg (fun q => h.1 q.symm)]
    rfl
theorem put_map (g : ByteArray → List Stm) (a : Arm) : ∀ (ds : List ByteArray), ds.Nodup → put (ds.map fun c => .mk c (g c)) a = if ds.any (fun x => decide (x = a.con)) = true then ds.map (fun c => .mk c (if a.con = c then g c ++ a.body else g c)) else ds.map (fun c => .mk c (g c)) ++ [a] := by
  intro ds
  induction ds with
  | nil => intro _; simp [put]
  | cons d r ih =>
    intro hn
    simp only [List.nodup_cons] at hn
    simp only [List.map_cons, put, show (Arm.mk d (g d)).con = d from rfl, show (Arm.mk d (g d)).body = g d from rfl]
    by_cases h : d = a.con
    · rw [if_pos h, if_pos ((any_mem _ _).mpr (by simp [h])), if_pos h.symm]
      congr 1
      refine List.map_congr_left (fun c hc => ?_)
      rw [if_neg (fun e => hn.1 (by rw [h, e]; exact hc))]
    · rw [if_neg h, ih hn.2]
      by_cases h2 : r.any (fun x => decide (x = a.con)) = true
      · rw [if_pos h2, if_pos ((any_mem _ _).mpr (List.mem_cons_of_mem _ ((any_mem _ _).mp h2))), if_neg (fun e => h e.symm)]
      · rw [if_neg h2, if_neg (fun q => by
          rcases List.mem_cons.mp ((any_mem _ _).mp q) with e | e
          · exact h e.symm
          · exact h2 ((any_mem _ _).mpr e))]
        rfl
theorem gather_grp : ∀ (l : List Arm), gather [] l = (dcons l).map fun c => .mk c (grp l c) := by
  intro l
  induction l using snoc_ind with
  | h0 => rfl
  | hs l a ih =>
    have e : gather [] (l ++ [a]) = put (gather [] l) a := by simp [gather, List.foldl_append]
    rw [e, ih, put_map _ _ _ (dcons_nodup l), dcons_snoc]
    split
    · refine List.map_congr_left (fun c hc => ?_)
      rw [grp_snoc]
      split
      · rfl
      · rw [List.append_nil]
    · rename_i h
      rw [List.map_append]
      congr 1
      · refine List.map_congr_left (fun c hc => ?_)
        rw [grp_snoc, if_neg (fun e => h ((any_mem _ _).mpr (by rw [e]; exact hc))), List.append_nil]
      · have hg : grp l a.con = [] := grp_none (fun q => h ((any_mem _ _).mpr ((dcons_mem l _).mpr q)))
        show [a] = [Arm.mk a.con (grp (l ++ [a]) a.con)]
        rw [grp_snoc, hg, if_pos rfl, List.nil_append, Arm.eta]
theorem join_grp (F : List Stm → List Stm) (l : List Arm) : join F l = (dcons l).map fun c => .mk c (F (grp l c)) := by
  unfold join mapF
  rw [gather_grp, List.map_map]
  rfl
theorem szB_grp (l : List Arm) (c : ByteArray) : szB 1 (grp l c) + (l.filter fun a => decide (a.con = c)).length ≤ szA 1 l := by
  induction l using snoc_ind with
  | h0 => simp [grp, szA, szB]
  | hs l a ih =>
    rw [grp_snoc, szB_append, szA_append, List.filter_append, List.length_append]
    simp only [szA]
    rw [szR_eq]
    by_cases h : a.con = c
    · simp [h]; omega
    · simp [h, szB]; omega
end Go.Proofs.Ytnbinejghkhcjaa.Fu
