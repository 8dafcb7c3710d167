/- The plain side of fuse: statements as trees, and what fusing makes of them. No program here but for the raw values that a statement bears along. -/
import GoSem.Core.Value
namespace Go.Proofs.Ytnbinejghkhcjaa.Fu

/-- What a statement bears beside its arms: its number and name, the names that it sets, and its other cells as they lie. -/
structure Hd where
  op : Int
  name : ByteArray
  strs : List ByteArray
  names : Value
  inst : Value
  e0 : Value
  e1 : Value
  e2 : Value
  e3 : Value
  e4 : Value
  args : Value

mutual
inductive Stm where
  | mk (h : Hd) (arms : List Arm)
inductive Arm where
  | mk (con : ByteArray) (body : List Stm)
end
namespace Stm
def hd : Stm → Hd | mk h _ => h
def arms : Stm → List Arm | mk _ a => a
def op (s : Stm) : Int := s.hd.op
def name (s : Stm) : ByteArray := s.hd.name
end Stm
namespace Arm
def con : Arm → ByteArray | mk c _ => c
def body : Arm → List Stm | mk _ b => b
end Arm
theorem Stm.eta (s : Stm) : Stm.mk s.hd s.arms = s := by cases s; rfl
theorem Arm.eta (a : Arm) : Arm.mk a.con a.body = a := by cases a; rfl

/-! How many statements and arms. -/
mutual
def szS (w : Nat) : Stm → Nat
  | .mk _ arms => 1 + szA w arms
def szA (w : Nat) : List Arm → Nat
  | [] => 0
  | a :: r => szR w a + szA w r
def szR (w : Nat) : Arm → Nat
  | .mk _ body => w + szB w body
def szB (w : Nat) : List Stm → Nat
  | [] => 0
  | s :: r => szS w s + szB w r
end
theorem szS_eq (w : Nat) (s : Stm) : szS w s = 1 + szA w s.arms := by cases s; simp [szS, Stm.arms]
theorem szR_eq (w : Nat) (a : Arm) : szR w a = w + szB w a.body := by cases a; simp [szR, Arm.body]
theorem szA_append (w : Nat) (x y : List Arm) : szA w (x ++ y) = szA w x + szA w y := by
  induction x with
  | nil => simp [szA]
  | cons a r ih => simp [szA, ih]; omega
theorem szB_append (w : Nat) (x y : List Stm) : szB w (x ++ y) = szB w x + szB w y := by
  induction x with
  | nil => simp [szB]
  | cons a r ih => simp [szB, ih]; omega
theorem szA_mem (w : Nat) {a : Arm} {l : List Arm} (h : a ∈ l) : w + szB w a.body ≤ szA w l := by
  induction l with
  | nil => cases h
  | cons x r ih =>
    simp only [szA]
    rcases List.mem_cons.mp h with e | e
    · subst e; rw [szR_eq]; omega
    · have := ih e; omega
theorem szB_mem (w : Nat) {s : Stm} {l : List Stm} (h : s ∈ l) : 1 + szA w s.arms ≤ szB w l := by
  induction l with
  | nil => cases h
  | cons x r ih =>
    simp only [szB]
    rcases List.mem_cons.mp h with e | e
    · subst e; rw [szS_eq]; omega
    · have := ih e; omega
theorem len_szA (l : List Arm) : l.length ≤ szA 1 l := by
  induction l with
  | nil => simp [szA]
  | cons a r ih => simp only [szA, List.length_cons]; rw [szR_eq]; omega
theorem len_szB (w : Nat) (l : List Stm) : l.length ≤ szB w l := by
  induction l with
  | nil => simp [szB]
  | cons a r ih => simp only [szB, List.length_cons]; rw [szS_eq]; omega

/-! Which names are set. -/
mutual
def setsS (nm : ByteArray) : Stm → Bool
  | .mk h arms => if h.op = 1 ∨ h.op = 2 then decide (h.name = nm) else if h.op = 3 then h.strs.any (fun x => decide (x = nm)) else if h.op = 5 then setsA nm arms else false
def setsA (nm : ByteArray) : List Arm → Bool
  | [] => false
  | a :: r => setsR nm a || setsA nm r
def setsR (nm : ByteArray) : Arm → Bool
  | .mk _ body => setsB nm body
def setsB (nm : ByteArray) : List Stm → Bool
  | [] => false
  | s :: r => setsS nm s || setsB nm r
end
theorem setsR_eq (nm : ByteArray) (a : Arm) : setsR nm a = setsB nm a.body := by cases a; simp [setsR, Arm.body]
theorem setsS_eq (nm : ByteArray) (s : Stm) : setsS nm s = if s.op = 1 ∨ s.op = 2 then decide (s.name = nm) else if s.op = 3 then s.hd.strs.any (fun x => decide (x = nm)) else if s.op = 5 then setsA nm s.arms else false := by
  cases s; rw [setsS]; rfl
theorem setsB_append (nm : ByteArray) (x y : List Stm) : setsB nm (x ++ y) = (setsB nm x || setsB nm y) := by
  induction x with
  | nil => simp [setsB]
  | cons a r ih => simp [setsB, ih, Bool.or_assoc]
theorem setsA_append (nm : ByteArray) (x y : List Arm) : setsA nm (x ++ y) = (setsA nm x || setsA nm y) := by
  induction x with
  | nil => simp [setsA]
  | cons a r ih => simp [setsA, ih, Bool.or_assoc]
theorem setsB_any (nm : ByteArray) (l : List Stm) : setsB nm l = l.any (setsS nm) := by
  induction l with
  | nil => simp [setsB]
  | cons a r ih => simp [setsB, ih]
theorem setsA_any (nm : ByteArray) (l : List Arm) : setsA nm l = l.any (fun a => setsB nm a.body) := by
  induction l with
  | nil => simp [setsA]
  | cons a r ih => simp [setsA, ih, setsR_eq]

/-! Fusing. -/
def tog (a b : Stm) : Bool := decide (a.op = 5 ∧ b.op = 5 ∧ a.name = b.name) && !setsS a.name a

/-- An arm laid to the others: behind the first of its constructor, or as a new one. -/
def put (out : List Arm) (a : Arm) : List Arm :=
  match out with
  | [] => [a]
  | x :: r => if x.con = a.con then .mk x.con (x.body ++ a.body) :: r else x :: put r a
def gather (out : List Arm) (arms : List Arm) : List Arm := arms.foldl put out
def mapF (F : List Stm → List Stm) (arms : List Arm) : List Arm := arms.map fun a => .mk a.con (F a.body)
def join (F : List Stm → List Stm) (arms : List Arm) : List Arm := mapF F (gather [] arms)

/-- The head of a guard that was put together. -/
def caseHd (nm : ByteArray) : Hd := ⟨5, nm, [], .slice none 0 0, .int .i64 0, .int .i64 0, .string ⟨#[]⟩, .int .i64 0, .slice none 0 0, .slice none 0 0, .slice none 0 0⟩

def fstep (F : List Stm → List Stm) (out : List Stm) (s : Stm) : List Stm :=
  match out.getLast? with
  | none => [.mk s.hd (mapF F s.arms)]
  | some t => if tog t (.mk s.hd (mapF F s.arms)) = true then out.dropLast ++ [.mk (caseHd s.name) (join F (t.arms ++ mapF F s.arms))] else out ++ [.mk s.hd (mapF F s.arms)]
def fuseF : Nat → List Stm → List Stm
  | 0, l => l
  | k + 1, l => l.foldl (fstep (fuseF k)) []

/-! Sizes. -/
theorem szA_put (w : Nat) (out : List Arm) (a : Arm) : szA w (put out a) ≤ szA w out + szR w a := by
  induction out with
  | nil => simp [put, szA]
  | cons x r ih =>
    simp only [put]
    split
    · simp only [szA]
      rw [szR_eq, szR_eq, szR_eq]
      simp only [Arm.body, szB_append]
      omega
    · simp only [szA]; omega
theorem szA_gather (w : Nat) (arms : List Arm) : ∀ out, szA w (gather out arms) ≤ szA w out + szA w arms := by
  induction arms with
  | nil => intro out; simp [gather, szA]
  | cons a r ih =>
    intro out
    have h1 := ih (put out a)
    have h2 := szA_put w out a
    simp only [gather, List.foldl_cons, szA] at h1 ⊢
    omega
theorem szA_mapF (w : Nat) {F : List Stm → List Stm} (hF : ∀ l, szB w (F l) ≤ szB w l) (arms : List Arm) : szA w (mapF F arms) ≤ szA w arms := by
  induction arms with
  | nil => simp [mapF, szA]
  | cons a r ih =>
    have := hF a.body
    simp only [mapF, List.map_cons, szA] at ih ⊢
    rw [szR_eq, szR_eq]
    simp only [Arm.body] at *
    omega
theorem szA_join (w : Nat) {F : List Stm → List Stm} (hF : ∀ l, szB w (F l) ≤ szB w l) (arms : List Arm) : szA w (join F arms) ≤ szA w arms := by
  have h1 := szA_mapF w hF (gather [] arms)
  have h2 := szA_gather w arms []
  simp only [join, szA] at *
  omega
theorem split_last {α : Type} {out : List α} {t : α} (h : out.getLast? = some t) : out = out.dropLast ++ [t] := by
  rcases List.eq_nil_or_concat out with e | ⟨l, x, e⟩
  · subst e; simp at h
  · subst e; simp at h ⊢; exact h
theorem szB_fstep (w : Nat) {F : List Stm → List Stm} (hF : ∀ l, szB w (F l) ≤ szB w l) (out : List Stm) (s : Stm) : szB w (fstep F out s) ≤ szB w out + szS w s := by
  have hm := szA_mapF w hF s.arms
  have hs := szS_eq w s
  unfold fstep
  split
  · simp only [szB, szS]; omega
  · rename_i t ht
    have ho := split_last ht
    have hj := szA_join w hF (t.arms ++ mapF F s.arms)
    rw [szA_append] at hj
    have hlen : szB w out = szB w out.dropLast + szS w t := by
      conv => lhs; rw [ho]
      simp [szB_append, szB]
    have ht' := szS_eq w t
    split
    · rw [szB_append]
      simp only [szB, szS]; omega
    · rw [szB_append]
      simp only [szB, szS]; omega
theorem szB_fold (w : Nat) {F : List Stm → List Stm} (hF : ∀ l, szB w (F l) ≤ szB w l) (l : List Stm) : ∀ out, szB w (l.foldl (fstep F) out) ≤ szB w out + szB w l := by
  induction l with
  | nil => intro out; simp [szB]
  | cons s r ih =>
    intro out
    have h1 := ih (fstep F out s)
    have h2 := szB_fstep w hF out s
    simp only [List.foldl_cons, szB]
    omega
theorem szB_fuse (w : Nat) (k : Nat) : ∀ l, szB w (fuseF k l) ≤ szB w l := by
  induction k with
  | zero => intro l; exact Nat.le_refl _
  | succ k ih => intro l; have := szB_fold w ih l []; simpa [fuseF, szB] using this

/-! What is done is the same (FuseSame). -/
mutual
def sglS : Stm → Prop
  | .mk _ arms => (arms.map Arm.con).Nodup ∧ sglA arms
def sglA : List Arm → Prop
  | [] => True
  | a :: r => sglR a ∧ sglA r
def sglR : Arm → Prop
  | .mk _ body => sglB body
def sglB : List Stm → Prop
  | [] => True
  | s :: r => sglS s ∧ sglB r
end
theorem sglS_iff (s : Stm) : sglS s ↔ (s.arms.map Arm.con).Nodup ∧ ∀ a ∈ s.arms, sglB a.body := by
  have hA : ∀ l : List Arm, sglA l ↔ ∀ a ∈ l, sglB a.body := by
    intro l
    induction l with
    | nil => simp [sglA]
    | cons a r ih => cases a; simp [sglA, sglR, ih, Arm.body]
  cases s; simp [sglS, Stm.arms, hA]
theorem sglB_iff (l : List Stm) : sglB l ↔ ∀ s ∈ l, sglS s := by
  induction l with
  | nil => simp [sglB]
  | cons a r ih => simp [sglB, ih]

/-- What is known of a name. -/
def factOf (facts : List (ByteArray × ByteArray)) (nm : ByteArray) : ByteArray :=
  match facts with
  | [] => ⟨#[]⟩
  | x :: r => if x.1 = nm then x.2 else factOf r nm
mutual
def doneS (fs : List (ByteArray × ByteArray)) : Stm → List Stm
  | .mk h arms => if h.op = 5 then doneA fs (factOf fs h.name) arms else [.mk h []]
def doneA (fs : List (ByteArray × ByteArray)) (c : ByteArray) : List Arm → List Stm
  | [] => []
  | .mk con body :: r => if con = c then doneB fs body else doneA fs c r
def doneB (fs : List (ByteArray × ByteArray)) : List Stm → List Stm
  | [] => []
  | s :: r => doneS fs s ++ doneB fs r
end
theorem doneB_append (fs : List (ByteArray × ByteArray)) (x y : List Stm) : doneB fs (x ++ y) = doneB fs x ++ doneB fs y := by
  induction x with
  | nil => simp [doneB]
  | cons a r ih => simp [doneB, ih]
theorem doneA_cons (fs : List (ByteArray × ByteArray)) (c : ByteArray) (a : Arm) (r : List Arm) : doneA fs c (a :: r) = if a.con = c then doneB fs a.body else doneA fs c r := by
  cases a; rw [doneA]; rfl
theorem doneS_eq (fs : List (ByteArray × ByteArray)) (s : Stm) : doneS fs s = if s.op = 5 then doneA fs (factOf fs s.name) s.arms else [.mk s.hd []] := by
  cases s; rw [doneS]; rfl

theorem put_cons_mem (out : List Arm) (a : Arm) (c : ByteArray) : c ∈ (put out a).map Arm.con ↔ c ∈ out.map Arm.con ∨ c = a.con := by
  induction out with
  | nil => simp [put]
  | cons x r ih =>
    simp only [put]
    split
    · rename_i e
      simp only [List.map_cons, List.mem_cons, show (Arm.mk x.con (x.body ++ a.body)).con = x.con from rfl]
      constructor
      · rintro (h | h)
        · exact Or.inl (Or.inl h)
        · exact Or.inl (Or.inr h)
      · rintro ((h | h) | h)
        · exact Or.inl h
        · exact Or.inr h
        · left; rw [h]; exact e.symm
    · simp only [List.map_cons, List.mem_cons, ih]
      constructor
      · rintro (h | h | h)
        · exact Or.inl (Or.inl h)
        · exact Or.inl (Or.inr h)
        · exact Or.inr h
      · rintro ((h | h) | h)
        · exact Or.inl h
        · exact Or.inr (Or.inl h)
        · exact Or.inr (Or.inr h)
theorem put_nodup (out : List Arm) (a : Arm) (h : (out.map Arm.con).Nodup) : ((put out a).map Arm.con).Nodup := by
  induction out with
  | nil => simp [put]
  | cons x r ih =>
    simp only [put]
    simp only [List.map_cons, List.nodup_cons] at h
    split
    · simp only [List.map_cons, List.nodup_cons, show (Arm.mk x.con (x.body ++ a.body)).con = x.con from rfl]; exact h
    · rename_i e
      simp only [List.map_cons, List.nodup_cons]
      refine ⟨fun q => ?_, ih h.2⟩
      rcases (put_cons_mem r a x.con).mp q with q | q
      · exact h.1 q
      · exact e q
theorem gather_nodup (arms : List Arm) : ∀ out, (out.map Arm.con).Nodup → ((gather out arms).map Arm.con).Nodup := by
  induction arms with
  | nil => intro out h; exact h
  | cons a r ih => intro out h; exact ih _ (put_nodup out a h)
/-- A property of statements that all bodies have, the bodies that are put together have. -/
theorem put_all {Q : List Stm → Prop} (hQ : ∀ x y, Q x → Q y → Q (x ++ y)) (out : List Arm) (a : Arm) (h : ∀ x ∈ out, Q x.body) (ha : Q a.body) : ∀ x ∈ put out a, Q x.body := by
  induction out with
  | nil => intro x hx; simp [put] at hx; subst hx; exact ha
  | cons y r ih =>
    intro x hx
    simp only [put] at hx
    split at hx
    · rcases List.mem_cons.mp hx with e | e
      · subst e; exact hQ _ _ (h y (List.mem_cons_self ..)) ha
      · exact h x (List.mem_cons_of_mem _ e)
    · rcases List.mem_cons.mp hx with e | e
      · subst e; exact h x (List.mem_cons_self ..)
      · exact ih (fun z hz => h z (List.mem_cons_of_mem _ hz)) x e
theorem gather_all {Q : List Stm → Prop} (hQ : ∀ x y, Q x → Q y → Q (x ++ y)) (arms : List Arm) : ∀ out, (∀ x ∈ out, Q x.body) → (∀ x ∈ arms, Q x.body) → ∀ x ∈ gather out arms, Q x.body := by
  induction arms with
  | nil => intro out h _; exact h
  | cons a r ih =>
    intro out h ha
    exact ih _ (put_all hQ out a h (ha a (List.mem_cons_self ..))) (fun z hz => ha z (List.mem_cons_of_mem _ hz))
theorem mapF_con (F : List Stm → List Stm) (arms : List Arm) : (mapF F arms).map Arm.con = arms.map Arm.con := by
  unfold mapF; rw [List.map_map]; rfl
theorem mapF_mem {F : List Stm → List Stm} {arms : List Arm} {x : Arm} (h : x ∈ mapF F arms) : ∃ a ∈ arms, x.con = a.con ∧ x.body = F a.body := by
  unfold mapF at h
  obtain ⟨a, ha, rfl⟩ := List.mem_map.mp h
  exact ⟨a, ha, rfl, rfl⟩

theorem sglB_append (x y : List Stm) (hx : sglB x) (hy : sglB y) : sglB (x ++ y) := by
  rw [sglB_iff] at *
  intro s hs
  rcases List.mem_append.mp hs with h | h
  · exact hx s h
  · exact hy s h
theorem fstep_sgl {F : List Stm → List Stm} (hF : ∀ l, sglB l → sglB (F l)) (out : List Stm) (s : Stm) (ho : sglB out) (hs : sglS s) : sglB (fstep F out s) := by
  have hs' : sglS (.mk s.hd (mapF F s.arms)) := by
    rw [sglS_iff] at hs ⊢
    refine ⟨by show ((mapF F s.arms).map Arm.con).Nodup; rw [mapF_con]; exact hs.1, fun x hx => ?_⟩
    obtain ⟨a, ha, _, e⟩ := mapF_mem hx
    rw [e]; exact hF _ (hs.2 a ha)
  unfold fstep
  split
  · simp [sglB, hs']
  · rename_i t ht
    have hspl := split_last ht
    rw [hspl] at ho
    rw [sglB_iff] at ho
    have ht' : sglS t := ho t (by simp)
    split
    · refine sglB_append _ _ ?_ ?_
      · rw [sglB_iff]; intro x hx; exact ho x (List.mem_append_left _ hx)
      · simp only [sglB, and_true]
        rw [sglS_iff]
        have ht2 := (sglS_iff t).mp ht'
        have hs2 := (sglS_iff _).mp hs'
        refine ⟨?_, fun x hx => ?_⟩
        · show ((mapF F (gather [] _)).map Arm.con).Nodup
          rw [mapF_con]; exact gather_nodup _ _ (by simp)
        · obtain ⟨a, ha, _, e⟩ := mapF_mem (show x ∈ mapF F (gather [] (t.arms ++ mapF F s.arms)) from hx)
          rw [e]
          refine hF _ (gather_all (Q := sglB) sglB_append _ [] (by simp) ?_ a ha)
          intro z hz
          rcases List.mem_append.mp hz with q | q
          · exact ht2.2 z q
          · exact hs2.2 z q
    · rw [hspl]
      refine sglB_append _ _ ?_ (by simp [sglB, hs'])
      rw [sglB_iff]; exact ho
theorem fold_sgl {F : List Stm → List Stm} (hF : ∀ l, sglB l → sglB (F l)) (l : List Stm) : ∀ out, sglB out → sglB l → sglB (l.foldl (fstep F) out) := by
  induction l with
  | nil => intro out ho _; exact ho
  | cons s r ih =>
    intro out ho hl
    simp only [sglB] at hl
    exact ih _ (fstep_sgl hF out s ho hl.1) hl.2
theorem fuse_sgl (k : Nat) : ∀ l, sglB l → sglB (fuseF k l) := by
  induction k with
  | zero => intro l h; exact h
  | succ k ih => intro l h; exact fold_sgl ih l [] trivial h

/-! FuseSame: what is done. -/
theorem doneA_none (fs : List (ByteArray × ByteArray)) (c : ByteArray) (l : List Arm) (h : c ∉ l.map Arm.con) : doneA fs c l = [] := by
  induction l with
  | nil => simp [doneA]
  | cons x r ih =>
    simp only [List.map_cons, List.mem_cons, not_or] at h
    rw [doneA_cons, if_neg (fun e => h.1 e.symm), ih h.2]
/-- All the bodies of a constructor, one behind the other. -/
def doneAll (fs : List (ByteArray × ByteArray)) (c : ByteArray) : List Arm → List Stm
  | [] => []
  | a :: r => (if a.con = c then doneB fs a.body else []) ++ doneAll fs c r
theorem doneAll_none (fs : List (ByteArray × ByteArray)) (c : ByteArray) (l : List Arm) (h : c ∉ l.map Arm.con) : doneAll fs c l = [] := by
  induction l with
  | nil => simp [doneAll]
  | cons x r ih =>
    simp only [List.map_cons, List.mem_cons, not_or] at h
    rw [doneAll, if_neg (fun e => h.1 e.symm), ih h.2]; rfl
theorem doneAll_single (fs : List (ByteArray × ByteArray)) (c : ByteArray) (l : List Arm) (h : (l.map Arm.con).Nodup) : doneA fs c l = doneAll fs c l := by
  induction l with
  | nil => simp [doneA, doneAll]
  | cons x r ih =>
    simp only [List.map_cons, List.nodup_cons] at h
    rw [doneA_cons, doneAll]
    split
    · rename_i e
      rw [doneAll_none fs c r (by rw [← e]; exact h.1), List.append_nil]
    · rw [ih h.2]; rfl
theorem doneAll_append (fs : List (ByteArray × ByteArray)) (c : ByteArray) (x y : List Arm) : doneAll fs c (x ++ y) = doneAll fs c x ++ doneAll fs c y := by
  induction x with
  | nil => simp [doneAll]
  | cons a r ih => simp only [List.cons_append, doneAll, ih, List.append_assoc]
theorem doneAll_put (fs : List (ByteArray × ByteArray)) (c : ByteArray) (out : List Arm) (a : Arm) (h : (out.map Arm.con).Nodup) : doneAll fs c (put out a) = doneAll fs c out ++ (if a.con = c then doneB fs a.body else []) := by
  induction out with
  | nil => simp [put, doneAll]
  | cons x r ih =>
    simp only [List.map_cons, List.nodup_cons] at h
    simp only [put]
    split
    · rename_i e
      simp only [doneAll, show (Arm.mk x.con (x.body ++ a.body)).con = x.con from rfl, show (Arm.mk x.con (x.body ++ a.body)).body = x.body ++ a.body from rfl, doneB_append]
      by_cases q : x.con = c
      · have q' : a.con = c := by rw [← e]; exact q
        rw [if_pos q, if_pos q', if_pos q, doneAll_none fs c r (by rw [← q]; exact h.1)]; simp
      · have q' : ¬ a.con = c := by rw [← e]; exact q
        rw [if_neg q, if_neg q', if_neg q]; simp
    · simp only [doneAll, ih h.2, List.append_assoc]
theorem doneAll_gather (fs : List (ByteArray × ByteArray)) (c : ByteArray) (arms : List Arm) : ∀ out, (out.map Arm.con).Nodup → doneAll fs c (gather out arms) = doneAll fs c out ++ doneAll fs c arms := by
  induction arms with
  | nil => intro out _; simp [gather, doneAll]
  | cons a r ih =>
    intro out h
    have h1 := ih (put out a) (put_nodup out a h)
    simp only [gather, List.foldl_cons] at h1 ⊢
    rw [h1, doneAll_put fs c out a h]
    simp only [doneAll, List.append_assoc]
theorem doneAll_mapF (fs : List (ByteArray × ByteArray)) (c : ByteArray) {F : List Stm → List Stm} (arms : List Arm) (hF : ∀ a ∈ arms, doneB fs (F a.body) = doneB fs a.body) : doneAll fs c (mapF F arms) = doneAll fs c arms := by
  induction arms with
  | nil => rfl
  | cons a r ih =>
    have h1 := hF a (List.mem_cons_self ..)
    have h2 := ih (fun x hx => hF x (List.mem_cons_of_mem _ hx))
    show (if a.con = c then doneB fs (F a.body) else []) ++ doneAll fs c (mapF F r) = _
    rw [h1, h2]; rfl
theorem doneS_guard (fs : List (ByteArray × ByteArray)) (h : Hd) (arms : List Arm) (e : h.op = 5) : doneS fs (.mk h arms) = doneA fs (factOf fs h.name) arms := by
  rw [doneS_eq]; exact if_pos e
theorem doneS_else (fs : List (ByteArray × ByteArray)) (h : Hd) (arms : List Arm) (e : h.op ≠ 5) : doneS fs (.mk h arms) = [.mk h []] := by
  rw [doneS_eq]; exact if_neg e
theorem mapF_sgl {F : List Stm → List Stm} (hF : ∀ l, sglB l → sglB (F l)) (h : Hd) (arms : List Arm) (hs : sglS (.mk h arms)) : sglS (.mk h (mapF F arms)) := by
  rw [sglS_iff] at hs ⊢
  refine ⟨by show ((mapF F arms).map Arm.con).Nodup; rw [mapF_con]; exact hs.1, fun x hx => ?_⟩
  obtain ⟨a, ha, _, e⟩ := mapF_mem hx
  rw [e]; exact hF _ (hs.2 a ha)
theorem done_mapF (fs : List (ByteArray × ByteArray)) {F : List Stm → List Stm} (hG : ∀ l, sglB l → sglB (F l)) (hF : ∀ l, sglB l → doneB fs (F l) = doneB fs l) (h : Hd) (arms : List Arm) (hs : sglS (.mk h arms)) : doneS fs (.mk h (mapF F arms)) = doneS fs (.mk h arms) := by
  have hs' := mapF_sgl hG h arms hs
  by_cases e : h.op = 5
  · rw [doneS_guard fs h _ e, doneS_guard fs h _ e, doneAll_single _ _ (mapF F arms) ((sglS_iff (.mk h (mapF F arms))).mp hs').1, doneAll_single _ _ arms ((sglS_iff (.mk h arms)).mp hs).1]
    exact doneAll_mapF fs _ arms (fun a ha => hF _ (((sglS_iff _).mp hs).2 a ha))
  · rw [doneS_else fs h _ e, doneS_else fs h _ e]
theorem doneB_fstep (fs : List (ByteArray × ByteArray)) {F : List Stm → List Stm} (hG : ∀ l, sglB l → sglB (F l)) (hF : ∀ l, sglB l → doneB fs (F l) = doneB fs l) (out : List Stm) (s : Stm) (ho : sglB out) (hs : sglS s) : doneB fs (fstep F out s) = doneB fs out ++ doneS fs s := by
  obtain ⟨h, arms⟩ := s
  have hd := done_mapF fs hG hF h arms hs
  have hs' := mapF_sgl hG h arms hs
  unfold fstep
  show doneB fs (match out.getLast? with | none => [.mk h (mapF F arms)] | some t => if tog t (.mk h (mapF F arms)) = true then out.dropLast ++ [.mk (caseHd h.name) (join F (t.arms ++ mapF F arms))] else out ++ [.mk h (mapF F arms)]) = _
  cases ht : out.getLast? with
  | none =>
    have : out = [] := by simpa using ht
    subst this
    simp only [doneB, hd, List.append_nil, List.nil_append]
  | some t =>
    have hspl := split_last ht
    show doneB fs (if tog t (.mk h (mapF F arms)) = true then _ else _) = _
    by_cases hg : tog t (.mk h (mapF F arms)) = true
    · rw [if_pos hg]
      simp only [tog, Bool.and_eq_true, decide_eq_true_eq] at hg
      obtain ⟨⟨g1, g2, g3⟩, _⟩ := hg
      have g2 : h.op = 5 := g2
      have g3 : t.name = h.name := g3
      have hall : ∀ s ∈ out, sglS s := (sglB_iff out).mp ho
      have ht' : sglS t := hall t (by rw [hspl]; simp)
      have ht2 := (sglS_iff t).mp ht'
      have hs2 := (sglS_iff _).mp hs'
      have hbod : ∀ a ∈ gather [] (t.arms ++ mapF F arms), sglB a.body := by
        refine gather_all (Q := sglB) sglB_append _ [] (by simp) ?_
        intro z hz
        rcases List.mem_append.mp hz with q | q
        · exact ht2.2 z q
        · exact hs2.2 z q
      have e1 : doneS fs (.mk (caseHd h.name) (join F (t.arms ++ mapF F arms))) = doneS fs t ++ doneS fs (.mk h arms) := by
        rw [doneS_guard fs (caseHd h.name) _ rfl]
        show doneA fs (factOf fs h.name) (mapF F (gather [] (t.arms ++ mapF F arms))) = _
        rw [doneAll_single _ _ _ (by rw [mapF_con]; exact gather_nodup _ _ (by simp)), doneAll_mapF fs _ _ (fun a ha => hF _ (hbod a ha)), doneAll_gather _ _ _ _ (by simp), doneAll_append]
        rw [← hd, doneS_guard fs h _ g2, doneAll_single _ _ (mapF F arms) hs2.1, doneS_eq fs t, if_pos g1, g3, doneAll_single _ _ _ ht2.1]
        rfl
      rw [doneB_append, doneB, doneB, e1, List.append_nil, ← List.append_assoc]
      congr 1
      conv => rhs; rw [hspl]
      rw [doneB_append, doneB, doneB, List.append_nil]
    · rw [if_neg hg, doneB_append, doneB, doneB, hd, List.append_nil]
theorem doneB_fold (fs : List (ByteArray × ByteArray)) {F : List Stm → List Stm} (hG : ∀ l, sglB l → sglB (F l)) (hF : ∀ l, sglB l → doneB fs (F l) = doneB fs l) (l : List Stm) : ∀ out, sglB out → sglB l → doneB fs (l.foldl (fstep F) out) = doneB fs out ++ doneB fs l := by
  induction l with
  | nil => intro out _ _; simp [doneB]
  | cons s r ih =>
    intro out ho hl
    simp only [sglB] at hl
    rw [List.foldl_cons, ih _ (fstep_sgl hG out s ho hl.1) hl.2, doneB_fstep fs hG hF out s ho hl.1, doneB, List.append_assoc]
/-- FuseSame's law. -/
theorem doneB_fuse (fs : List (ByteArray × ByteArray)) (k : Nat) : ∀ l, sglB l → doneB fs (fuseF k l) = doneB fs l := by
  induction k with
  | zero => intro l _; rfl
  | succ k ih => intro l h; have := doneB_fold fs (fuse_sgl k) ih l [] trivial h; simpa [fuseF, doneB] using this

/-! FuseLess: the same names are set. -/
theorem setsA_put (nm : ByteArray) (out : List Arm) (a : Arm) : setsA nm (put out a) = (setsA nm out || setsB nm a.body) := by
  induction out with
  | nil => simp [put, setsA, setsR_eq]
  | cons x r ih =>
    simp only [put]
    split
    · simp only [setsA, setsR_eq, show (Arm.mk x.con (x.body ++ a.body)).body = x.body ++ a.body from rfl, setsB_append]
      cases setsB nm x.body <;> cases setsB nm a.body <;> cases setsA nm r <;> rfl
    · simp only [setsA, ih, Bool.or_assoc]
theorem setsA_gather (nm : ByteArray) (arms : List Arm) : ∀ out, setsA nm (gather out arms) = (setsA nm out || setsA nm arms) := by
  induction arms with
  | nil => intro out; simp [gather, setsA]
  | cons a r ih =>
    intro out
    have h1 := ih (put out a)
    simp only [gather, List.foldl_cons] at h1 ⊢
    rw [h1, setsA_put]
    simp only [setsA, setsR_eq, Bool.or_assoc]
theorem setsA_mapF (nm : ByteArray) {F : List Stm → List Stm} (hF : ∀ l, setsB nm (F l) = setsB nm l) (arms : List Arm) : setsA nm (mapF F arms) = setsA nm arms := by
  induction arms with
  | nil => rfl
  | cons a r ih =>
    show (setsR nm (.mk a.con (F a.body)) || setsA nm (mapF F r)) = _
    rw [setsR_eq, ih]
    simp only [setsA, setsR_eq, Arm.body, hF]
theorem setsS_mapF (nm : ByteArray) {F : List Stm → List Stm} (hF : ∀ l, setsB nm (F l) = setsB nm l) (h : Hd) (arms : List Arm) : setsS nm (.mk h (mapF F arms)) = setsS nm (.mk h arms) := by
  rw [setsS_eq, setsS_eq]
  show (if h.op = 1 ∨ h.op = 2 then _ else if h.op = 3 then _ else if h.op = 5 then setsA nm (mapF F arms) else false) = _
  rw [setsA_mapF nm hF]; rfl
theorem setsS_guard (nm : ByteArray) (s : Stm) (e : s.op = 5) : setsS nm s = setsA nm s.arms := by
  rw [setsS_eq, if_neg (by rw [e]; decide), if_neg (by rw [e]; decide), if_pos e]
theorem setsB_fstep (nm : ByteArray) {F : List Stm → List Stm} (hF : ∀ l, setsB nm (F l) = setsB nm l) (out : List Stm) (s : Stm) : setsB nm (fstep F out s) = (setsB nm out || setsS nm s) := by
  obtain ⟨h, arms⟩ := s
  have hd := setsS_mapF nm hF h arms
  unfold fstep
  show setsB nm (match out.getLast? with | none => [.mk h (mapF F arms)] | some t => if tog t (.mk h (mapF F arms)) = true then out.dropLast ++ [.mk (caseHd h.name) (join F (t.arms ++ mapF F arms))] else out ++ [.mk h (mapF F arms)]) = _
  cases ht : out.getLast? with
  | none =>
    have : out = [] := by simpa using ht
    subst this
    simp only [setsB, hd, Bool.or_false, Bool.false_or]
  | some t =>
    have hspl := split_last ht
    show setsB nm (if tog t (.mk h (mapF F arms)) = true then _ else _) = _
    by_cases hg : tog t (.mk h (mapF F arms)) = true
    · rw [if_pos hg]
      simp only [tog, Bool.and_eq_true, decide_eq_true_eq] at hg
      obtain ⟨⟨g1, g2, g3⟩, _⟩ := hg
      have g2 : h.op = 5 := g2
      have e1 : setsS nm (.mk (caseHd h.name) (join F (t.arms ++ mapF F arms))) = (setsS nm t || setsS nm (.mk h arms)) := by
        rw [setsS_guard nm (.mk (caseHd h.name) _) rfl, setsS_guard nm t g1, setsS_guard nm (.mk h arms) g2]
        show setsA nm (mapF F (gather [] (t.arms ++ mapF F arms))) = _
        rw [setsA_mapF nm hF, setsA_gather, setsA_append, setsA_mapF nm hF]
        simp [setsA, Stm.arms]
      rw [setsB_append, setsB, setsB, e1, Bool.or_false, ← Bool.or_assoc]
      congr 1
      conv => rhs; rw [hspl]
      rw [setsB_append, setsB, setsB, Bool.or_false]
    · rw [if_neg hg, setsB_append, setsB, setsB, hd, Bool.or_false]
theorem setsB_fold (nm : ByteArray) {F : List Stm → List Stm} (hF : ∀ l, setsB nm (F l) = setsB nm l) (l : List Stm) : ∀ out, setsB nm (l.foldl (fstep F) out) = (setsB nm out || setsB nm l) := by
  induction l with
  | nil => intro out; simp [setsB]
  | cons s r ih =>
    intro out
    rw [List.foldl_cons, ih, setsB_fstep nm hF, setsB, Bool.or_assoc]
theorem setsB_fuse (nm : ByteArray) (k : Nat) : ∀ l, setsB nm (fuseF k l) = setsB nm l := by
  induction k with
  | zero => intro l; rfl
  | succ k ih => intro l; have := setsB_fold nm ih l []; simpa [fuseF, setsB] using this
end Go.Proofs.Ytnbinejghkhcjaa.Fu
