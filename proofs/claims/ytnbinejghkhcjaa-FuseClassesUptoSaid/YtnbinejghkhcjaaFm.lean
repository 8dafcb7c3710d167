/- The memory side of fuse: how statements lie in memory, and what leaves them as they lie. -/
import Derived.Test.YtnbinejghkhcjaaProg
import Derived.Test.YtnbinejghkhcjaaFq
import Derived.WalkKit
import Derived.ProofKit
import Derived.Below
import Derived.KernelRfl
import Derived.Lib.Hide
import Derived.Deep.Draws
import Derived.Laws.OwnMore
namespace Go.Proofs.Ytnbinejghkhcjaa.Fu
open Go.RowKit
set_option linter.unusedVariables false
set_option linter.unusedSimpArgs false

/-- v is a slice of n elements of k cells each, and these are its cells; it lies in a block of A. -/
def Row (w : World) (A : Nat → Prop) (v : Value) (n k : Nat) (cs : List Value) : Prop :=
  cs.length = n * k ∧ ∃ a cap, v = .slice a n cap ∧ n ≤ cap ∧ cap ≤ maxLen ∧ (0 < n → ∃ b off, a = some ⟨b, off, none⟩ ∧ A b ∧ b < w.heap.size ∧ ∀ j, j < cs.length → w.cell? ⟨b, off + j, none⟩ = cs[j]?) ∧ (a = none → cap = 0)

/-- What lies in A in the one world, lies so in A' in the other. -/
structure Stay (w : World) (A : Nat → Prop) (w' : World) (A' : Nat → Prop) : Prop where
  size : w.heap.size ≤ w'.heap.size
  keep : ∀ b, b < w.heap.size → A b → A' b ∧ w'.heap[b]? = w.heap[b]?
theorem Stay.refl (w : World) (A : Nat → Prop) : Stay w A w A := ⟨Nat.le_refl _, fun _ _ h => ⟨h, rfl⟩⟩
theorem Stay.trans {a b c : World} {A B C : Nat → Prop} (h : Stay a A b B) (k : Stay b B c C) : Stay a A c C :=
  ⟨Nat.le_trans h.size k.size, fun x hx ha => ⟨(k.keep x (Nat.lt_of_lt_of_le hx h.size) (h.keep x hx ha).1).1, (k.keep x (Nat.lt_of_lt_of_le hx h.size) (h.keep x hx ha).1).2.trans (h.keep x hx ha).2⟩⟩
theorem Stay.weaken (w : World) {A A' : Nat → Prop} (h : ∀ b, b < w.heap.size → A b → A' b) : Stay w A w A' := ⟨Nat.le_refl _, fun b hb ha => ⟨h b hb ha, rfl⟩⟩
theorem Stay.below {w w' : World} {A : Nat → Prop} (h : Below w.heap.size w w') : Stay w A w' A := ⟨h.size, fun b hb ha => ⟨ha, h.block b hb⟩⟩

theorem Row.stay {w w' : World} {A A' : Nat → Prop} {v : Value} {n k : Nat} {cs : List Value} (h : Row w A v n k cs) (s : Stay w A w' A') : Row w' A' v n k cs := by
  obtain ⟨h1, a, cap, hv, h2, h3, h4, h6⟩ := h
  refine ⟨h1, a, cap, hv, h2, h3, fun hn => ?_, h6⟩
  obtain ⟨b, off, e, hb, hlt, hc⟩ := h4 hn
  obtain ⟨q1, q2⟩ := s.keep b hlt hb
  exact ⟨b, off, e, q1, Nat.lt_of_lt_of_le hlt s.size, fun j hj => (World.cell?_of_block (a := ⟨b, off + j, none⟩) q2).trans (hc j hj)⟩
theorem Row.len {w : World} {A : Nat → Prop} {v : Value} {n k : Nat} {cs : List Value} (h : Row w A v n k cs) : cs.length = n * k := h.1
theorem Row.form {w : World} {A : Nat → Prop} {v : Value} {n k : Nat} {cs : List Value} (h : Row w A v n k cs) (hn : 0 < n) : ∃ b off cap, v = .slice (some ⟨b, off, none⟩) n cap ∧ n ≤ cap ∧ cap ≤ maxLen ∧ A b ∧ b < w.heap.size ∧ ∀ j, j < n * k → w.cell? ⟨b, off + j, none⟩ = cs[j]? := by
  obtain ⟨h1, a, cap, hv, h2, h3, h4, _⟩ := h
  obtain ⟨b, off, e, hb, hlt, hc⟩ := h4 hn
  subst e
  exact ⟨b, off, cap, hv, h2, h3, hb, hlt, by rw [← h1]; exact hc⟩
theorem Row.any {w : World} {A : Nat → Prop} {v : Value} {n k : Nat} {cs : List Value} (h : Row w A v n k cs) : ∃ a cap, v = .slice a n cap ∧ n ≤ cap ∧ cap ≤ maxLen := by
  obtain ⟨h1, a, cap, hv, h2, h3, h4, _⟩ := h
  exact ⟨a, cap, hv, h2, h3⟩
theorem Row.nil (w : World) (A : Nat → Prop) (k : Nat) : Row w A (.slice none 0 0) 0 k [] := ⟨by simp, none, 0, rfl, Nat.le_refl _, by decide, fun h => by omega, fun _ => rfl⟩
/-- An owned row is one. -/
theorem Row.own {w : World} {base e k : Nat} {v : Value} {n : Nat} {cs : List Value} {A : Nat → Prop} (h : w.ownsRow base e k v n cs) (hA : ∀ g, v.ownBlock = some g → A g) : Row w A v n k cs := by
  refine ⟨h.1, ?_⟩
  rcases h.2 with ⟨rfl, rfl⟩ | ⟨g, cap, cur, rfl, hb, hg, h1, h2, hs, ht⟩
  · exact ⟨none, 0, rfl, Nat.le_refl _, by decide, fun h => by omega, fun _ => rfl⟩
  · refine ⟨_, cap, rfl, h1, h2, fun hn => ⟨g, 0, rfl, hA g rfl, (Array.getElem?_eq_some_iff.1 hg).1, fun j hj => ?_⟩, fun e => by cases e⟩
    have := h.cellAt j (by rw [← h.1]; exact hj)
    simpa using this

/-- Names. -/
def Strs (w : World) (A : Nat → Prop) (v : Value) (l : List ByteArray) : Prop := Row w A v l.length 1 (l.map .string)
theorem Strs.stay {w w' : World} {A A' : Nat → Prop} {v : Value} {l : List ByteArray} (h : Strs w A v l) (s : Stay w A w' A') : Strs w' A' v l := Row.stay h s

/-- Expressions. -/
inductive Ex where
  | mk (op : Int) (name : ByteArray) (n : Int) (cons : List ByteArray) (kids : List Ex)
mutual
def szE : Ex → Nat
  | .mk _ _ _ _ kids => 1 + szL kids
def szL : List Ex → Nat
  | [] => 0
  | e :: r => szE e + szL r
end
mutual
def XE (w : World) (A : Nat → Prop) : Ex → List Value → Prop
  | .mk op name n cons kids, cs => ∃ vc vk, cs = [.int .i64 op, .string name, .int .i64 n, vc, vk] ∧ Strs w A vc cons ∧ ∃ row, Row w A vk kids.length 5 row ∧ XL w A kids row
def XL (w : World) (A : Nat → Prop) : List Ex → List Value → Prop
  | [], cs => cs = []
  | e :: r, cs => ∃ c1 c2, cs = c1 ++ c2 ∧ XE w A e c1 ∧ XL w A r c2
end
def VL (w : World) (A : Nat → Prop) (v : Value) (l : List Ex) : Prop := ∃ row, Row w A v l.length 5 row ∧ XL w A l row
mutual
theorem XE.stay {w w' : World} {A A' : Nat → Prop} (s : Stay w A w' A') : ∀ (e : Ex) (cs : List Value), XE w A e cs → XE w' A' e cs
  | .mk op name n cons kids, cs, h => by
    simp only [XE] at h ⊢
    obtain ⟨vc, vk, e, h1, row, h2, h3⟩ := h
    exact ⟨vc, vk, e, h1.stay s, row, h2.stay s, XL.stay s kids row h3⟩
theorem XL.stay {w w' : World} {A A' : Nat → Prop} (s : Stay w A w' A') : ∀ (l : List Ex) (cs : List Value), XL w A l cs → XL w' A' l cs
  | [], cs, h => by simpa only [XL] using h
  | e :: r, cs, h => by
    simp only [XL] at h ⊢
    obtain ⟨c1, c2, q, h1, h2⟩ := h
    exact ⟨c1, c2, q, XE.stay s e c1 h1, XL.stay s r c2 h2⟩
end
theorem VL.stay {w w' : World} {A A' : Nat → Prop} {v : Value} {l : List Ex} (h : VL w A v l) (s : Stay w A w' A') : VL w' A' v l := by
  obtain ⟨row, h1, h2⟩ := h
  exact ⟨row, h1.stay s, XL.stay s _ _ h2⟩

/-- A statement's cells. -/
def rawS (h : Hd) (v : Value) : List Value := [.int .i64 h.op, .string h.name, h.names, h.inst, h.e0, h.e1, h.e2, h.e3, h.e4, h.args, v]
/-- What a statement bears beside its arms can be read. -/
structure HdOk (w : World) (A : Nat → Prop) (h : Hd) : Prop where
  names : Strs w A h.names h.strs
  inst : ∃ n, h.inst = .int .i64 n
  expr : ∃ e, XE w A e [h.e0, h.e1, h.e2, h.e3, h.e4]
  args : ∃ es, VL w A h.args es
theorem HdOk.stay {w w' : World} {A A' : Nat → Prop} {h : Hd} (o : HdOk w A h) (s : Stay w A w' A') : HdOk w' A' h :=
  ⟨o.names.stay s, o.inst, o.expr.imp fun e he => XE.stay s e _ he, o.args.imp fun es he => he.stay s⟩

mutual
def ES (w : World) (A : Nat → Prop) : Stm → List Value → Prop
  | .mk h arms, cs => ∃ v, cs = rawS h v ∧ HdOk w A h ∧ ∃ row, Row w A v arms.length 2 row ∧ EA w A arms row
def EA (w : World) (A : Nat → Prop) : List Arm → List Value → Prop
  | [], cs => cs = []
  | a :: r, cs => ∃ c1 c2, cs = c1 ++ c2 ∧ ER w A a c1 ∧ EA w A r c2
def ER (w : World) (A : Nat → Prop) : Arm → List Value → Prop
  | .mk con body, cs => ∃ v, cs = [.string con, v] ∧ ∃ row, Row w A v body.length 11 row ∧ EB w A body row
def EB (w : World) (A : Nat → Prop) : List Stm → List Value → Prop
  | [], cs => cs = []
  | s :: r, cs => ∃ c1 c2, cs = c1 ++ c2 ∧ ES w A s c1 ∧ EB w A r c2
end
/-- v reads as these statements. -/
def VB (w : World) (A : Nat → Prop) (v : Value) (l : List Stm) : Prop := ∃ row, Row w A v l.length 11 row ∧ EB w A l row
/-- v reads as these arms. -/
def VA (w : World) (A : Nat → Prop) (v : Value) (l : List Arm) : Prop := ∃ row, Row w A v l.length 2 row ∧ EA w A l row
mutual
theorem ES.stay {w w' : World} {A A' : Nat → Prop} (s : Stay w A w' A') : ∀ (x : Stm) (cs : List Value), ES w A x cs → ES w' A' x cs
  | .mk h arms, cs, q => by
    simp only [ES] at q ⊢
    obtain ⟨v, e, h1, row, h2, h3⟩ := q
    exact ⟨v, e, h1.stay s, row, h2.stay s, EA.stay s arms row h3⟩
theorem EA.stay {w w' : World} {A A' : Nat → Prop} (s : Stay w A w' A') : ∀ (x : List Arm) (cs : List Value), EA w A x cs → EA w' A' x cs
  | [], cs, h => by simpa only [EA] using h
  | a :: r, cs, h => by
    simp only [EA] at h ⊢
    obtain ⟨c1, c2, q, h1, h2⟩ := h
    exact ⟨c1, c2, q, ER.stay s a c1 h1, EA.stay s r c2 h2⟩
theorem ER.stay {w w' : World} {A A' : Nat → Prop} (s : Stay w A w' A') : ∀ (x : Arm) (cs : List Value), ER w A x cs → ER w' A' x cs
  | .mk con body, cs, q => by
    simp only [ER] at q ⊢
    obtain ⟨v, e, row, h2, h3⟩ := q
    exact ⟨v, e, row, h2.stay s, EB.stay s body row h3⟩
theorem EB.stay {w w' : World} {A A' : Nat → Prop} (s : Stay w A w' A') : ∀ (x : List Stm) (cs : List Value), EB w A x cs → EB w' A' x cs
  | [], cs, h => by simpa only [EB] using h
  | a :: r, cs, h => by
    simp only [EB] at h ⊢
    obtain ⟨c1, c2, q, h1, h2⟩ := h
    exact ⟨c1, c2, q, ES.stay s a c1 h1, EB.stay s r c2 h2⟩
end
section
variable {w w' : World} {A A' : Nat → Prop} {v : Value}
theorem VB.stay {l : List Stm} (h : VB w A v l) (s : Stay w A w' A') : VB w' A' v l := by
  obtain ⟨row, h1, h2⟩ := h
  exact ⟨row, h1.stay s, EB.stay s _ _ h2⟩
theorem VA.stay {l : List Arm} (h : VA w A v l) (s : Stay w A w' A') : VA w' A' v l := by
  obtain ⟨row, h1, h2⟩ := h
  exact ⟨row, h1.stay s, EA.stay s _ _ h2⟩
theorem ES_iff (s : Stm) (cs : List Value) : ES w A s cs ↔ ∃ v, cs = rawS s.hd v ∧ HdOk w A s.hd ∧ VA w A v s.arms := by
  cases s; simp only [ES]; exact Iff.rfl
theorem ER_iff (a : Arm) (cs : List Value) : ER w A a cs ↔ ∃ v, cs = [.string a.con, v] ∧ VB w A v a.body := by
  cases a; simp only [ER]; exact Iff.rfl
theorem EB_append {l l' : List Stm} : ∀ {cs cs' : List Value}, EB w A l cs → EB w A l' cs' → EB w A (l ++ l') (cs ++ cs') := by
  induction l with
  | nil => intro cs cs' h h'; simp only [EB] at h; subst h; exact h'
  | cons s r ih =>
    intro cs cs' h h'
    simp only [EB] at h
    obtain ⟨c1, c2, rfl, h1, h2⟩ := h
    simp only [List.cons_append, EB]
    exact ⟨c1, c2 ++ cs', by simp, h1, ih h2 h'⟩
theorem EA_append {l l' : List Arm} : ∀ {cs cs' : List Value}, EA w A l cs → EA w A l' cs' → EA w A (l ++ l') (cs ++ cs') := by
  induction l with
  | nil => intro cs cs' h h'; simp only [EA] at h; subst h; exact h'
  | cons s r ih =>
    intro cs cs' h h'
    simp only [EA] at h
    obtain ⟨c1, c2, rfl, h1, h2⟩ := h
    simp only [List.cons_append, EA]
    exact ⟨c1, c2 ++ cs', by simp, h1, ih h2 h'⟩
theorem ES.len {s : Stm} {cs : List Value} (h : ES w A s cs) : cs.length = 11 := by
  obtain ⟨v, rfl, _⟩ := (ES_iff s cs).mp h; rfl
theorem ER.len {a : Arm} {cs : List Value} (h : ER w A a cs) : cs.length = 2 := by
  obtain ⟨v, rfl, _⟩ := (ER_iff a cs).mp h; rfl
theorem EB.len {l : List Stm} : ∀ {cs : List Value}, EB w A l cs → cs.length = l.length * 11 := by
  induction l with
  | nil => intro cs h; simp only [EB] at h; subst h; rfl
  | cons s r ih =>
    intro cs h
    simp only [EB] at h
    obtain ⟨c1, c2, rfl, h1, h2⟩ := h
    rw [List.length_append, h1.len, ih h2, List.length_cons]; omega
theorem EA.len {l : List Arm} : ∀ {cs : List Value}, EA w A l cs → cs.length = l.length * 2 := by
  induction l with
  | nil => intro cs h; simp only [EA] at h; subst h; rfl
  | cons s r ih =>
    intro cs h
    simp only [EA] at h
    obtain ⟨c1, c2, rfl, h1, h2⟩ := h
    rw [List.length_append, h1.len, ih h2, List.length_cons]; omega
/-- The i-th statement, cut out. -/
theorem EB_split {l : List Stm} : ∀ {cs : List Value} (i : Nat) (s : Stm), EB w A l cs → l[i]? = some s → ∃ c0 c1 c2, cs = c0 ++ c1 ++ c2 ∧ c0.length = i * 11 ∧ EB w A (l.take i) c0 ∧ ES w A s c1 ∧ EB w A (l.drop (i + 1)) c2 := by
  induction l with
  | nil => intro cs i s h hi; simp at hi
  | cons x r ih =>
    intro cs i s h hi
    simp only [EB] at h
    obtain ⟨c1, c2, rfl, h1, h2⟩ := h
    cases i with
    | zero =>
      simp at hi; subst hi
      exact ⟨[], c1, c2, by simp, rfl, by simp [EB], h1, by simpa using h2⟩
    | succ i =>
      obtain ⟨d0, d1, d2, rfl, e1, e2, e3, e4⟩ := ih i s h2 (by simpa using hi)
      refine ⟨c1 ++ d0, d1, d2, by simp, by rw [List.length_append, h1.len, e1]; omega, ?_, e3, by simpa using e4⟩
      simp only [List.take_succ_cons, EB]
      exact ⟨c1, d0, rfl, h1, e2⟩
theorem EA_split {l : List Arm} : ∀ {cs : List Value} (i : Nat) (s : Arm), EA w A l cs → l[i]? = some s → ∃ c0 c1 c2, cs = c0 ++ c1 ++ c2 ∧ c0.length = i * 2 ∧ EA w A (l.take i) c0 ∧ ER w A s c1 ∧ EA w A (l.drop (i + 1)) c2 := by
  induction l with
  | nil => intro cs i s h hi; simp at hi
  | cons x r ih =>
    intro cs i s h hi
    simp only [EA] at h
    obtain ⟨c1, c2, rfl, h1, h2⟩ := h
    cases i with
    | zero =>
      simp at hi; subst hi
      exact ⟨[], c1, c2, by simp, rfl, by simp [EA], h1, by simpa using h2⟩
    | succ i =>
      obtain ⟨d0, d1, d2, rfl, e1, e2, e3, e4⟩ := ih i s h2 (by simpa using hi)
      refine ⟨c1 ++ d0, d1, d2, by simp, by rw [List.length_append, h1.len, e1]; omega, ?_, e3, by simpa using e4⟩
      simp only [List.take_succ_cons, EA]
      exact ⟨c1, d0, rfl, h1, e2⟩
/-- The i-th statement's cells in a list of cells. -/
theorem EB_get {l : List Stm} {cs : List Value} (i : Nat) (s : Stm) (h : EB w A l cs) (hi : l[i]? = some s) : ∃ u, (∀ j, j < 11 → cs[i * 11 + j]? = (rawS s.hd u)[j]?) ∧ HdOk w A s.hd ∧ VA w A u s.arms := by
  obtain ⟨c0, c1, c2, rfl, e0, _, e2, _⟩ := EB_split i s h hi
  obtain ⟨u, rfl, h1, h2⟩ := (ES_iff s c1).mp e2
  refine ⟨u, fun j hj => ?_, h1, h2⟩
  rw [List.append_assoc, List.getElem?_append_right (by omega), e0, List.getElem?_append_left (by simp [rawS]; omega)]
  congr 1; omega
theorem EA_get {l : List Arm} {cs : List Value} (i : Nat) (a : Arm) (h : EA w A l cs) (hi : l[i]? = some a) : ∃ u, cs[i * 2]? = some (.string a.con) ∧ cs[i * 2 + 1]? = some u ∧ VB w A u a.body := by
  obtain ⟨c0, c1, c2, rfl, e0, _, e2, _⟩ := EA_split i a h hi
  obtain ⟨u, rfl, h1⟩ := (ER_iff a c1).mp e2
  refine ⟨u, ?_, ?_, h1⟩
  · rw [List.append_assoc, List.getElem?_append_right (by omega), e0]; simp
  · rw [List.append_assoc, List.getElem?_append_right (by omega), e0]; simp
theorem VB.nil (w : World) (A : Nat → Prop) : VB w A (.slice none 0 0) [] := ⟨[], Row.nil w A 11, by simp [EB]⟩
theorem VA.nil (w : World) (A : Nat → Prop) : VA w A (.slice none 0 0) [] := ⟨[], Row.nil w A 2, by simp [EA]⟩
theorem VB.any {l : List Stm} (h : VB w A v l) : ∃ a cap, v = .slice a l.length cap ∧ l.length ≤ cap ∧ cap ≤ maxLen := by
  obtain ⟨row, h1, _⟩ := h; exact h1.any
theorem VA.any {l : List Arm} (h : VA w A v l) : ∃ a cap, v = .slice a l.length cap ∧ l.length ≤ cap ∧ cap ≤ maxLen := by
  obtain ⟨row, h1, _⟩ := h; exact h1.any
/-- A statement's cells in memory. -/
structure At11 (w : World) (b o : Nat) (h : Hd) (u : Value) : Prop where
  c0 : w.cell? ⟨b, o, none⟩ = some (.int .i64 h.op)
  c1 : w.cell? ⟨b, o + 1, none⟩ = some (.string h.name)
  c2 : w.cell? ⟨b, o + 2, none⟩ = some h.names
  c3 : w.cell? ⟨b, o + 3, none⟩ = some h.inst
  c4 : w.cell? ⟨b, o + 4, none⟩ = some h.e0
  c5 : w.cell? ⟨b, o + 5, none⟩ = some h.e1
  c6 : w.cell? ⟨b, o + 6, none⟩ = some h.e2
  c7 : w.cell? ⟨b, o + 7, none⟩ = some h.e3
  c8 : w.cell? ⟨b, o + 8, none⟩ = some h.e4
  c9 : w.cell? ⟨b, o + 9, none⟩ = some h.args
  c10 : w.cell? ⟨b, o + 10, none⟩ = some u
theorem At11.of {w : World} {b o : Nat} {h : Hd} {u : Value} (q : ∀ j, j < 11 → w.cell? ⟨b, o + j, none⟩ = (rawS h u)[j]?) : At11 w b o h u :=
  ⟨q 0 (by decide), q 1 (by decide), q 2 (by decide), q 3 (by decide), q 4 (by decide), q 5 (by decide), q 6 (by decide), q 7 (by decide), q 8 (by decide), q 9 (by decide), q 10 (by decide)⟩
/-- A statement of a row, in memory. -/
theorem VB.get {l : List Stm} (h : VB w A v l) (i : Nat) (s : Stm) (hi : l[i]? = some s) : ∃ b off cap u, v = .slice (some ⟨b, off, none⟩) l.length cap ∧ l.length ≤ cap ∧ cap ≤ maxLen ∧ A b ∧ b < w.heap.size ∧ At11 w b (off + i * 11) s.hd u ∧ HdOk w A s.hd ∧ VA w A u s.arms := by
  obtain ⟨row, h1, h2⟩ := h
  have hil : i < l.length := (List.getElem?_eq_some_iff.1 hi).1
  obtain ⟨b, off, cap, hv, q1, q2, q3, q4, q5⟩ := h1.form (by omega)
  obtain ⟨u, e1, e2, e3⟩ := EB_get i s h2 hi
  exact ⟨b, off, cap, u, hv, q1, q2, q3, q4, At11.of fun j hj => by rw [Nat.add_assoc]; exact (q5 (i * 11 + j) (by omega)).trans (e1 j hj), e2, e3⟩
theorem VA.get {l : List Arm} (h : VA w A v l) (i : Nat) (a : Arm) (hi : l[i]? = some a) : ∃ b off cap u, v = .slice (some ⟨b, off, none⟩) l.length cap ∧ l.length ≤ cap ∧ cap ≤ maxLen ∧ A b ∧ b < w.heap.size ∧ w.cell? ⟨b, off + i * 2, none⟩ = some (.string a.con) ∧ w.cell? ⟨b, off + i * 2 + 1, none⟩ = some u ∧ VB w A u a.body := by
  obtain ⟨row, h1, h2⟩ := h
  have hil : i < l.length := (List.getElem?_eq_some_iff.1 hi).1
  obtain ⟨b, off, cap, hv, q1, q2, q3, q4, q5⟩ := h1.form (by omega)
  obtain ⟨u, e1, e2, e3⟩ := EA_get i a h2 hi
  exact ⟨b, off, cap, u, hv, q1, q2, q3, q4, (q5 (i * 2) (by omega)).trans e1, by rw [Nat.add_assoc]; exact (q5 (i * 2 + 1) (by omega)).trans e2, e3⟩
/-- The statements as they lie in an owned row. -/
theorem VB.own {base e : Nat} {n : Nat} {cs : List Value} {l : List Stm} (h : w.ownsRow base e 11 v n cs) (hn : n = l.length) (hA : ∀ g, v.ownBlock = some g → A g) (hl : EB w A l cs) : VB w A v l := by
  subst hn; exact ⟨cs, Row.own h hA, hl⟩
theorem VA.own {base e : Nat} {n : Nat} {cs : List Value} {l : List Arm} (h : w.ownsRow base e 2 v n cs) (hn : n = l.length) (hA : ∀ g, v.ownBlock = some g → A g) (hl : EA w A l cs) : VA w A v l := by
  subst hn; exact ⟨cs, Row.own h hA, hl⟩
end
end Go.Proofs.Ytnbinejghkhcjaa.Fu
