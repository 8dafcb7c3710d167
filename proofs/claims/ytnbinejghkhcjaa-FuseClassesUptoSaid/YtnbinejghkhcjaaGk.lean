/- Classes, as they lie. -/
import Derived.Test.YtnbinejghkhcjaaFs
namespace Go.Proofs.Ytnbinejghkhcjaa.Fu
open Go.RowKit
set_option linter.unusedVariables false
set_option linter.unusedSimpArgs false

/-- A class: its cells as they lie, and its step. -/
structure Cl where
  name : ByteArray
  i : Value
  o : Value
  v : Value
  m : Value
  f : Value
  ns : Value
  step : List Stm
def rawC (c : Cl) (u : Value) : List Value := [.string c.name, c.i, c.o, c.v, c.m, c.f, c.ns, u]
/-- Numbers in a row. -/
def Ints (w : World) (A : Nat → Prop) (v : Value) (l : List Int) : Prop := Row w A v l.length 1 (l.map (.int .i64))
structure ClOk (w : World) (A : Nat → Prop) (c : Cl) : Prop where
  hi : ∃ l, Strs w A c.i l
  ho : ∃ l, Strs w A c.o l
  hv : ∃ l, Strs w A c.v l
  hm : ∃ l, Strs w A c.m l
  hf : ∃ l, Strs w A c.f l
  hn : ∃ l, Ints w A c.ns l
theorem ClOk.stay {w w' : World} {A A' : Nat → Prop} {c : Cl} (h : ClOk w A c) (s : Stay w A w' A') : ClOk w' A' c :=
  ⟨h.hi.imp fun _ q => q.stay s, h.ho.imp fun _ q => q.stay s, h.hv.imp fun _ q => q.stay s, h.hm.imp fun _ q => q.stay s, h.hf.imp fun _ q => q.stay s, h.hn.imp fun _ q => Row.stay q s⟩
def EC (w : World) (A : Nat → Prop) : List Cl → List Value → Prop
  | [], cs => cs = []
  | c :: r, cs => ∃ u c2, cs = rawC c u ++ c2 ∧ ClOk w A c ∧ VB w A u c.step ∧ EC w A r c2
def VC (w : World) (A : Nat → Prop) (v : Value) (l : List Cl) : Prop := ∃ row, Row w A v l.length 8 row ∧ EC w A l row
theorem EC.stay {w w' : World} {A A' : Nat → Prop} (s : Stay w A w' A') : ∀ (l : List Cl) (cs : List Value), EC w A l cs → EC w' A' l cs
  | [], _, h => h
  | c :: r, cs, h => by
    obtain ⟨u, c2, e, h1, h2, h3⟩ := h
    exact ⟨u, c2, e, h1.stay s, h2.stay s, EC.stay s r c2 h3⟩
theorem VC.stay {w w' : World} {A A' : Nat → Prop} {v : Value} {l : List Cl} (h : VC w A v l) (s : Stay w A w' A') : VC w' A' v l := by
  obtain ⟨row, h1, h2⟩ := h
  exact ⟨row, h1.stay s, EC.stay s _ _ h2⟩
section
variable {w : World} {A : Nat → Prop} {v : Value}
theorem EC.len : ∀ {l : List Cl} {cs : List Value}, EC w A l cs → cs.length = l.length * 8
  | [], cs, h => by have h : cs = [] := h; subst h; rfl
  | c :: r, cs, h => by
    obtain ⟨u, c2, rfl, _, _, h3⟩ := h
    rw [List.length_append, EC.len h3, List.length_cons]; simp [rawC]; omega
theorem EC_append : ∀ {l m : List Cl} {cs ds : List Value}, EC w A l cs → EC w A m ds → EC w A (l ++ m) (cs ++ ds)
  | [], m, cs, ds, h, k => by have h : cs = [] := h; subst h; exact k
  | c :: r, m, cs, ds, h, k => by
    obtain ⟨u, c2, rfl, h1, h2, h3⟩ := h
    exact ⟨u, c2 ++ ds, by simp, h1, h2, EC_append h3 k⟩
theorem EC_get : ∀ {l : List Cl} {cs : List Value} (i : Nat) (c : Cl), EC w A l cs → l[i]? = some c → ∃ u, (∀ j, j < 8 → cs[i * 8 + j]? = (rawC c u)[j]?) ∧ ClOk w A c ∧ VB w A u c.step
  | [], cs, i, c, h, hi => by simp at hi
  | x :: r, cs, 0, c, h, hi => by
    obtain ⟨u, c2, rfl, h1, h2, h3⟩ := h
    simp at hi; subst hi
    exact ⟨u, fun j hj => by rw [List.getElem?_append_left (by simp [rawC]; omega)]; congr 1; omega, h1, h2⟩
  | x :: r, cs, i + 1, c, h, hi => by
    obtain ⟨u, c2, rfl, h1, h2, h3⟩ := h
    obtain ⟨u', q1, q2, q3⟩ := EC_get i c h3 (by simpa using hi)
    refine ⟨u', fun j hj => ?_, q2, q3⟩
    rw [List.getElem?_append_right (by simp [rawC]; omega), ← q1 j hj]
    congr 1; simp [rawC]; omega
theorem VC.any {l : List Cl} (h : VC w A v l) : ∃ a cap, v = .slice a l.length cap ∧ l.length ≤ cap ∧ cap ≤ maxLen := by
  obtain ⟨row, h1, _⟩ := h; exact h1.any
theorem EC.one : ∀ {l : List Cl} {cs : List Value}, EC w A l cs → ∀ u ∈ cs, u.oneCell' = true
  | [], cs, h, u, hu => by have h : cs = [] := h; subst h; cases hu
  | c :: r, cs, h, u, hu => by
    obtain ⟨u', c2, rfl, h1, h2, h3⟩ := h
    rcases List.mem_append.mp hu with q | q
    · have hs : ∀ x : Value, (∃ l, Strs w A x l) → x.oneCell' = true := fun x ⟨l, hl⟩ => by obtain ⟨a, cap, rfl, _⟩ := Row.any hl; rfl
      obtain ⟨l, hl⟩ := h1.hn
      obtain ⟨a, cap, e, _⟩ := Row.any hl
      obtain ⟨a', cap', e', _⟩ := h2.any
      simp only [rawC, List.mem_cons, List.not_mem_nil, or_false] at q
      rcases q with rfl | rfl | rfl | rfl | rfl | rfl | rfl | rfl
      · rfl
      · exact hs _ h1.hi
      · exact hs _ h1.ho
      · exact hs _ h1.hv
      · exact hs _ h1.hm
      · exact hs _ h1.hf
      · rw [e]; rfl
      · rw [e']; rfl
    · exact EC.one h3 u q
/-- A class of a row, in memory. -/
theorem VC.get {l : List Cl} (h : VC w A v l) (i : Nat) (c : Cl) (hi : l[i]? = some c) : ∃ b off cap u, v = .slice (some ⟨b, off, none⟩) l.length cap ∧ l.length ≤ cap ∧ cap ≤ maxLen ∧ A b ∧ b < w.heap.size ∧ (∀ j, j < 8 → w.cell? ⟨b, off + i * 8 + j, none⟩ = (rawC c u)[j]?) ∧ ClOk w A c ∧ VB w A u c.step := by
  obtain ⟨row, h1, h2⟩ := h
  have hil : i < l.length := (List.getElem?_eq_some_iff.1 hi).1
  obtain ⟨b, off, cap, hv, q1, q2, q3, q4, q5⟩ := h1.form (by omega)
  obtain ⟨u, e1, e2, e3⟩ := EC_get i c h2 hi
  exact ⟨b, off, cap, u, hv, q1, q2, q3, q4, fun j hj => by rw [Nat.add_assoc]; exact (q5 (i * 8 + j) (by omega)).trans (e1 j hj), e2, e3⟩
end
end Go.Proofs.Ytnbinejghkhcjaa.Fu
