/- One statement cut out of a row. -/
import Derived.Test.YtnbinejghkhcjaaFm
namespace Go.Proofs.Ytnbinejghkhcjaa.Fu
open Go.RowKit
set_option linter.unusedVariables false
set_option linter.unusedSimpArgs false
theorem VB.sub {w : World} {A : Nat → Prop} {l : List Stm} {b off n cap m : Nat} {x : Stm} (h : VB w A (.slice (some ⟨b, off, none⟩) n cap) l) (hx : l[m]? = some x) : VB w A (.slice (some ⟨b, off + m * 11, none⟩) 1 (cap - m)) [x] := by
  obtain ⟨row, h1, h2⟩ := h
  have hml : m < l.length := (List.getElem?_eq_some_iff.1 hx).1
  obtain ⟨hl, a', cap', hv, q1, q2, q3, q4⟩ := h1
  simp only [Value.slice.injEq] at hv
  obtain ⟨rfl, hn, rfl⟩ := hv
  obtain ⟨b', off', e, hA, hb, hc⟩ := q3 (by omega)
  cases e
  obtain ⟨c0, c1, c2, rfl, e0, _, e1, _⟩ := EB_split m x h2 hx
  have hl1 := e1.len
  refine ⟨c1, ⟨by simpa using hl1, _, _, rfl, show 1 ≤ cap - m by omega, Nat.le_trans (Nat.sub_le _ _) q2, fun _ => ⟨b, off + m * 11, rfl, hA, hb, fun j hj => ?_⟩, fun e => by cases e⟩, ?_⟩
  · have := hc (m * 11 + j) (by simp only [List.length_append]; omega)
    rw [Nat.add_assoc, this, List.append_assoc, List.getElem?_append_right (by omega), e0, List.getElem?_append_left (by omega)]
    congr 1; omega
  · simp only [EB]
    exact ⟨c1, [], by simp, e1, rfl⟩
end Go.Proofs.Ytnbinejghkhcjaa.Fu
