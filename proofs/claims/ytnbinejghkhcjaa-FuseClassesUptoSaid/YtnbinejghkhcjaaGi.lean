/- What the reference's both keeps true. -/
import Derived.Test.YtnbinejghkhcjaaGf
import Derived.Test.YtnbinejghkhcjaaFs
namespace Go.Proofs.Ytnbinejghkhcjaa.Fu
open Go.RowKit
set_option linter.unusedVariables false
set_option linter.unusedSimpArgs false
set_option maxHeartbeats 4000000

/-- Two rows of its own, the constructors seen and the arms made, and the box that bears the arms. -/
def BX (w3 wr : World) (A : Nat → Prop) (p : Nat) (nm : ByteArray) (vd va : Value) (ds : List ByteArray) (out : List Arm) : Prop := ∃ row, Below p w3 wr ∧ p < wr.heap.size ∧ wr.heap[p]? = some (.cells (rawS (caseHd nm) va).toArray 38 (0, 0)) ∧
  wr.ownsRow (p + 1) 9 1 vd ds.length (ds.map .string) ∧ wr.ownsRow (p + 1) 49 2 va out.length row ∧ (∀ g, vd.ownBlock = some g → va.ownBlock ≠ some g) ∧
  EA wr (fun b => (A b ∨ p < b) ∧ vd.ownBlock ≠ some b ∧ va.ownBlock ≠ some b) out row
section
variable {w3 wr : World} {A : Nat → Prop} {p : Nat} {nm : ByteArray} {vd va : Value} {ds : List ByteArray} {out : List Arm}
theorem BX.below {wr' : World} (h : BX w3 wr A p nm vd va ds out) (hb : Below wr.heap.size wr wr') : BX w3 wr' A p nm vd va ds out := by
  obtain ⟨row, h1, h2, h3, h4, h5, h6, h7⟩ := h
  exact ⟨row, h1.trans (hb.mono (Nat.le_of_lt h2)), Nat.lt_of_lt_of_le h2 hb.size, (hb.block p h2).trans h3, own_keep h4 (fun g hg => hb.block g (h4.lt g hg).2), own_keep h5 (fun g hg => hb.block g (h5.lt g hg).2), h6, EA.stay (Stay.below hb) _ _ h7⟩
/-- A constructor more. -/
theorem BX.mark {w4 : World} {vd4 : Value} {con : ByteArray} {o : Obj} (h : BX w3 wr A p nm vd va ds out) (hA : ∀ b, A b → b < p) (hown : w4.ownsRow (p + 1) 9 1 vd4 (ds.length + 1) (ds.map .string ++ [.string con])) (hgrow : (wr.alloc o).grownBy w4 vd.ownBlock)
    (hat : vd4.ownBlock = vd.ownBlock ∨ ∀ g, vd4.ownBlock = some g → wr.heap.size < g) : BX w3 w4 A p nm vd4 va (ds ++ [con]) out := by
  obtain ⟨row, h1, h2, h3, h4, h5, h6, h7⟩ := h
  have hsz : wr.heap.size ≤ w4.heap.size := by have := hgrow.size; simp at this; omega
  have hk : ∀ b, b < wr.heap.size → vd.ownBlock ≠ some b → w4.heap[b]? = wr.heap[b]? := fun b hbl q => by
    rw [hgrow.block b (by simp; omega) (fun e => q e.symm), Below.heap_alloc wr o b hbl]
  have hne : ∀ b, b < wr.heap.size → vd.ownBlock ≠ some b → vd4.ownBlock ≠ some b := fun b hbl q e => by
    rcases hat with r | r
    · exact q (by rw [← r]; exact e)
    · have := r b e; omega
  have hdp : ∀ g, vd.ownBlock = some g → p + 1 ≤ g ∧ g < wr.heap.size := fun g hg => h4.lt g hg
  refine ⟨row, (h1.alloc (Nat.le_of_lt h2) o).grown hgrow (by simp; omega) (fun g hg => by have := (hdp g hg).1; omega), by omega, ?_, ?_, ?_, ?_, ?_⟩
  · rw [hk p h2 (fun e => by have := (hdp p e).1; omega)]; exact h3
  · rw [List.length_append, List.map_append]; exact hown
  · exact own_keep h5 (fun g hg => hk g (h5.lt g hg).2 (fun e => h6 g e hg))
  · intro g hg e
    by_cases q : vd.ownBlock = some g
    · exact h6 g q e
    · have := hne g (h5.lt g e).2 q; exact this hg
  · refine EA.stay ⟨hsz, fun b hbl hA' => ⟨⟨hA'.1, hne b hbl hA'.2.1, hA'.2.2⟩, hk b hbl hA'.2.1⟩⟩ _ _ h7
/-- An arm more, and the box told so. -/
theorem BX.arm {w5 : World} {va5 v : Value} {con : ByteArray} {body : List Stm} {o : Obj} {q : Nat} {row : List Value} (h1 : Below p w3 wr) (h2 : p < wr.heap.size) (h3 : wr.heap[p]? = some (.cells (rawS (caseHd nm) va).toArray 38 (0, 0))) (h4 : wr.ownsRow (p + 1) 9 1 vd ds.length (ds.map .string)) (h5 : wr.ownsRow (p + 1) 49 2 va out.length row) (h6 : ∀ g, vd.ownBlock = some g → va.ownBlock ≠ some g)
    (h7 : EA wr (fun b => (A b ∨ p < b) ∧ vd.ownBlock ≠ some b ∧ va.ownBlock ≠ some b) out row) (hA : ∀ b, A b → b < p) (hq : p < q) (hd : ∀ g, vd.ownBlock = some g → g < q) (ha : ∀ g, va.ownBlock = some g → g < q)
    (hv : VB wr (fun b => A b ∨ q ≤ b) v body) (hown5 : w5.ownsRow (p + 1) 49 2 va5 (out.length + 1) (row ++ [.string con, v])) (hgrow : (wr.alloc o).grownBy w5 va.ownBlock)
    (hat : va5.ownBlock = va.ownBlock ∨ ∀ g, va5.ownBlock = some g → wr.heap.size < g) : BX w3 (w5.setCell ⟨p, 10, none⟩ va5) A p nm vd va5 ds (out ++ [.mk con body]) := by
  have hsz : wr.heap.size ≤ w5.heap.size := by have := hgrow.size; simp at this; omega
  have hap : ∀ g, va.ownBlock = some g → p + 1 ≤ g ∧ g < wr.heap.size := fun g hg => h5.lt g hg
  have hdp : ∀ g, vd.ownBlock = some g → p + 1 ≤ g ∧ g < wr.heap.size := fun g hg => h4.lt g hg
  have hk5 : ∀ b, b < wr.heap.size → va.ownBlock ≠ some b → w5.heap[b]? = wr.heap[b]? := fun b hbl q => by
    rw [hgrow.block b (by simp; omega) (fun e => q e.symm), Below.heap_alloc wr o b hbl]
  have hset : ∀ b, b ≠ p → (w5.setCell ⟨p, 10, none⟩ va5).heap[b]? = w5.heap[b]? := fun b hb => Below.heap_setCell w5 ⟨p, 10, none⟩ va5 b hb
  have hne : ∀ b, b < wr.heap.size → va.ownBlock ≠ some b → va5.ownBlock ≠ some b := fun b hbl q e => by
    rcases hat with r | r
    · exact q (by rw [← r]; exact e)
    · have := r b e; omega
  have hp5 : w5.heap[p]? = some (.cells (rawS (caseHd nm) va).toArray 38 (0, 0)) := by
    rw [hk5 p h2 (fun e => by have := (hap p e).1; omega)]; exact h3
  have hst : ∀ S : Nat → Prop, (∀ b, b < wr.heap.size → S b → b ≠ p ∧ va.ownBlock ≠ some b ∧ (A b ∨ p < b) ∧ vd.ownBlock ≠ some b) → Stay wr S (w5.setCell ⟨p, 10, none⟩ va5) (fun b => (A b ∨ p < b) ∧ vd.ownBlock ≠ some b ∧ va5.ownBlock ≠ some b) := fun S hS =>
    ⟨by simp [World.setCell]; exact hsz, fun b hbl hb => by
      obtain ⟨e1, e2, e3, e4⟩ := hS b hbl hb
      exact ⟨⟨e3, e4, hne b hbl e2⟩, (hset b e1).trans (hk5 b hbl e2)⟩⟩
  refine ⟨row ++ [.string con, v], ?_, by simp [World.setCell]; omega, ?_, ?_, ?_, ?_, EA_append (EA.stay (hst _ ?_) _ _ h7) ?_⟩
  · exact (((h1.alloc (Nat.le_of_lt h2) o).grown hgrow (by simp; omega) (fun g hg => by have := (hap g hg).1; omega))).setCell (Nat.le_refl p) _
  · have := heap_setCell_same w5 p 10 _ 38 va5 hp5
    exact this
  · exact own_keep h4 (fun g hg => by
      rw [hset g (fun e => by have := (hdp g hg).1; omega), hk5 g (hdp g hg).2 (h6 g hg)])
  · rw [List.length_append]
    exact own_keep hown5 (fun g hg => hset g (fun e => by have := (hown5.lt g hg).1; omega))
  · intro g hg
    exact hne g (hdp g hg).2 (h6 g hg)
  · intro b hbl hb
    refine ⟨fun e => ?_, hb.2.2, hb.1, hb.2.1⟩
    rcases hb.1 with r | r
    · have := hA b r; omega
    · omega
  · simp only [EA]
    refine ⟨[.string con, v], [], by simp, (ER_iff _ _).mpr ⟨v, rfl, VB.stay hv (hst _ ?_)⟩, rfl⟩
    intro b hbl hb
    refine ⟨fun e => ?_, fun e => ?_, ?_, fun e => ?_⟩
    · rcases hb with r | r
      · have := hA b r; omega
      · omega
    · rcases hb with r | r
      · have := hA b r; have := (hap b e).1; omega
      · have := ha b e; omega
    · rcases hb with r | r
      · exact Or.inl r
      · exact Or.inr (by omega)
    · rcases hb with r | r
      · have := hA b r; have := (hdp b e).1; omega
      · have := hd b e; omega
end
end Go.Proofs.Ytnbinejghkhcjaa.Fu
