/- How classes that came in read. -/
import Derived.Test.YtnbinejghkhcjaaGk
import Derived.Test.YtnbinejghkhcjaaFw
namespace Go.Proofs.Ytnbinejghkhcjaa.Fu
open Go.RowKit Go.ChangeShapes Go.WideShapes Go.Deep
set_option linter.unusedVariables false
set_option linter.unusedSimpArgs false
section
variable {H : Type} {enc : TypeId × Value → H} {w : World} {base : Nat} {spare : Nat → Bool} {held : Bool}
theorem cells41 : Try.prog.cellsOf 41 = 1 := by kernel_rfl
theorem cells43 : Try.prog.cellsOf 43 = 8 := by kernel_rfl
theorem ints_in {fuel : Nat} {v : Value} {x : DataW H × List MemPlace} (h : DataW.trod enc Try.prog w base spare held fuel 41 [v] = some x) : ∃ l, Ints w AnyB v l := by
  obtain ⟨len, n, f, D, hr, hb, hi⟩ := open_row Try.underlying41 cells3 (by decide) h
  obtain ⟨l, h1, h2, _⟩ := flat_rows (α := Int) (R := fun s c => c = [.int .i64 s]) (RL := fun l c => c = l.map (.int .i64)) rfl (fun l x c1 c2 e1 e2 => by rw [e1, e2]; simp) (fun _ => 0) f (fun _ => 0) len (fun i hil => by
    obtain ⟨s, hs, _⟩ := DataW.trod_int Try.underlying3 (hi i hil).2
    exact ⟨s, hs, Nat.le_refl _⟩)
  subst h1
  rw [h2] at hr
  exact ⟨l, hr⟩
theorem class_in {fuel : Nat} {cs : List Value} {x : DataW H × List MemPlace} (h : DataW.trod enc Try.prog w base spare held fuel 43 cs = some x) : ∃ c, EC w AnyB [c] cs ∧ szB 1 c.step + 1 ≤ Rows.uptoBulk x.1 := by
  obtain ⟨xs, m, _, rfl, hlen, hxl, hf⟩ := DataW.trod_struct Try.underlying43 h
  rw [cells43] at hlen
  match xs, hxl with
  | [x0, x1, x2, x3, x4, x5, x6, x7], _ =>
    match cs, hlen with
    | [c0, c1, c2, c3, c4, c5, c6, c7], _ =>
      have t0 : DataW.trod enc Try.prog w base spare held m 9 [c0] = some x0 := by
        have q : DataW.trod enc Try.prog w base spare held m 9 (List.take (Try.prog.cellsOf 9) (List.drop 0 [c0, c1, c2, c3, c4, c5, c6, c7])) = some x0 := hf 0 _ rfl
        rw [cells9] at q
        exact q
      have t1 : DataW.trod enc Try.prog w base spare held m 32 [c1] = some x1 := by
        have q : DataW.trod enc Try.prog w base spare held m 32 (List.take (Try.prog.cellsOf 32) (List.drop 1 [c0, c1, c2, c3, c4, c5, c6, c7])) = some x1 := hf 1 _ rfl
        rw [cells32] at q
        exact q
      have t2 : DataW.trod enc Try.prog w base spare held m 32 [c2] = some x2 := by
        have q : DataW.trod enc Try.prog w base spare held m 32 (List.take (Try.prog.cellsOf 32) (List.drop 2 [c0, c1, c2, c3, c4, c5, c6, c7])) = some x2 := hf 2 _ rfl
        rw [cells32] at q
        exact q
      have t3 : DataW.trod enc Try.prog w base spare held m 32 [c3] = some x3 := by
        have q : DataW.trod enc Try.prog w base spare held m 32 (List.take (Try.prog.cellsOf 32) (List.drop 3 [c0, c1, c2, c3, c4, c5, c6, c7])) = some x3 := hf 3 _ rfl
        rw [cells32] at q
        exact q
      have t4 : DataW.trod enc Try.prog w base spare held m 32 [c4] = some x4 := by
        have q : DataW.trod enc Try.prog w base spare held m 32 (List.take (Try.prog.cellsOf 32) (List.drop 4 [c0, c1, c2, c3, c4, c5, c6, c7])) = some x4 := hf 4 _ rfl
        rw [cells32] at q
        exact q
      have t5 : DataW.trod enc Try.prog w base spare held m 32 [c5] = some x5 := by
        have q : DataW.trod enc Try.prog w base spare held m 32 (List.take (Try.prog.cellsOf 32) (List.drop 5 [c0, c1, c2, c3, c4, c5, c6, c7])) = some x5 := hf 5 _ rfl
        rw [cells32] at q
        exact q
      have t6 : DataW.trod enc Try.prog w base spare held m 41 [c6] = some x6 := by
        have q : DataW.trod enc Try.prog w base spare held m 41 (List.take (Try.prog.cellsOf 41) (List.drop 6 [c0, c1, c2, c3, c4, c5, c6, c7])) = some x6 := hf 6 _ rfl
        rw [cells41] at q
        exact q
      have t7 : DataW.trod enc Try.prog w base spare held m 22 [c7] = some x7 := by
        have q : DataW.trod enc Try.prog w base spare held m 22 (List.take (Try.prog.cellsOf 22) (List.drop 7 [c0, c1, c2, c3, c4, c5, c6, c7])) = some x7 := hf 7 _ rfl
        rw [cells22] at q
        exact q
      obtain ⟨s0, e0, _⟩ := DataW.trod_string Try.underlying9 t0
      simp at e0
      subst e0
      obtain ⟨l7, h7, h8⟩ := stms_in _ m c7 x7 t7 (Nat.le_refl _)
      refine ⟨⟨s0, c1, c2, c3, c4, c5, c6, l7⟩, ⟨c7, [], rfl, ⟨strs_in t1, strs_in t2, strs_in t3, strs_in t4, strs_in t5, ints_in t6⟩, h7, rfl⟩, ?_⟩
      simp only [List.map_cons, List.map_nil, Rows.uptoBulk, Rows.uptoBulkAll]
      omega
theorem open_classes {v : Value} {d : DataW H} {p : List MemPlace} (h : DataW.Trod enc Try.prog w base spare held 39 v d p) (hv : v.cells.toList = [v]) : ∃ l, VC w AnyB v l ∧ (∀ c ∈ l, szB 1 c.step ≤ Rows.uptoBulk d) ∧ l.length ≤ Rows.uptoBulk d := by
  obtain ⟨fuel, hf⟩ := h
  rw [hv] at hf
  obtain ⟨len, n, f, D, hr, hb, hi⟩ := open_row Try.underlying39 cells43 (by decide) hf
  obtain ⟨l, h1, h2, h3⟩ := flat_rows (α := Cl) (R := fun c cs => EC w AnyB [c] cs) (RL := EC w AnyB) rfl (fun l x c1 c2 e1 e2 => EC_append e1 e2) (fun c => szB 1 c.step + 1) f (fun i => Rows.uptoBulk (D i).1) len (fun i hil => class_in (hi i hil).2)
  subst h1
  have hs : ∀ l : List Cl, l.length ≤ (l.map fun c => szB 1 c.step + 1).sum ∧ ∀ c ∈ l, szB 1 c.step ≤ (l.map fun c => szB 1 c.step + 1).sum := by
    intro l
    induction l with
    | nil => simp
    | cons c r ih =>
      simp only [List.map_cons, List.sum_cons, List.length_cons]
      refine ⟨by omega, fun x hx => ?_⟩
      rcases List.mem_cons.mp hx with e | e
      · subst e; omega
      · have := ih.2 x e; omega
  obtain ⟨q1, q2⟩ := hs l
  have hb' : ((List.range l.length).map fun i => Rows.uptoBulk (D i).1).sum + 1 ≤ Rows.uptoBulk d := hb
  exact ⟨l, ⟨_, hr, h2⟩, fun c hc => by have := q2 c hc; omega, by omega⟩
end
end Go.Proofs.Ytnbinejghkhcjaa.Fu
