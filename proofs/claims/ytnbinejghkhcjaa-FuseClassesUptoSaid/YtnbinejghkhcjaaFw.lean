/- How statements that came in read. -/
import Derived.Test.YtnbinejghkhcjaaFm
import Derived.Test.YtnbinejghkhcjaaRows
import Derived.OpenShut
import Derived.Deep.Slices
namespace Go.Proofs.Ytnbinejghkhcjaa.Fu
open Go.RowKit Go.ChangeShapes Go.WideShapes Go.Deep
set_option linter.unusedVariables false
set_option linter.unusedSimpArgs false
section
variable {H : Type} {enc : TypeId × Value → H} {w : World} {base : Nat} {spare : Nat → Bool} {held : Bool}
def AnyB : Nat → Prop := fun _ => True
theorem add_zero' (b off n : Nat) : (⟨b, off, none⟩ : Addr).add n = ⟨b, off + n, none⟩ := by
  unfold Addr.add
  split
  · rename_i h; simp [h]
  · rfl
theorem no_spot {w : World} {a : Addr} {v : Value} (h : w.cell? a = some v) : a.spot = none := by
  unfold World.cell? at h
  split at h
  · by_cases hs : a.spot.isSome = true
    · rw [if_pos hs] at h; cases h
    · simpa using hs
  · cases h
theorem bulkAll_sum (l : List (DataW H)) : Rows.uptoBulkAll l = (l.map Rows.uptoBulk).sum := by
  induction l with
  | nil => simp [Rows.uptoBulkAll]
  | cons d r ih => simp [Rows.uptoBulkAll, ih]
/-- A slice that came in, of elements of k cells: its row, element by element. -/
theorem open_row {P : Program} {t e : TypeId} {k fuel : Nat} {v : Value} {x : DataW H × List MemPlace} (ht : P.underlying t = some (.slice e)) (hk : P.cellsOf e = k) (hk0 : 0 < k) (h : DataW.trod enc P w base spare held fuel t [v] = some x) :
    ∃ (len n : Nat) (f : Nat → List Value) (D : Nat → DataW H × List MemPlace), Row w AnyB v len k ((List.range len).flatMap f) ∧ ((List.range len).map fun i => Rows.uptoBulk (D i).1).sum + 1 ≤ Rows.uptoBulk x.1 ∧
      ∀ i, i < len → (f i).length = k ∧ DataW.trod enc P w base spare held n e (f i) = some (D i) := by
  rcases open_slice ht h with ⟨h0, rfl⟩ | ⟨a, len, cap, m, n, D, Pl, hcs, hb, hl, hm, hmm, hx, hi⟩
  · simp only [List.cons.injEq, and_true] at h0
    subst h0
    exact ⟨0, 0, fun _ => [], fun _ => (.nil, []), Row.nil w AnyB k, by simp [Rows.uptoBulk], fun i hi => absurd hi (Nat.not_lt_zero _)⟩
  · simp only [List.cons.injEq, and_true] at hcs
    subst hcs; subst hx
    rw [hk] at hi
    have hlm : len ≤ m := by rw [hmm]; split <;> omega
    have hch : ∃ f : Nat → List Value, ∀ i, i < m → w.cells? base (a.add (i * k)) k = some (f i) ∧ DataW.trod enc P w base spare held n e (f i) = some (D i, Pl i) := by
      refine ⟨fun i => if q : i < m then (hi i q).choose else [], fun i q => ?_⟩
      simp only [q, dif_pos]
      exact (hi i q).choose_spec
    obtain ⟨f, hf⟩ := hch
    refine ⟨len, n, f, fun i => (D i, Pl i), ⟨?_, some a, cap, rfl, hl, hm, fun hn => ?_, fun q => by cases q⟩, ?_, fun i hil => ⟨?_, (hf i (by omega)).2⟩⟩
    · have : ∀ q, q ≤ len → ((List.range q).flatMap f).length = q * k := by
        intro q
        induction q with
        | zero => intro _; simp
        | succ q ih =>
          intro hq
          have h1 := (World.cells?_some (hf q (by omega)).1).2.1
          rw [List.range_succ, List.flatMap_append, List.length_append, ih (by omega)]
          simp [h1, Nat.succ_mul]
      exact this len (Nat.le_refl _)
    · have hsp : a.spot = none := by
        obtain ⟨_, hl0, hc0⟩ := World.cells?_some (hf 0 (by omega)).1
        have h1 := hc0 0 hk0
        have e0 : (a.add (0 * k)).add 0 = a := by simp [Addr.add]
        rw [e0, List.getElem?_eq_getElem (by omega)] at h1
        exact no_spot h1
      obtain ⟨b, off, sp⟩ := a
      simp only at hsp
      subst hsp
      have hcell : ∀ i j, i < len → j < k → w.cell? ⟨b, off + (i * k + j), none⟩ = (f i)[j]? := by
        intro i j h1 h2
        have := (World.cells?_some (hf i (by omega)).1).2.2 j h2
        rwa [add_zero', add_zero', Nat.add_assoc] at this
      refine ⟨b, off, rfl, trivial, ?_, ?_⟩
      · have h1 := hcell 0 0 hn hk0
        have h2 := (World.cells?_some (hf 0 (by omega)).1).2.1
        rw [List.getElem?_eq_getElem (by omega)] at h1
        exact World.block_lt_of_cell? w _ h1
      · have : ∀ q, q ≤ len → ((List.range q).flatMap f).length = q * k ∧ ∀ j, j < q * k → w.cell? ⟨b, off + j, none⟩ = ((List.range q).flatMap f)[j]? := by
          intro q
          induction q with
          | zero => intro _; simp
          | succ q ih =>
            intro hq
            obtain ⟨i1, i2⟩ := ih (by omega)
            have h1 := (World.cells?_some (hf q (by omega)).1).2.1
            have e : (List.range (q + 1)).flatMap f = (List.range q).flatMap f ++ f q := by rw [List.range_succ, List.flatMap_append]; simp
            rw [e]
            refine ⟨by rw [List.length_append, i1, h1, Nat.succ_mul], fun j hj => ?_⟩
            by_cases hlt : j < q * k
            · rw [List.getElem?_append_left (by omega)]; exact i2 j hlt
            · rw [List.getElem?_append_right (by omega), i1]
              have hj2 : j < q * k + k := by rw [Nat.succ_mul] at hj; exact hj
              have := hcell q (j - q * k) (by omega) (by omega)
              rw [show q * k + (j - q * k) = j by omega] at this
              exact this
        intro j hj
        have h1 := this len (Nat.le_refl _)
        exact h1.2 j (by rw [← h1.1]; exact hj)
    · simp only [Rows.uptoBulk, bulkAll_sum, List.map_map]
      have : (List.map (fun i => Rows.uptoBulk (D i)) (List.range len)).sum = (List.map (Rows.uptoBulk ∘ D) (List.range len)).sum := rfl
      omega
    · exact (World.cells?_some (hf i (by omega)).1).2.1
theorem flat_rows {α : Type} {R : α → List Value → Prop} {RL : List α → List Value → Prop} (h0 : RL [] []) (hs : ∀ l x c1 c2, RL l c1 → R x c2 → RL (l ++ [x]) (c1 ++ c2)) (sz : α → Nat) (f : Nat → List Value) (bk : Nat → Nat) :
    ∀ len, (∀ i, i < len → ∃ x, R x (f i) ∧ sz x ≤ bk i) → ∃ l : List α, l.length = len ∧ RL l ((List.range len).flatMap f) ∧ (l.map sz).sum ≤ ((List.range len).map bk).sum := by
  intro len
  induction len with
  | zero => intro _; exact ⟨[], rfl, by simpa using h0, by simp⟩
  | succ n ih =>
    intro h
    obtain ⟨l, h1, h2, h3⟩ := ih (fun i hi => h i (by omega))
    obtain ⟨x, x1, x2⟩ := h n (by omega)
    refine ⟨l ++ [x], by simp [h1], ?_, ?_⟩
    · rw [List.range_succ, List.flatMap_append]
      have := hs _ _ _ _ h2 x1
      simpa using this
    · rw [List.range_succ]
      simp
      omega
theorem one_bulk (d : DataW H) : 1 ≤ Rows.uptoBulk d := by
  cases d with
  | lit l => cases l <;> simp [Rows.uptoBulk]
  | _ => simp [Rows.uptoBulk]
theorem bulk_in {len : Nat} {bk : Nat → Nat} {i : Nat} (hi : i < len) : bk i ≤ ((List.range len).map bk).sum := by
  induction len with
  | zero => omega
  | succ n ih =>
    rw [List.range_succ]
    simp
    rcases Nat.lt_succ_iff_lt_or_eq.mp hi with h | h
    · have := ih h; omega
    · subst h; omega
theorem cells9 : Try.prog.cellsOf 9 = 1 := by kernel_rfl
theorem cells3 : Try.prog.cellsOf 3 = 1 := by kernel_rfl
theorem cells2 : Try.prog.cellsOf 2 = 1 := by kernel_rfl
theorem cells22 : Try.prog.cellsOf 22 = 1 := by kernel_rfl
theorem cells32 : Try.prog.cellsOf 32 = 1 := by kernel_rfl
theorem cells33 : Try.prog.cellsOf 33 = 1 := by kernel_rfl
theorem cells36 : Try.prog.cellsOf 36 = 1 := by kernel_rfl
theorem cells35 : Try.prog.cellsOf 35 = 5 := by kernel_rfl
theorem cells38 : Try.prog.cellsOf 38 = 11 := by kernel_rfl
theorem cells49 : Try.prog.cellsOf 49 = 2 := by kernel_rfl
theorem strs_in {fuel : Nat} {v : Value} {x : DataW H × List MemPlace} (h : DataW.trod enc Try.prog w base spare held fuel 32 [v] = some x) : ∃ l, Strs w AnyB v l := by
  obtain ⟨len, n, f, D, hr, hb, hi⟩ := open_row Try.underlying32 cells9 (by decide) h
  obtain ⟨l, h1, h2, _⟩ := flat_rows (α := ByteArray) (R := fun s c => c = [.string s]) (RL := fun l c => c = l.map .string) rfl (fun l x c1 c2 e1 e2 => by rw [e1, e2]; simp) (fun _ => 0) f (fun _ => 0) len (fun i hil => by
    obtain ⟨s, hs, _⟩ := DataW.trod_string Try.underlying9 (hi i hil).2
    exact ⟨s, hs, Nat.le_refl _⟩)
  subst h1
  rw [h2] at hr
  exact ⟨l, hr⟩
def PL (H : Type) (enc : TypeId × Value → H) (w : World) (base : Nat) (spare : Nat → Bool) (held : Bool) (M : Nat) : Prop := ∀ (fuel : Nat) (v : Value) (x : DataW H × List MemPlace), DataW.trod enc Try.prog w base spare held fuel 33 [v] = some x → Rows.uptoBulk x.1 ≤ M → ∃ l, VL w AnyB v l
theorem expr_in {M fuel : Nat} {cs : List Value} {x : DataW H × List MemPlace} (ih : PL H enc w base spare held M) (h : DataW.trod enc Try.prog w base spare held fuel 35 cs = some x) (hb : Rows.uptoBulk x.1 ≤ M + 1) : ∃ e, XE w AnyB e cs := by
  obtain ⟨xs, n, _, rfl, hlen, hxl, hf⟩ := DataW.trod_struct Try.underlying35 h
  rw [cells35] at hlen
  match xs, hxl with
  | [x0, x1, x2, x3, x4], _ =>
    match cs, hlen with
    | [c0, c1, c2, c3, c4], _ =>
      have t0 : DataW.trod enc Try.prog w base spare held n 3 [c0] = some x0 := by
        have q : DataW.trod enc Try.prog w base spare held n 3 (List.take (Try.prog.cellsOf 3) (List.drop 0 [c0, c1, c2, c3, c4])) = some x0 := hf 0 _ rfl
        rw [cells3] at q
        exact q
      have t1 : DataW.trod enc Try.prog w base spare held n 9 [c1] = some x1 := by
        have q : DataW.trod enc Try.prog w base spare held n 9 (List.take (Try.prog.cellsOf 9) (List.drop 1 [c0, c1, c2, c3, c4])) = some x1 := hf 1 _ rfl
        rw [cells9] at q
        exact q
      have t2 : DataW.trod enc Try.prog w base spare held n 2 [c2] = some x2 := by
        have q : DataW.trod enc Try.prog w base spare held n 2 (List.take (Try.prog.cellsOf 2) (List.drop 2 [c0, c1, c2, c3, c4])) = some x2 := hf 2 _ rfl
        rw [cells2] at q
        exact q
      have t3 : DataW.trod enc Try.prog w base spare held n 32 [c3] = some x3 := by
        have q : DataW.trod enc Try.prog w base spare held n 32 (List.take (Try.prog.cellsOf 32) (List.drop 3 [c0, c1, c2, c3, c4])) = some x3 := hf 3 _ rfl
        rw [cells32] at q
        exact q
      have t4 : DataW.trod enc Try.prog w base spare held n 33 [c4] = some x4 := by
        have q : DataW.trod enc Try.prog w base spare held n 33 (List.take (Try.prog.cellsOf 33) (List.drop 4 [c0, c1, c2, c3, c4])) = some x4 := hf 4 _ rfl
        rw [cells33] at q
        exact q
      obtain ⟨i0, e0, _⟩ := DataW.trod_int Try.underlying3 t0
      obtain ⟨s1, e1, _⟩ := DataW.trod_string Try.underlying9 t1
      obtain ⟨i2, e2, _⟩ := DataW.trod_int Try.underlying2 t2
      obtain ⟨l3, h3⟩ := strs_in t3
      obtain ⟨l4, row, h4, h5⟩ := ih n c4 x4 t4 (by simp [Rows.uptoBulk, Rows.uptoBulkAll] at hb; omega)
      simp at e0 e1 e2
      subst e0; subst e1; subst e2
      exact ⟨.mk i0 s1 i2 l3 l4, by simp only [XE]; exact ⟨c3, c4, rfl, h3, row, h4, h5⟩⟩
theorem XL_snoc {w : World} {A : Nat → Prop} {l : List Ex} {e : Ex} : ∀ {c1 c2 : List Value}, XL w A l c1 → XE w A e c2 → XL w A (l ++ [e]) (c1 ++ c2) := by
  induction l with
  | nil => intro c1 c2 h h'; simp only [XL] at h; subst h; simp only [List.nil_append, XL]; exact ⟨c2, [], by simp, h', rfl⟩
  | cons s r ih =>
    intro c1 c2 h h'
    simp only [XL] at h
    obtain ⟨d1, d2, rfl, h1, h2⟩ := h
    simp only [List.cons_append, XL]
    exact ⟨d1, d2 ++ c2, by simp, h1, ih h2 h'⟩
theorem exprs_in : ∀ M, PL H enc w base spare held M := by
  intro M
  induction M with
  | zero => intro fuel v x _ hb; have := one_bulk x.1; omega
  | succ M ih =>
    intro fuel v x h hb
    obtain ⟨len, n, f, D, hr, hb2, hi⟩ := open_row Try.underlying33 cells35 (by decide) h
    obtain ⟨l, h1, h2, _⟩ := flat_rows (α := Ex) (R := XE w AnyB) (RL := XL w AnyB) (by simp [XL]) (fun l x c1 c2 e1 e2 => XL_snoc e1 e2) (fun _ => 0) f (fun _ => 0) len (fun i hil => by
      have h3 : Rows.uptoBulk (D i).1 ≤ ((List.range len).map fun i => Rows.uptoBulk (D i).1).sum := bulk_in (bk := fun i => Rows.uptoBulk (D i).1) hil
      obtain ⟨e, he⟩ := expr_in ih (hi i hil).2 (by omega)
      exact ⟨e, he, Nat.le_refl _⟩)
    subst h1
    exact ⟨l, _, hr, h2⟩
def PB (H : Type) (enc : TypeId × Value → H) (w : World) (base : Nat) (spare : Nat → Bool) (held : Bool) (M : Nat) : Prop := ∀ (fuel : Nat) (v : Value) (x : DataW H × List MemPlace), DataW.trod enc Try.prog w base spare held fuel 22 [v] = some x → Rows.uptoBulk x.1 ≤ M → ∃ l, VB w AnyB v l ∧ szB 1 l ≤ Rows.uptoBulk x.1
theorem arm_in {M fuel : Nat} {cs : List Value} {x : DataW H × List MemPlace} (ih : PB H enc w base spare held M) (h : DataW.trod enc Try.prog w base spare held fuel 49 cs = some x) (hb : Rows.uptoBulk x.1 ≤ M + 1) : ∃ a, ER w AnyB a cs ∧ szR 1 a ≤ Rows.uptoBulk x.1 := by
  obtain ⟨xs, n, _, rfl, hlen, hxl, hf⟩ := DataW.trod_struct Try.underlying49 h
  rw [cells49] at hlen
  match xs, hxl with
  | [x0, x1], _ =>
    match cs, hlen with
    | [c0, c1], _ =>
      have t0 : DataW.trod enc Try.prog w base spare held n 9 [c0] = some x0 := by
        have q : DataW.trod enc Try.prog w base spare held n 9 (List.take (Try.prog.cellsOf 9) (List.drop 0 [c0, c1])) = some x0 := hf 0 _ rfl
        rw [cells9] at q
        exact q
      have t1 : DataW.trod enc Try.prog w base spare held n 22 [c1] = some x1 := by
        have q : DataW.trod enc Try.prog w base spare held n 22 (List.take (Try.prog.cellsOf 22) (List.drop 1 [c0, c1])) = some x1 := hf 1 _ rfl
        rw [cells22] at q
        exact q
      obtain ⟨s0, e0, _⟩ := DataW.trod_string Try.underlying9 t0
      simp only [List.map_cons, List.map_nil, Rows.uptoBulk, Rows.uptoBulkAll] at hb ⊢
      obtain ⟨l1, h1, h2⟩ := ih n c1 x1 t1 (by omega)
      simp at e0
      subst e0
      exact ⟨.mk s0 l1, (ER_iff _ _).mpr ⟨c1, rfl, h1⟩, by rw [szR_eq]; simp only [Arm.body]; omega⟩
theorem sum_szA (l : List Arm) : szA 1 l = (l.map (szR 1)).sum := by
  induction l with
  | nil => rfl
  | cons a r ih => simp [szA, ih]
theorem sum_szB (l : List Stm) : szB 1 l = (l.map (szS 1)).sum := by
  induction l with
  | nil => rfl
  | cons a r ih => simp [szB, ih]
theorem arms_in {M fuel : Nat} {v : Value} {x : DataW H × List MemPlace} (ih : PB H enc w base spare held M) (h : DataW.trod enc Try.prog w base spare held fuel 36 [v] = some x) (hb : Rows.uptoBulk x.1 ≤ M + 1) : ∃ l, VA w AnyB v l ∧ szA 1 l ≤ Rows.uptoBulk x.1 := by
  obtain ⟨len, n, f, D, hr, hb2, hi⟩ := open_row Try.underlying36 cells49 (by decide) h
  obtain ⟨l, h1, h2, h3⟩ := flat_rows (α := Arm) (R := ER w AnyB) (RL := EA w AnyB) (by simp [EA]) (fun l x c1 c2 e1 e2 => EA_append e1 (by simp only [EA]; exact ⟨c2, [], by simp, e2, rfl⟩)) (szR 1) f (fun i => Rows.uptoBulk (D i).1) len (fun i hil => by
    have h3 : Rows.uptoBulk (D i).1 ≤ ((List.range len).map fun i => Rows.uptoBulk (D i).1).sum := bulk_in (bk := fun i => Rows.uptoBulk (D i).1) hil
    exact arm_in ih (hi i hil).2 (by omega))
  subst h1
  exact ⟨l, ⟨_, hr, h2⟩, by rw [sum_szA]; omega⟩
theorem stm_in {M fuel : Nat} {cs : List Value} {x : DataW H × List MemPlace} (ih : PB H enc w base spare held M) (h : DataW.trod enc Try.prog w base spare held fuel 38 cs = some x) (hb : Rows.uptoBulk x.1 ≤ M + 1) : ∃ s, ES w AnyB s cs ∧ szS 1 s ≤ Rows.uptoBulk x.1 := by
  obtain ⟨xs, n, _, rfl, hlen, hxl, hf⟩ := DataW.trod_struct Try.underlying38 h
  rw [cells38] at hlen
  match xs, hxl with
  | [x0, x1, x2, x3, x4, x5, x6], _ =>
    match cs, hlen with
    | [c0, c1, c2, c3, c4, c5, c6, c7, c8, c9, c10], _ =>
      have t0 : DataW.trod enc Try.prog w base spare held n 3 [c0] = some x0 := by
        have q : DataW.trod enc Try.prog w base spare held n 3 (List.take (Try.prog.cellsOf 3) (List.drop 0 [c0, c1, c2, c3, c4, c5, c6, c7, c8, c9, c10])) = some x0 := hf 0 _ rfl
        rw [cells3] at q
        exact q
      have t1 : DataW.trod enc Try.prog w base spare held n 9 [c1] = some x1 := by
        have q : DataW.trod enc Try.prog w base spare held n 9 (List.take (Try.prog.cellsOf 9) (List.drop 1 [c0, c1, c2, c3, c4, c5, c6, c7, c8, c9, c10])) = some x1 := hf 1 _ rfl
        rw [cells9] at q
        exact q
      have t2 : DataW.trod enc Try.prog w base spare held n 32 [c2] = some x2 := by
        have q : DataW.trod enc Try.prog w base spare held n 32 (List.take (Try.prog.cellsOf 32) (List.drop 2 [c0, c1, c2, c3, c4, c5, c6, c7, c8, c9, c10])) = some x2 := hf 2 _ rfl
        rw [cells32] at q
        exact q
      have t3 : DataW.trod enc Try.prog w base spare held n 3 [c3] = some x3 := by
        have q : DataW.trod enc Try.prog w base spare held n 3 (List.take (Try.prog.cellsOf 3) (List.drop 3 [c0, c1, c2, c3, c4, c5, c6, c7, c8, c9, c10])) = some x3 := hf 3 _ rfl
        rw [cells3] at q
        exact q
      have t4 : DataW.trod enc Try.prog w base spare held n 35 [c4, c5, c6, c7, c8] = some x4 := by
        have q : DataW.trod enc Try.prog w base spare held n 35 (List.take (Try.prog.cellsOf 35) (List.drop 4 [c0, c1, c2, c3, c4, c5, c6, c7, c8, c9, c10])) = some x4 := hf 4 _ rfl
        rw [cells35] at q
        exact q
      have t5 : DataW.trod enc Try.prog w base spare held n 33 [c9] = some x5 := by
        have q : DataW.trod enc Try.prog w base spare held n 33 (List.take (Try.prog.cellsOf 33) (List.drop 9 [c0, c1, c2, c3, c4, c5, c6, c7, c8, c9, c10])) = some x5 := hf 5 _ rfl
        rw [cells33] at q
        exact q
      have t6 : DataW.trod enc Try.prog w base spare held n 36 [c10] = some x6 := by
        have q : DataW.trod enc Try.prog w base spare held n 36 (List.take (Try.prog.cellsOf 36) (List.drop 10 [c0, c1, c2, c3, c4, c5, c6, c7, c8, c9, c10])) = some x6 := hf 6 _ rfl
        rw [cells36] at q
        exact q
      obtain ⟨i0, e0, _⟩ := DataW.trod_int Try.underlying3 t0
      obtain ⟨s1, e1, _⟩ := DataW.trod_string Try.underlying9 t1
      obtain ⟨l2, h2⟩ := strs_in t2
      obtain ⟨i3, e3, _⟩ := DataW.trod_int Try.underlying3 t3
      obtain ⟨e4, h4⟩ := expr_in (exprs_in _) t4 (Nat.le_succ _)
      obtain ⟨l5, h5⟩ := exprs_in _ n c9 x5 t5 (Nat.le_refl _)
      simp only [List.map_cons, List.map_nil, Rows.uptoBulk, Rows.uptoBulkAll] at hb ⊢
      obtain ⟨l6, h6, h7⟩ := arms_in ih t6 (by omega)
      simp at e0 e1 e3
      subst e0; subst e1; subst e3
      refine ⟨.mk ⟨i0, s1, l2, c2, .int .i64 i3, c4, c5, c6, c7, c8, c9⟩ l6, (ES_iff _ _).mpr ⟨c10, rfl, ⟨h2, ⟨i3, rfl⟩, ⟨e4, h4⟩, ⟨l5, h5⟩⟩, h6⟩, ?_⟩
      rw [szS_eq]
      have := one_bulk x0.1
      simp only [Stm.arms]; omega
theorem stms_in : ∀ M, PB H enc w base spare held M := by
  intro M
  induction M with
  | zero => intro fuel v x _ hb; have := one_bulk x.1; omega
  | succ M ih =>
    intro fuel v x h hb
    obtain ⟨len, n, f, D, hr, hb2, hi⟩ := open_row Try.underlying22 cells38 (by decide) h
    obtain ⟨l, h1, h2, h3⟩ := flat_rows (α := Stm) (R := ES w AnyB) (RL := EB w AnyB) (by simp [EB]) (fun l x c1 c2 e1 e2 => EB_append e1 (by simp only [EB]; exact ⟨c2, [], by simp, e2, rfl⟩)) (szS 1) f (fun i => Rows.uptoBulk (D i).1) len (fun i hil => by
      have h3 : Rows.uptoBulk (D i).1 ≤ ((List.range len).map fun i => Rows.uptoBulk (D i).1).sum := bulk_in (bk := fun i => Rows.uptoBulk (D i).1) hil
      exact stm_in ih (hi i hil).2 (by omega))
    subst h1
    exact ⟨l, ⟨_, hr, h2⟩, by rw [sum_szB]; omega⟩
/-- Statements that came in. -/
theorem open_stms {v : Value} {d : DataW H} {p : List MemPlace} (h : DataW.Trod enc Try.prog w base spare held 22 v d p) (hv : v.cells.toList = [v]) : ∃ l, VB w AnyB v l ∧ szB 1 l ≤ Rows.uptoBulk d := by
  obtain ⟨fuel, hf⟩ := h
  rw [hv] at hf
  exact stms_in _ fuel v (d, p) hf (Nat.le_refl _)
end
end Go.Proofs.Ytnbinejghkhcjaa.Fu
