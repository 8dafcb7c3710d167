/- The memory side of the knot: how things lie in memory, what a call may turn. -/
import Derived.Test.YtdopccbnnmaccaaProg
import Derived.Test.YtdopccbnnmaccaaPu
import Derived.WalkKit
import Derived.ProofKit
import Derived.Below
import Derived.KernelRfl
import Derived.Lib.Hide
import Derived.Deep.Draws
import Derived.Laws.OwnMore
namespace Go.Proofs.Ytdopccbnnmaccaa.Kn
open Go.RowKit
set_option linter.unusedVariables false
set_option linter.unusedSimpArgs false

def cells1 (t : Th) : List Value := [.int .i64 t.up, .int .i64 t.size, .int .i64 t.mark, .int .i64 t.least]
def cellsOf : List Th → List Value
  | [] => []
  | t :: r => cells1 t ++ cellsOf r
theorem cellsOf_length (L : List Th) : (cellsOf L).length = L.length * 4 := by
  induction L with
  | nil => rfl
  | cons t r ih => simp [cellsOf, cells1, ih]; omega
theorem cellsOf_append (L R : List Th) : cellsOf (L ++ R) = cellsOf L ++ cellsOf R := by
  induction L with
  | nil => rfl
  | cons t r ih => simp [cellsOf, ih]
theorem cellsOf_get (L : List Th) (i j : Nat) (hi : i < L.length) (hj : j < 4) : (cellsOf L)[i * 4 + j]? = (cells1 (at_ L i))[j]? := by
  induction L generalizing i with
  | nil => simp at hi
  | cons t r ih =>
    cases i with
    | zero => simp [cellsOf, at_, List.getD]; rw [List.getElem?_append_left (by simp [cells1]; omega)]
    | succ i =>
      have e : (i + 1) * 4 + j = 4 + (i * 4 + j) := by omega
      rw [e]
      simp only [cellsOf]
      rw [List.getElem?_append_right (by simp [cells1])]
      have e2 : 4 + (i * 4 + j) - (cells1 t).length = i * 4 + j := by simp [cells1]
      rw [e2, ih i (by simpa using hi)]
      simp [at_, List.getD]
theorem cellsOf_set (L : List Th) (i : Nat) (t : Th) (hi : i < L.length) (j : Nat) (u : Value) (hj : j < 4) (h : cells1 t = (cells1 (at_ L i)).set j u) : cellsOf (L.set i t) = (cellsOf L).set (i * 4 + j) u := by
  induction L generalizing i with
  | nil => simp at hi
  | cons s r ih =>
    cases i with
    | zero =>
      have h' : cells1 t = (cells1 s).set j u := by simpa [at_, List.getD] using h
      simp only [List.set_cons_zero, cellsOf, h']
      rw [List.set_append_left _ _ (by simp [cells1]; omega)]
      simp
    | succ i =>
      simp only [List.set_cons_succ, cellsOf]
      rw [ih i (by simpa using hi) (by simpa [at_, List.getD] using h)]
      rw [List.set_append_right _ _ (by simp [cells1]; omega)]
      have e : (i + 1) * 4 + j - (cells1 s).length = i * 4 + j := by simp [cells1]; omega
      rw [e]

/-- The knot whose pointer is block kb: its slice is v; the things are L. -/
structure KS (w : World) (base kb : Nat) (v : Value) (L : List Th) : Prop where
  kbb : base ≤ kb
  blk : w.heap[kb]? = some (.cells #[v] 43 (0, 0))
  own : w.ownsRow base 47 4 v L.length (cellsOf L)

/-- What a call on a knot may turn: the knot's own block and its row. -/
structure Fr (kb : Nat) (o : Option Nat) (w w' : World) : Prop where
  os : w'.os = w.os
  tape : w'.tape = w.tape
  output : w'.output = w.output
  size : w.heap.size ≤ w'.heap.size
  block : ∀ k, k < w.heap.size → k ≠ kb → some k ≠ o → w'.heap[k]? = w.heap[k]?

theorem Fr.refl (kb : Nat) (o : Option Nat) (w : World) : Fr kb o w w := ⟨rfl, rfl, rfl, Nat.le_refl _, fun _ _ _ _ => rfl⟩
theorem Fr.trans {kb : Nat} {o o' : Option Nat} {a b c : World} (h : Fr kb o a b) (k : Fr kb o' b c) (ho : ∀ x, o' = some x → o = some x ∨ a.heap.size ≤ x) : Fr kb o a c :=
  ⟨k.os.trans h.os, k.tape.trans h.tape, k.output.trans h.output, Nat.le_trans h.size k.size, fun i hi h1 h2 => (k.block i (Nat.lt_of_lt_of_le hi h.size) h1 (by
    intro e
    rcases ho i e.symm with q | q
    · exact h2 q.symm
    · omega)).trans (h.block i hi h1 h2)⟩
theorem Fr.trans' {kb : Nat} {o : Option Nat} {a b c : World} (h : Fr kb o a b) (k : Fr kb o b c) : Fr kb o a c := h.trans k (fun _ e => Or.inl e)
theorem Fr.drew {kb : Nat} {o : Option Nat} {a b : World} (h : Fr kb o a b) : Fr kb o a b.drew := ⟨h.os, h.tape, h.output, h.size, h.block⟩
theorem Fr.drewN {kb : Nat} {o : Option Nat} {a : World} (n : Nat) : ∀ {b : World}, Fr kb o a b → Fr kb o a (b.drewN n) := by
  induction n with
  | zero => exact fun h => h
  | succ n ih => intro b h; rw [← World.drew_drewN]; exact (ih h).drew
theorem Fr.alloc {kb : Nat} {o : Option Nat} {a b : World} (h : Fr kb o a b) (x : Obj) : Fr kb o a (b.alloc x) :=
  ⟨h.os, h.tape, h.output, Nat.le_trans h.size (by simp), fun k hk h1 h2 => (Below.heap_alloc b x k (Nat.lt_of_lt_of_le hk h.size)).trans (h.block k hk h1 h2)⟩
theorem Fr.set_row {kb g : Nat} {a b : World} (h : Fr kb (some g) a b) (i : Nat) (sp : Option Nat) (u : Value) : Fr kb (some g) a (b.setCell ⟨g, i, sp⟩ u) :=
  ⟨h.os, h.tape, h.output, Nat.le_trans h.size (by simp [World.setCell]), fun k hk h1 h2 => (Below.heap_setCell b _ u k (by intro e; exact h2 (by rw [e]))).trans (h.block k hk h1 h2)⟩
theorem Fr.set_kb {kb : Nat} {o : Option Nat} {a b : World} (h : Fr kb o a b) (i : Nat) (sp : Option Nat) (u : Value) : Fr kb o a (b.setCell ⟨kb, i, sp⟩ u) :=
  ⟨h.os, h.tape, h.output, Nat.le_trans h.size (by simp [World.setCell]), fun k hk h1 h2 => (Below.heap_setCell b _ u k h1).trans (h.block k hk h1 h2)⟩
theorem Fr.below {kb : Nat} {o : Option Nat} {w w' : World} {B : Nat} (h : Fr kb o w w') (hk : B ≤ kb) (ho : ∀ x, o = some x → B ≤ x) (hB : B ≤ w.heap.size) : Below B w w' :=
  ⟨h.os, h.tape, h.output, h.size, fun k hkk => h.block k (by omega) (by omega) (fun e => by have := ho k e.symm; omega)⟩

section
variable {w : World} {base kb : Nat} {v : Value} {L : List Th}
theorem KS.lt (h : KS w base kb v L) : kb < w.heap.size := (Array.getElem?_eq_some_iff.1 h.blk).1
theorem KS.own_lt (h : KS w base kb v L) {g : Nat} (e : v.ownBlock = some g) : base ≤ g ∧ g < w.heap.size := h.own.lt g e
theorem KS.ne (h : KS w base kb v L) : v.ownBlock ≠ some kb := by
  intro e
  rcases h.own.2 with ⟨rfl, _⟩ | ⟨g, cap, cur, rfl, _, hg, _⟩
  · simp [Value.ownBlock] at e
  · simp [Value.ownBlock] at e
    subst e
    rw [h.blk] at hg
    simp at hg
theorem KS.form (h : KS w base kb v L) (hn : 0 < L.length) : ∃ g cap, v = .slice (some ⟨g, 0, none⟩) L.length cap ∧ L.length ≤ cap ∧ cap ≤ maxLen ∧ g ≠ kb := by
  have hne := h.ne
  rcases h.own.2 with ⟨_, e⟩ | ⟨g, cap, cur, e, _, _, h1, h2, _⟩
  · omega
  · refine ⟨g, cap, e, h1, h2, fun q => hne ?_⟩
    rw [e, q]; rfl
theorem KS.nil_form (h : KS w base kb v L) (hn : L.length = 0) : ∃ A cap, v = .slice A 0 cap ∧ cap ≤ maxLen := by
  rcases h.own.2 with ⟨e, _⟩ | ⟨g, cap, cur, e, _, _, h1, h2, _⟩
  · exact ⟨none, 0, e, by decide⟩
  · rw [hn] at e; exact ⟨_, _, e, h2⟩
theorem KS.any_form (h : KS w base kb v L) : ∃ A cap, v = .slice A L.length cap ∧ L.length ≤ cap ∧ cap ≤ maxLen := by
  rcases h.own.2 with ⟨e, e2⟩ | ⟨g, cap, cur, e, _, _, h1, h2, _⟩
  · exact ⟨none, 0, by rw [e2]; exact e, by omega, by decide⟩
  · exact ⟨_, _, e, h1, h2⟩
theorem KS.ptr (h : KS w base kb v L) : w.cell? ⟨kb, 0, none⟩ = some v := by
  rw [cell_of_row w kb 0 _ 43 (0, 0) h.blk]; rfl
theorem KS.ptr_frozen (h : KS w base kb v L) : w.frozen? ⟨kb, 0, none⟩ = false := by
  simp [World.frozen?, h.blk]
end

section
variable {w : World} {base kb g cap n : Nat} {L : List Th}
theorem KS.cell (h : KS w base kb (.slice (some ⟨g, 0, none⟩) n cap) L) (i j : Nat) (hi : i < L.length) (hj : j < 4) : w.cell? ⟨g, i * 4 + j, none⟩ = (cells1 (at_ L i))[j]? := by
  have e : n = L.length := by
    rcases h.own.2 with ⟨e, _⟩ | ⟨_, _, _, e, _⟩ <;> simp at e
    exact e.2.1
  subst e
  rw [h.own.cellAt (i * 4 + j) (by omega), cellsOf_get L i j hi hj]
theorem KS.up (h : KS w base kb (.slice (some ⟨g, 0, none⟩) n cap) L) (i : Nat) (hi : i < L.length) : w.cell? ⟨g, i * 4, none⟩ = some (.int .i64 (at_ L i).up) := h.cell i 0 hi (by omega)
theorem KS.size (h : KS w base kb (.slice (some ⟨g, 0, none⟩) n cap) L) (i : Nat) (hi : i < L.length) : w.cell? ⟨g, i * 4 + 1, none⟩ = some (.int .i64 (at_ L i).size) := h.cell i 1 hi (by omega)
theorem KS.mark (h : KS w base kb (.slice (some ⟨g, 0, none⟩) n cap) L) (i : Nat) (hi : i < L.length) : w.cell? ⟨g, i * 4 + 2, none⟩ = some (.int .i64 (at_ L i).mark) := h.cell i 2 hi (by omega)
theorem KS.least (h : KS w base kb (.slice (some ⟨g, 0, none⟩) n cap) L) (i : Nat) (hi : i < L.length) : w.cell? ⟨g, i * 4 + 3, none⟩ = some (.int .i64 (at_ L i).least) := h.cell i 3 hi (by omega)
theorem KS.free (h : KS w base kb (.slice (some ⟨g, 0, none⟩) n cap) L) (j : Nat) : w.frozen? ⟨g, j, none⟩ = false := by
  have e : n = L.length := by
    rcases h.own.2 with ⟨e, _⟩ | ⟨_, _, _, e, _⟩ <;> simp at e
    exact e.2.1
  subst e
  exact h.own.frozenAt j
theorem KS.set (h : KS w base kb (.slice (some ⟨g, 0, none⟩) n cap) L) (i j : Nat) (u : Value) (t : Th) (hi : i < L.length) (hj : j < 4) (ht : cells1 t = (cells1 (at_ L i)).set j u) :
    KS (w.setCell ⟨g, i * 4 + j, none⟩ u) base kb (.slice (some ⟨g, 0, none⟩) n cap) (L.set i t) := by
  have e : n = L.length := by
    rcases h.own.2 with ⟨e, _⟩ | ⟨_, _, _, e, _⟩ <;> simp at e
    exact e.2.1
  subst e
  have hne := h.ne
  refine ⟨h.kbb, ?_, ?_⟩
  · rw [Below.heap_setCell _ _ _ _ (by intro q; apply hne; simp [Value.ownBlock]; exact q.symm)]; exact h.blk
  · have := h.own.stored (i * 4 + j) u
    rw [List.length_set, cellsOf_set L i t hi j u hj ht]
    exact this.1
end
section
variable {w w' : World} {base kb : Nat} {v : Value} {L : List Th}
theorem KS.keep (h : KS w base kb v L) {kb2 : Nat} {o : Option Nat} (hf : Fr kb2 o w w') (h1 : kb ≠ kb2) (h2 : some kb ≠ o) (h3 : v.ownBlock ≠ some kb2) (h4 : v.ownBlock = none ∨ v.ownBlock ≠ o) : KS w' base kb v L := by
  refine ⟨h.kbb, by rw [hf.block kb h.lt h1 h2]; exact h.blk, h.own.1, ?_⟩
  rcases h.own.2 with q | ⟨g, cap, cur, rfl, hb, hg, rest⟩
  · exact .inl q
  · refine .inr ⟨g, cap, cur, rfl, hb, ?_, rest⟩
    rw [hf.block g (Array.getElem?_eq_some_iff.1 hg).1 (by intro q; apply h3; simp [Value.ownBlock, q]) (by simpa [Value.ownBlock] using h4)]
    exact hg
theorem KS.below (h : KS w base kb v L) {B : Nat} (hb : Below B w w') (h1 : kb < B) (h2 : ∀ g, v.ownBlock = some g → g < B) : KS w' base kb v L := by
  refine ⟨h.kbb, by rw [hb.block kb h1]; exact h.blk, h.own.1, ?_⟩
  rcases h.own.2 with q | ⟨g, cap, cur, rfl, hbb, hg, rest⟩
  · exact .inl q
  · refine .inr ⟨g, cap, cur, rfl, hbb, ?_, rest⟩
    rw [hb.block g (h2 g rfl)]
    exact hg
theorem KS.grow (h : KS w base kb v L) (hb : Below w.heap.size w w') : KS w' base kb v L := h.below hb h.lt (fun g e => (h.own_lt e).2)
theorem below_drewN (n : Nat) : ∀ (B : Nat) (w : World), Below B w (w.drewN n) := by
  induction n with
  | zero => exact fun B w => Below.refl _ _
  | succ n ih => intro B w; rw [← World.drew_drewN]; exact (ih B w).drew
theorem KS.drewN (h : KS w base kb v L) (n : Nat) : KS (w.drewN n) base kb v L := h.grow (below_drewN n _ w)
theorem KS.alloc (h : KS w base kb v L) (x : Obj) : KS (w.alloc x) base kb v L := h.grow ((Below.refl _ _).alloc (Nat.le_refl _) x)
theorem KS.lower (h : KS w base kb v L) {base' : Nat} (hb : base' ≤ base) : KS w base' kb v L := by
  refine ⟨Nat.le_trans hb h.kbb, h.blk, h.own.1, ?_⟩
  rcases h.own.2 with q | ⟨g, cap, cur, e, hbb, rest⟩
  · exact .inl q
  · exact .inr ⟨g, cap, cur, e, Nat.le_trans hb hbb, rest⟩
end
end Go.Proofs.Ytdopccbnnmaccaa.Kn
