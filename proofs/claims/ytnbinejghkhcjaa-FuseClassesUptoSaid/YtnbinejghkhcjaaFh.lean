/- The law's own examples. -/
import Derived.Test.YtnbinejghkhcjaaFs
namespace Go.Proofs.Ytnbinejghkhcjaa.Fu
open Go.RowKit
set_option linter.unusedVariables false
set_option linter.unusedSimpArgs false
set_option maxHeartbeats 4000000

/-- The head of the example's statement. -/
def setHd (nm : ByteArray) : Hd := ⟨1, nm, [], .slice none 0 0, .int .i64 0, .int .i64 1, .string ⟨#[]⟩, .int .i64 1, .slice none 0 0, .slice none 0 0, .slice none 0 0⟩
/-- The head of the example's guard. -/
def onHd : Hd := ⟨5, ⟨#[99]⟩, [], .slice none 0 0, .int .i64 0, .int .i64 0, .string ⟨#[]⟩, .int .i64 0, .slice none 0 0, .slice none 0 0, .slice none 0 0⟩
theorem row38 : (Try.prog.underlying 38).map TypeDesc.isRow = some true := by kernel_rfl
theorem row38' : ∃ d, Try.prog.underlying 38 = some d ∧ d.isRow = true := by
  have h := row38
  cases e : Try.prog.underlying 38 with
  | none => rw [e] at h; simp at h
  | some d => rw [e] at h; exact ⟨d, rfl, by simpa using h⟩
theorem size38 : (Try.prog.info? 38).map (·.size) = some 11 := by kernel_rfl
theorem set_any (w : World) (nm : ByteArray) : Calls Try.prog 21 #[.string nm] w fun e w' => e = .returned (.agg #[.int .i64 1, .string nm, .slice none 0 0, .int .i64 0, .int .i64 1, .string ⟨#[]⟩, .int .i64 1, .slice none 0 0, .slice none 0 0, .slice none 0 0, .slice none 0 0]) ∧ Below w.heap.size w w' := by
  obtain ⟨d, hd1, hd2⟩ := row38'
  go_enter Try.func21, Try.ntmps21
  go_wp2
  refine bodyPost_ret (results_cell_row (p := 2) (ty := 38) (by rfl) _ _ w.heap.size 38 #[.int .i64 1, .string nm, .slice none 0 0, .int .i64 0, .int .i64 1, .string ⟨#[]⟩, .int .i64 1, .slice none 0 0, .slice none 0 0, .slice none 0 0, .slice none 0 0] (0, 0) d (by rfl) (heap_alloc_new _ _) hd1 (by cases d <;> simp_all [TypeDesc.isRow]) size38) (by rfl) ⟨rfl, (Below.refl _ _).alloc (Nat.le_refl _) _⟩
theorem on_any (w : World) (con : ByteArray) (a : Option Addr) (n c : Nat) : Calls Try.prog 20 #[.string con, .slice a n c] w fun e w' => ∃ g, e = .returned (.agg #[.int .i64 5, .string ⟨#[99]⟩, .slice none 0 0, .int .i64 0, .int .i64 0, .string ⟨#[]⟩, .int .i64 0, .slice none 0 0, .slice none 0 0, .slice none 0 0, .slice (some ⟨g, 0, none⟩) 1 1]) ∧ w.heap.size ≤ g ∧ w'.heap[g]? = some (.cells #[.string con, .slice a n c] 49 (0, 0)) ∧ Below w.heap.size w w' := by
  obtain ⟨d, hd1, hd2⟩ := row38'
  go_enter Try.func20, Try.ntmps20
  go_wp2
  refine bodyPost_ret (results_cell_row (p := 4) (ty := 38) (by rfl) _ _ w.heap.size 38 #[.int .i64 5, .string ⟨#[99]⟩, .slice none 0 0, .int .i64 0, .int .i64 0, .string ⟨#[]⟩, .int .i64 0, .slice none 0 0, .slice none 0 0, .slice none 0 0, .slice (some ⟨w.heap.size + 1, 0, none⟩) 1 1] (0, 0) d (by rfl) ?_ hd1 (by cases d <;> simp_all [TypeDesc.isRow]) size38) (by rfl) ⟨w.heap.size + 1, rfl, Nat.le_succ _, ?_, ((Below.refl _ _).alloc (Nat.le_refl _) _).alloc (by simp) _⟩
  · exact (Below.heap_alloc _ _ _ (by simp)).trans (heap_alloc_new w _)
  · have := heap_alloc_new (w.alloc (Obj.cells #[.int .i64 5, .string ⟨#[99]⟩, .slice none 0 0, .int .i64 0, .int .i64 0, .string ⟨#[]⟩, .int .i64 0, .slice none 0 0, .slice none 0 0, .slice none 0 0, .slice (some ⟨w.heap.size + 1, 0, none⟩) 1 1] 38)) (Obj.cells #[.string con, .slice a n c] 49)
    simpa using this
theorem VB.one {w : World} {A : Nat → Prop} {g : Nat} {hd : Hd} {u : Value} {arms : List Arm} (hg : w.heap[g]? = some (.cells (rawS hd u).toArray 38 (0, 0))) (hA : A g) (ho : HdOk w A hd) (hv : VA w A u arms) : VB w A (.slice (some ⟨g, 0, none⟩) 1 1) [.mk hd arms] := by
  refine ⟨rawS hd u, ⟨by simp [rawS], _, 1, rfl, Nat.le_refl _, by decide, fun _ => ⟨g, 0, rfl, hA, (Array.getElem?_eq_some_iff.1 hg).1, fun j hj => ?_⟩, fun e => by cases e⟩, ?_⟩
  · rw [Nat.zero_add, cell_of_row w g j _ 38 (0, 0) hg]
    simp
  · simp only [EB]
    exact ⟨rawS hd u, [], by simp, (ES_iff _ _).mpr ⟨u, rfl, ho, hv⟩, rfl⟩
theorem VA.single {w : World} {A : Nat → Prop} {g : Nat} {con : ByteArray} {u : Value} {body : List Stm} (hg : w.heap[g]? = some (.cells #[.string con, u] 49 (0, 0))) (hA : A g) (hv : VB w A u body) : VA w A (.slice (some ⟨g, 0, none⟩) 1 1) [.mk con body] := by
  refine ⟨[.string con, u], ⟨by simp, _, 1, rfl, Nat.le_refl _, by decide, fun _ => ⟨g, 0, rfl, hA, (Array.getElem?_eq_some_iff.1 hg).1, fun j hj => ?_⟩, fun e => by cases e⟩, ?_⟩
  · rw [Nat.zero_add, cell_of_row w g j _ 49 (0, 0) hg]
    simp
  · simp only [EA]
    exact ⟨[.string con, u], [], by simp, (ER_iff _ _).mpr ⟨u, rfl, hv⟩, rfl⟩
theorem setHd_ok (w : World) (A : Nat → Prop) (nm : ByteArray) : HdOk w A (setHd nm) :=
  ⟨Row.nil w A 1, ⟨0, rfl⟩, ⟨.mk 1 ⟨#[]⟩ 1 [] [], by simp only [XE, setHd]; exact ⟨_, _, rfl, Row.nil w A 1, [], Row.nil w A 5, by simp [XL]⟩⟩, ⟨[], [], Row.nil w A 5, by simp [XL]⟩⟩
theorem onHd_ok (w : World) (A : Nat → Prop) : HdOk w A onHd := caseHd_ok w A ⟨#[99]⟩
/-- The example's guard of one arm, whose body sets one name. -/
def onSet (con nm : ByteArray) : Stm := .mk onHd [.mk con [.mk (setHd nm) []]]
def exL : List Stm := [onSet ⟨#[65]⟩ ⟨#[120]⟩, onSet ⟨#[65]⟩ ⟨#[121]⟩, onSet ⟨#[66]⟩ ⟨#[99]⟩, onSet ⟨#[65]⟩ ⟨#[122]⟩]
/-- What comes of the example. -/
def exF : List Stm := [.mk (caseHd ⟨#[99]⟩) [.mk ⟨#[65]⟩ [.mk (setHd ⟨#[120]⟩) [], .mk (setHd ⟨#[121]⟩) []], .mk ⟨#[66]⟩ [.mk (setHd ⟨#[99]⟩) []]], onSet ⟨#[65]⟩ ⟨#[122]⟩]
theorem exL_size : szB 1 exL = 12 := by decide
theorem exF_eq : fuseF 13 exL = exF := by
  rfl
end Go.Proofs.Ytnbinejghkhcjaa.Fu
