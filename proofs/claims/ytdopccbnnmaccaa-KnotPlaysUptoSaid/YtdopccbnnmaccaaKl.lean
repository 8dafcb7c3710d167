/- A knot beside other rows: what a call on the knot leaves alone. -/
import Derived.Test.YtdopccbnnmaccaaKi
import Derived.Deep.RegionHeld3
namespace Go.Proofs.Ytdopccbnnmaccaa.Kn
open Go.RowKit
set_option linter.unusedVariables false
set_option linter.unusedSimpArgs false
set_option maxHeartbeats 2000000

section
variable {w w' : World} {base kb n : Nat} {v : Value} {C : Nat → Nat} {M : Nat → Int}
/-- A block of another type is none of the knot's. -/
theorem KA.other (h : KA w base kb v n C M) {g : Nat} {cur : Array Value} {t : TypeId} (hg : w.heap[g]? = some (.cells cur t (0, 0))) (h1 : t ≠ 43) (h2 : t ≠ 47) : g ≠ kb ∧ some g ≠ v.ownBlock := by
  obtain ⟨L, rt, dp, hk, hr, hgd⟩ := h
  constructor
  · intro e; subst e
    rw [hk.blk] at hg
    simp at hg
    exact h1 hg.2.symm
  · intro e
    rcases hk.own.2 with ⟨rfl, _⟩ | ⟨g', cap, cur', rfl, _, hg', _⟩
    · simp [Value.ownBlock] at e
    · simp [Value.ownBlock] at e
      subst e
      rw [hg] at hg'
      simp at hg'
      exact h2 hg'.2
theorem KA.block_kept (h : KA w base kb v n C M) (hf : Fr kb v.ownBlock w w') {g : Nat} {cur : Array Value} {t : TypeId} (hg : w.heap[g]? = some (.cells cur t (0, 0))) (h1 : t ≠ 43) (h2 : t ≠ 47) : w'.heap[g]? = some (.cells cur t (0, 0)) := by
  obtain ⟨q1, q2⟩ := h.other hg h1 h2
  rw [hf.block g (Array.getElem?_eq_some_iff.1 hg).1 q1 q2]
  exact hg
theorem KA.row_kept (h : KA w base kb v n C M) (hf : Fr kb v.ownBlock w w') {b2 : Nat} {t : TypeId} {size m : Nat} {vr : Value} {xs : List Value} (hr : w.ownsRow b2 t size vr m xs) (h1 : t ≠ 43) (h2 : t ≠ 47) : w'.ownsRow b2 t size vr m xs := by
  refine ⟨hr.1, ?_⟩
  rcases hr.2 with q | ⟨g, cap, cur, e, hb, hg, rest⟩
  · exact .inl q
  · exact .inr ⟨g, cap, cur, e, hb, h.block_kept hf hg h1 h2, rest⟩
/-- What turns a row of another type alone leaves the knot alone. -/
theorem KA.grown (h : KA w base kb v n C M) {row : Option Nat} (hgr : w.grownBy w' row) (hrow : ∀ g, row = some g → ∃ cur t, w.heap[g]? = some (.cells cur t (0, 0)) ∧ t ≠ 43 ∧ t ≠ 47) : KA w' base kb v n C M := by
  have hx : ∀ g, row = some g → g ≠ kb ∧ some g ≠ v.ownBlock := by
    intro g e
    obtain ⟨cur, t, hg, h1, h2⟩ := hrow g e
    exact h.other hg h1 h2
  obtain ⟨L, rt, dp, hk, hr, hgd⟩ := h
  refine ⟨L, rt, dp, ⟨hk.kbb, ?_, hk.own.kept hgr ?_⟩, hr, hgd⟩
  · rw [hgr.block kb hk.lt (fun e => (hx kb e.symm).1 rfl)]; exact hk.blk
  · cases hv : v.ownBlock with
    | none => exact Or.inl rfl
    | some g => right; intro e; exact (hx g e.symm).2 hv.symm
theorem row_block {w : World} {b2 : Nat} {t : TypeId} {size m : Nat} {vr : Value} {xs : List Value} (hr : w.ownsRow b2 t size vr m xs) : ∀ g, vr.ownBlock = some g → ∃ cur, w.heap[g]? = some (.cells cur t (0, 0)) := by
  intro g e
  rcases hr.2 with ⟨rfl, _⟩ | ⟨g', cap, cur, rfl, hb, hg, rest⟩
  · simp [Value.ownBlock] at e
  · simp [Value.ownBlock] at e
    subst e
    exact ⟨cur, hg⟩
end

theorem KA.alloc {w : World} {base kb n : Nat} {v : Value} {C : Nat → Nat} {M : Nat → Int} (h : KA w base kb v n C M) (o : Obj) : KA (w.alloc o) base kb v n C M := h.grow ((Below.refl _ _).alloc (Nat.le_refl _) o)
theorem KA.drewN {w : World} {base kb n : Nat} {v : Value} {C : Nat → Nat} {M : Nat → Int} (h : KA w base kb v n C M) (k : Nat) : KA (w.drewN k) base kb v n C M := h.grow (below_drewN k _ w)
theorem fr_alloc (kb : Nat) (o : Option Nat) (w : World) (x : Obj) : Fr kb o w (w.alloc x) := (Fr.refl kb o w).alloc x

/-- 'does', and what it leaves alone. -/
theorem does_fr {w : World} {base kb : Nat} {v : Value} (s : St) (h : KA w base kb v s.n s.C s.M) (hb : base ≤ w.heap.size) (a x y : Int) (hn : kd a = 0 → s.n + 1 ≤ 4398046511104) :
    Calls Try.prog 13 #[.pointer (some ⟨kb, 0, none⟩), opA a x y] w fun e w' => e = .returned (.bool (s.ok (kd a) x y)) ∧ ∃ v', KA w' base kb v' (s.step (kd a) x y).n (s.step (kd a) x y).C (s.step (kd a) x y).M ∧ Fr kb v.ownBlock w w' ∧ (∀ g, v'.ownBlock = some g → v.ownBlock = some g ∨ w.heap.size ≤ g) := by
  have HK := Lib.hid h
  have hkd := kind_any a x y
  have two : ∀ w2, Fr kb v.ownBlock ((w.alloc (opB a x y)).alloc (opB a x y)) w2 → Fr kb v.ownBlock w w2 := fun w2 hf => (((Fr.refl kb v.ownBlock w).alloc _).alloc _).trans' hf
  have two := Lib.hid two
  rcases kd_range a with hk | hk | hk
  · replace hn := hn hk
    rw [hk] at hkd ⊢
    clear h hk
    go_enter Try.func13, Try.ntmps13
    go_wp2_with (first | (go_at_call 14; (with_reducible refine (hkd _).mono ?_); rintro e w1 ⟨rfl, rfl⟩) | (go_at_call 15; refine (add_any ((HK.out.alloc _).alloc _) hn (by simp; omega)).mono ?_; rintro e w2 ⟨rfl, hk2⟩; replace hk2 := Lib.hid hk2))
    go_ret
    obtain ⟨v', h1, h2, h3⟩ := hk2.out
    exact ⟨rfl, v', h1, two.out _ h2, fun g e => (h3 g e).imp id (fun q => by simp at q; omega)⟩
  · rw [hk] at hkd ⊢
    clear h hk hn
    go_enter Try.func13, Try.ntmps13
    go_wp2_with (first | (go_at_call 14; (with_reducible refine (hkd _).mono ?_); rintro e w1 ⟨rfl, rfl⟩) | (go_at_call 17; refine (mark_any ((HK.out.alloc _).alloc _) _ _).mono ?_; rintro e w2 ⟨rfl, hk2⟩; replace hk2 := Lib.hid hk2))
    go_ret
    obtain ⟨h1, h2⟩ := hk2.out
    exact ⟨rfl, v, h1, two.out _ h2, fun g e => Or.inl e⟩
  · rw [hk] at hkd ⊢
    clear h hk hn
    go_enter Try.func13, Try.ntmps13
    go_wp2_with (first | (go_at_call 14; (with_reducible refine (hkd _).mono ?_); rintro e w1 ⟨rfl, rfl⟩) | (go_at_call 19; refine (tie_any ((HK.out.alloc _).alloc _) _ _).mono ?_; rintro e w2 ⟨rfl, hk2⟩; replace hk2 := Lib.hid hk2))
    go_ret
    obtain ⟨h1, h2⟩ := hk2.out
    exact ⟨rfl, v, h1, two.out _ h2, fun g e => Or.inl e⟩
/-- What is refused changes nothing. -/
theorem St.refused (s : St) (k x y : Int) (h : s.ok k x y = false) : s.step k x y = s := by
  unfold St.ok at h
  unfold St.step
  split at h
  · cases h
  · rename_i h0
    rw [if_neg h0]
    split at h
    · rename_i h1
      rw [if_pos h1]
      simp [markN, h]
    · rename_i h1
      rw [if_neg h1]
      simp [tieNC, tieNM, h]
theorem St.step_n (s : St) (k x y : Int) : (s.step k x y).n ≤ s.n + 1 := by
  unfold St.step
  split
  · exact Nat.le_refl _
  · split <;> exact Nat.le_succ _
end Go.Proofs.Ytdopccbnnmaccaa.Kn
