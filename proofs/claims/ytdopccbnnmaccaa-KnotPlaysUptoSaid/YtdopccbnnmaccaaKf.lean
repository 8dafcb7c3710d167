/- Tie where it ties: the two classes become one. -/
import Derived.Test.YtdopccbnnmaccaaKe
import Derived.RegionTactic
namespace Go.Proofs.Ytdopccbnnmaccaa.Kn
open Go.RowKit
set_option linter.unusedVariables false
set_option linter.unusedSimpArgs false
set_option maxHeartbeats 4000000

/-- 'max' and 'min' of two whole numbers. -/
def mxI (x y : Int) : Int := max x y
def mnI (x y : Int) : Int := min x y
theorem max2_int (k k' : IntKind) (x y : Int) : Builtin.max2 (.int k x) (.int k' y) = pure (.int k (mxI x y)) := by
  have e : mxI x y = (if x < y then y else x) := by unfold mxI; omega
  simp only [Builtin.max2, gt_iff_lt, e]
theorem min2_int (k k' : IntKind) (x y : Int) : Builtin.min2 (.int k x) (.int k' y) = pure (.int k (mnI x y)) := by
  have e : mnI x y = (if y < x then y else x) := by unfold mnI; omega
  simp only [Builtin.min2, e]
theorem max_two (ats : Array TypeId) (ty : TypeId) (a b : Value) : Builtin.max_ ats ty #[a, b] = (Builtin.max2 a b >>= fun s => pure s) := by simp only [Builtin.max_, List.foldlM_cons, List.foldlM_nil]
theorem min_two (ats : Array TypeId) (ty : TypeId) (a b : Value) : Builtin.min_ ats ty #[a, b] = (Builtin.min2 a b >>= fun s => pure s) := by simp only [Builtin.min_, List.foldlM_cons, List.foldlM_nil]

/-- The world under a new name, with what is known of it. -/
theorem gen_world {P : Program} {c : Code} {Q : Exit → Act → World → Prop} {a : Act} {w : World} (S : World → Prop) (hS : S w) (h : ∀ w3, S w3 → Code.wp P c Q a w3) : Code.wp P c Q a w := h w hS

theorem KS.four {w : World} {base kb g cap n : Nat} {L : List Th} (h : KS w base kb (.slice (some ⟨g, 0, none⟩) n cap) L) {r : Nat} {t : Th} (hr : r < L.length) (ht : at_ L r = t) :
    w.cell? ⟨g, r * 4, none⟩ = some (.int .i64 t.up) ∧ w.cell? ⟨g, r * 4 + 1, none⟩ = some (.int .i64 t.size) ∧ w.cell? ⟨g, r * 4 + 2, none⟩ = some (.int .i64 t.mark) ∧ w.cell? ⟨g, r * 4 + 3, none⟩ = some (.int .i64 t.least) := by
  subst ht
  exact ⟨h.up r hr, h.size r hr, h.mark r hr, h.least r hr⟩
theorem at_eta (L : List Th) (r : Nat) {u : Nat} {s m l : Int} (h1 : (at_ L r).up = u) (h2 : (at_ L r).size = s) (h3 : (at_ L r).mark = m) (h4 : (at_ L r).least = l) : at_ L r = ⟨u, s, m, l⟩ := by
  cases h : at_ L r
  rw [h] at h1 h2 h3 h4
  simp at h1 h2 h3 h4
  subst h1; subst h2; subst h3; subst h4
  rfl
theorem tie_done {w5 : World} {base kb g cap n x y i j : Nat} {L2 : List Th} {C : Nat → Nat} {M : Nat → Int} {rt dp : Nat → Nat} {sx sy mx my cx cy mm ll : Int} (sz : Int)
    (hk5 : KS w5 base kb (.slice (some ⟨g, 0, none⟩) n cap) (L2.set x ⟨x, sx, mm, ll⟩)) (hr2 : Rep L2 n C M rt dp) (hg : Good n C M) (hi : i < n) (hj : j < n)
    (hTx : at_ L2 x = ⟨x, sx, mx, cx⟩) (hTy : at_ L2 y = ⟨y, sy, my, cy⟩) (hmm : mm = max (M i) (M j)) (hll : ll = ((min (C i) (C j) : Nat) : Int))
    (hxy : (rt i = x ∧ rt j = y) ∨ (rt i = y ∧ rt j = x)) (hne : ¬ x = y) :
    KA (((w5.setCell ⟨g, x * 4 + 1, none⟩ (.int .i64 sz)).setCell ⟨g, y * 4, none⟩ (.int .i64 x)).drewN 1) base kb (.slice (some ⟨g, 0, none⟩) n cap) n (tieC C i j) (tieM C M i j) := by
  have hl := hr2.len
  have hx : x < n := by rcases hxy with ⟨q, _⟩ | ⟨_, q⟩ <;> rw [← q] <;> exact hr2.rt_lt _ (by assumption)
  have hy : y < n := by rcases hxy with ⟨_, q⟩ | ⟨q, _⟩ <;> rw [← q] <;> exact hr2.rt_lt _ (by assumption)
  have rx : rt x = x := by rcases hxy with ⟨q, _⟩ | ⟨_, q⟩ <;> rw [← q] <;> exact hr2.rt_rt (by assumption)
  have ry : rt y = y := by rcases hxy with ⟨_, q⟩ | ⟨q, _⟩ <;> rw [← q] <;> exact hr2.rt_rt (by assumption)
  have h6 := hk5.set x 1 (.int .i64 sz) ⟨x, sz, mm, ll⟩ (by rw [List.length_set]; omega) (by omega) (by rw [at_set _ _ _ _ (by omega), if_pos rfl]; rfl)
  rw [List.set_set] at h6
  have h7 := h6.set y 0 (.int .i64 x) ⟨x, sy, my, cy⟩ (by rw [List.length_set]; omega) (by omega) (by rw [at_set _ _ _ _ (by omega), if_neg (fun e => hne e.symm), hTy]; rfl)
  have ht := hr2.tie hx hy rx ry hne sz hi hj hxy
  rw [hTx, hTy] at ht
  have e1 : ({ (⟨x, sx, mx, cx⟩ : Th) with mark := max (M i) (M j), least := ((min (C i) (C j) : Nat) : Int), size := sz } : Th) = ⟨x, sz, mm, ll⟩ := by rw [hmm, hll]
  rw [e1] at ht
  exact ⟨_, _, _, h7.drewN 1, ht, hg.tie hi hj⟩

attribute [local go_sem] max2_int min2_int max_two min_two

theorem tie_z {w : World} {base kb : Nat} {v : Value} {n : Nat} {C : Nat → Nat} {M : Nat → Int} (h : KA w base kb v n C M) (i j : Nat) (hi : i < n) (hj : j < n) (hs : ¬ C i = C j)
    (mx my : Int) (hmx : M i = mx) (hmy : M j = my) (d1 : decide (0 < mx) = false) :
    Calls Try.prog 19 #[.pointer (some ⟨kb, 0, none⟩), .int .i64 i, .int .i64 j] w fun e w' => e = .returned (.bool true) ∧ KA w' base kb v n (tieC C i j) (tieM C M i j) ∧ Fr kb v.ownBlock w w' := by
  obtain ⟨L, rt, dp, hk, hr, hg⟩ := h
  have hl := hr.len
  obtain ⟨g, cap, rfl, hc1, hc2, hgk⟩ := hk.form (by omega)
  rw [hl] at hk hc1 ⊢
  have hu : cap ≤ 9223372036854775807 := by unfold maxLen at hc2; exact hc2
  have ht := top_in kb g cap base n i L C M rt dp w hi hk hr hc1 hu hgk
  have ht2 := fun (w1 : World) (L1 : List Th) (hk1 : KS w1 base kb (.slice (some ⟨g, 0, none⟩) n cap) L1) (hr1 : Rep L1 n C M rt dp) => top_in kb g cap base n j L1 C M rt dp w1 hj hk1 hr1 hc1 hu hgk
  have HG := Lib.hid hg
  have hne : ¬ rt i = rt j := fun q => hs ((hr.same i j hi hj).mp q)
  have hne2 : ¬ rt j = rt i := fun q => hne q.symm
  obtain ⟨x, Hrx⟩ : ∃ r, Hid (rt i = r) := ⟨_, Lib.hid rfl⟩
  obtain ⟨y, Hry⟩ : ∃ r, Hid (rt j = r) := ⟨_, Lib.hid rfl⟩
  have hcs : ∀ (L2 : List Th), Rep L2 n C M rt dp → ∃ sx sy : Int, x < L2.length ∧ y < L2.length ∧ at_ L2 x = ⟨x, sx, mx, (C i : Int)⟩ ∧ at_ L2 y = ⟨y, sy, my, (C j : Int)⟩ := by
    intro L2 hr2
    rw [← Hrx.out, ← Hry.out]
    refine ⟨_, _, by rw [hr2.len]; exact hr2.rt_lt i hi, by rw [hr2.len]; exact hr2.rt_lt j hj, at_eta _ _ (hr2.root_rt i hi) rfl ?_ (hr2.least i hi), at_eta _ _ (hr2.root_rt j hj) rfl ?_ (hr2.least j hj)⟩
    · rw [hr2.mark i hi, hmx]
    · rw [hr2.mark j hj, hmy]
  rw [Hrx.out] at ht hne hne2
  rw [Hry.out] at ht2 hne hne2
  replace hcs := Lib.hid hcs
  have HMX := Lib.hid hmx
  have HMY := Lib.hid hmy
  have HS := Lib.hid hs
  have HNxy := Lib.hid hne
  have HNyx := Lib.hid hne2
  obtain ⟨cx, Hcx⟩ : ∃ r : Int, Hid ((C i : Int) = r) := ⟨_, Lib.hid rfl⟩
  obtain ⟨cy, Hcy⟩ : ∃ r : Int, Hid ((C j : Int) = r) := ⟨_, Lib.hid rfl⟩
  rw [Hcx.out, Hcy.out] at hcs
  clear hr hl hg hk hc1 hc2 hu hs hmx hmy
  go_enter Try.func19, Try.ntmps19
  go_wp2_with (first | (go_at_call 25; (with_reducible refine ht.mono ?_); rintro e w1 ⟨rfl, ⟨L1, hk1, hr1⟩, hf1⟩; replace ht2 := ht2 _ _ hk1 hr1; replace hk1 := Lib.hid hk1; replace hr1 := Lib.hid hr1; replace hf1 := Lib.hid hf1) | (go_at_call 25; (with_reducible refine ht2.mono ?_); rintro e w2 ⟨rfl, ⟨L2, hk2, hr2⟩, hf2⟩; have hpe := ptr_other hk2 x y HNxy.out; obtain ⟨sx, sy, hb1, hb2, ha1, ha2⟩ := hcs.out _ hr2; obtain ⟨c1, c2, c3, c4⟩ := hk2.four hb1 ha1; obtain ⟨c5, c6, c7, c8⟩ := hk2.four hb2 ha2; have HBx := Lib.hid hb1; have HBy := Lib.hid hb2; have HTx := Lib.hid ha1; have HTy := Lib.hid ha2; clear hb1 hb2 ha1 ha2; replace hk2 := Lib.hid hk2; replace hr2 := Lib.hid hr2; replace hf2 := Lib.hid hf2))
  go_quiet (fail)
  go_wp2
  by_cases hlt : sx < sy
  · have d8 : decide (sx < sy) = true := decide_eq_true hlt
    go_quiet (fail)
    go_wp2
    clear c1 c2 c3 c4 c5 c6 c7 c8 d8 hlt hpe
    refine gen_world (S := fun w3 => KS w3 base kb (.slice (some ⟨g, 0, none⟩) n cap) L2 ∧ Fr kb (some g) w w3) (by first | exact ⟨(hk2.out.drewN _).drewN _, ((hf1.out.trans' hf2.out).drewN _).drewN _⟩ | exact ⟨hk2.out.drewN _, (hf1.out.trans' hf2.out).drewN _⟩) ?_
    rintro w3 ⟨hk3, hf3⟩
    obtain ⟨c1, c2, c3, c4⟩ := hk3.four HBx.out HTx.out
    obtain ⟨c5, c6, c7, c8⟩ := hk3.four HBy.out HTy.out
    have hfz := hk3.free (y * 4 + 2)
    replace hk3 := Lib.hid hk3
    replace hf3 := Lib.hid hf3
    go_still_tail 12, (by kernel_rfl)
    change wpList _ _ _ _ _ w3.drew
    go_wp2
    clear c1 c2 c3 c4 c5 c6 c7 c8 hfz
    refine gen_world (S := fun w4 => KS w4 base kb (.slice (some ⟨g, 0, none⟩) n cap) (L2.set y ⟨y, sy, mxI my mx, cy⟩) ∧ Fr kb (some g) w w4) ⟨?_, ?_⟩ ?_
    · exact KS.drewN (hk3.out.set y 2 _ ⟨y, sy, mxI my mx, cy⟩ HBy.out (by omega) (by rw [HTy.out]; rfl)) 1
    · exact (hf3.out.set_row _ _ _).drew
    rintro w4 ⟨hk4, hf4⟩
    have ha1 : at_ (L2.set y ⟨y, sy, mxI my mx, cy⟩) y = ⟨y, sy, mxI my mx, cy⟩ := by rw [at_set _ _ _ _ HBy.out, if_pos rfl]
    have ha2 : at_ (L2.set y ⟨y, sy, mxI my mx, cy⟩) x = ⟨x, sx, mx, cx⟩ := by rw [at_set _ _ _ _ HBy.out, if_neg HNxy.out, HTx.out]
    obtain ⟨c1, c2, c3, c4⟩ := hk4.four (by rw [List.length_set]; exact HBy.out) ha1
    obtain ⟨c5, c6, c7, c8⟩ := hk4.four (by rw [List.length_set]; exact HBx.out) ha2
    have hfz := hk4.free (y * 4 + 3)
    replace hk4 := Lib.hid hk4
    replace hf4 := Lib.hid hf4
    replace ha1 := Lib.hid ha1
    replace ha2 := Lib.hid ha2
    go_still_tail 12, (by kernel_rfl)
    change wpList _ _ _ _ _ w4.drew
    go_wp2
    clear c1 c2 c3 c4 c5 c6 c7 c8 hfz
    refine gen_world (S := fun w5 => KS w5 base kb (.slice (some ⟨g, 0, none⟩) n cap) ((L2.set y ⟨y, sy, mxI my mx, cy⟩).set y ⟨y, sy, mxI my mx, mnI cy cx⟩) ∧ Fr kb (some g) w w5) ⟨?_, ?_⟩ ?_
    · exact KS.drewN (hk4.out.set y 3 _ ⟨y, sy, mxI my mx, mnI cy cx⟩ (by rw [List.length_set]; exact HBy.out) (by omega) (by rw [ha1.out]; rfl)) 1
    · exact (hf4.out.set_row _ _ _).drew
    rw [List.set_set]
    rintro w5 ⟨hk5, hf5⟩
    have hb1 : at_ (L2.set y ⟨y, sy, mxI my mx, mnI cy cx⟩) y = ⟨y, sy, mxI my mx, mnI cy cx⟩ := by rw [at_set _ _ _ _ HBy.out, if_pos rfl]
    have hb2 : at_ (L2.set y ⟨y, sy, mxI my mx, mnI cy cx⟩) x = ⟨x, sx, mx, cx⟩ := by rw [at_set _ _ _ _ HBy.out, if_neg HNxy.out, HTx.out]
    obtain ⟨c1, c2, c3, c4⟩ := hk5.four (by rw [List.length_set]; exact HBy.out) hb1
    obtain ⟨c5, c6, c7, c8⟩ := hk5.four (by rw [List.length_set]; exact HBx.out) hb2
    have hfz := hk5.free (y * 4 + 1)
    have hfz2 := hk5.free (x * 4)
    replace hk5 := Lib.hid hk5
    replace hf5 := Lib.hid hf5
    replace hb1 := Lib.hid hb1
    replace hb2 := Lib.hid hb2
    go_still_tail 11, (by kernel_rfl)
    change wpList _ _ _ _ _ w5.drew
    go_wp2
    go_ret
    refine ⟨rfl, tie_done _ hk5.out hr2.out HG.out hi hj HTy.out HTx.out ?_ ?_ ?_ HNyx.out, ((hf5.out.set_row _ _ _).set_row _ _ _).drew⟩
    · rw [HMX.out, HMY.out]; unfold mxI; omega
    · have q1 := Hcx.out; have q2 := Hcy.out; unfold mnI; omega
    · first | exact Or.inl ⟨Hrx.out, Hry.out⟩ | exact Or.inr ⟨Hrx.out, Hry.out⟩
  · have d8 : decide (sx < sy) = false := decide_eq_false hlt
    go_quiet (fail)
    go_wp2
    clear c1 c2 c3 c4 c5 c6 c7 c8 d8 hlt hpe
    refine gen_world (S := fun w3 => KS w3 base kb (.slice (some ⟨g, 0, none⟩) n cap) L2 ∧ Fr kb (some g) w w3) (by first | exact ⟨(hk2.out.drewN _).drewN _, ((hf1.out.trans' hf2.out).drewN _).drewN _⟩ | exact ⟨hk2.out.drewN _, (hf1.out.trans' hf2.out).drewN _⟩) ?_
    rintro w3 ⟨hk3, hf3⟩
    obtain ⟨c1, c2, c3, c4⟩ := hk3.four HBx.out HTx.out
    obtain ⟨c5, c6, c7, c8⟩ := hk3.four HBy.out HTy.out
    have hfz := hk3.free (x * 4 + 2)
    replace hk3 := Lib.hid hk3
    replace hf3 := Lib.hid hf3
    go_still_tail 12, (by kernel_rfl)
    change wpList _ _ _ _ _ w3.drew
    go_wp2
    clear c1 c2 c3 c4 c5 c6 c7 c8 hfz
    refine gen_world (S := fun w4 => KS w4 base kb (.slice (some ⟨g, 0, none⟩) n cap) (L2.set x ⟨x, sx, mxI mx my, cx⟩) ∧ Fr kb (some g) w w4) ⟨?_, ?_⟩ ?_
    · exact KS.drewN (hk3.out.set x 2 _ ⟨x, sx, mxI mx my, cx⟩ HBx.out (by omega) (by rw [HTx.out]; rfl)) 1
    · exact (hf3.out.set_row _ _ _).drew
    rintro w4 ⟨hk4, hf4⟩
    have ha1 : at_ (L2.set x ⟨x, sx, mxI mx my, cx⟩) x = ⟨x, sx, mxI mx my, cx⟩ := by rw [at_set _ _ _ _ HBx.out, if_pos rfl]
    have ha2 : at_ (L2.set x ⟨x, sx, mxI mx my, cx⟩) y = ⟨y, sy, my, cy⟩ := by rw [at_set _ _ _ _ HBx.out, if_neg HNyx.out, HTy.out]
    obtain ⟨c1, c2, c3, c4⟩ := hk4.four (by rw [List.length_set]; exact HBx.out) ha1
    obtain ⟨c5, c6, c7, c8⟩ := hk4.four (by rw [List.length_set]; exact HBy.out) ha2
    have hfz := hk4.free (x * 4 + 3)
    replace hk4 := Lib.hid hk4
    replace hf4 := Lib.hid hf4
    replace ha1 := Lib.hid ha1
    replace ha2 := Lib.hid ha2
    go_still_tail 12, (by kernel_rfl)
    change wpList _ _ _ _ _ w4.drew
    go_wp2
    clear c1 c2 c3 c4 c5 c6 c7 c8 hfz
    refine gen_world (S := fun w5 => KS w5 base kb (.slice (some ⟨g, 0, none⟩) n cap) ((L2.set x ⟨x, sx, mxI mx my, cx⟩).set x ⟨x, sx, mxI mx my, mnI cx cy⟩) ∧ Fr kb (some g) w w5) ⟨?_, ?_⟩ ?_
    · exact KS.drewN (hk4.out.set x 3 _ ⟨x, sx, mxI mx my, mnI cx cy⟩ (by rw [List.length_set]; exact HBx.out) (by omega) (by rw [ha1.out]; rfl)) 1
    · exact (hf4.out.set_row _ _ _).drew
    rw [List.set_set]
    rintro w5 ⟨hk5, hf5⟩
    have hb1 : at_ (L2.set x ⟨x, sx, mxI mx my, mnI cx cy⟩) x = ⟨x, sx, mxI mx my, mnI cx cy⟩ := by rw [at_set _ _ _ _ HBx.out, if_pos rfl]
    have hb2 : at_ (L2.set x ⟨x, sx, mxI mx my, mnI cx cy⟩) y = ⟨y, sy, my, cy⟩ := by rw [at_set _ _ _ _ HBx.out, if_neg HNyx.out, HTy.out]
    obtain ⟨c1, c2, c3, c4⟩ := hk5.four (by rw [List.length_set]; exact HBx.out) hb1
    obtain ⟨c5, c6, c7, c8⟩ := hk5.four (by rw [List.length_set]; exact HBy.out) hb2
    have hfz := hk5.free (x * 4 + 1)
    have hfz2 := hk5.free (y * 4)
    replace hk5 := Lib.hid hk5
    replace hf5 := Lib.hid hf5
    replace hb1 := Lib.hid hb1
    replace hb2 := Lib.hid hb2
    go_still_tail 11, (by kernel_rfl)
    change wpList _ _ _ _ _ w5.drew
    go_wp2
    go_ret
    refine ⟨rfl, tie_done _ hk5.out hr2.out HG.out hi hj HTx.out HTy.out ?_ ?_ ?_ HNxy.out, ((hf5.out.set_row _ _ _).set_row _ _ _).drew⟩
    · rw [HMX.out, HMY.out]; unfold mxI; omega
    · have q1 := Hcx.out; have q2 := Hcy.out; unfold mnI; omega
    · first | exact Or.inl ⟨Hrx.out, Hry.out⟩ | exact Or.inr ⟨Hrx.out, Hry.out⟩


theorem tie_y {w : World} {base kb : Nat} {v : Value} {n : Nat} {C : Nat → Nat} {M : Nat → Int} (h : KA w base kb v n C M) (i j : Nat) (hi : i < n) (hj : j < n) (hs : ¬ C i = C j)
    (mx my : Int) (hmx : M i = mx) (hmy : M j = my) (d1 : decide (0 < mx) = true) (d2 : decide (0 < my) = false) :
    Calls Try.prog 19 #[.pointer (some ⟨kb, 0, none⟩), .int .i64 i, .int .i64 j] w fun e w' => e = .returned (.bool true) ∧ KA w' base kb v n (tieC C i j) (tieM C M i j) ∧ Fr kb v.ownBlock w w' := by
  obtain ⟨L, rt, dp, hk, hr, hg⟩ := h
  have hl := hr.len
  obtain ⟨g, cap, rfl, hc1, hc2, hgk⟩ := hk.form (by omega)
  rw [hl] at hk hc1 ⊢
  have hu : cap ≤ 9223372036854775807 := by unfold maxLen at hc2; exact hc2
  have ht := top_in kb g cap base n i L C M rt dp w hi hk hr hc1 hu hgk
  have ht2 := fun (w1 : World) (L1 : List Th) (hk1 : KS w1 base kb (.slice (some ⟨g, 0, none⟩) n cap) L1) (hr1 : Rep L1 n C M rt dp) => top_in kb g cap base n j L1 C M rt dp w1 hj hk1 hr1 hc1 hu hgk
  have HG := Lib.hid hg
  have hne : ¬ rt i = rt j := fun q => hs ((hr.same i j hi hj).mp q)
  have hne2 : ¬ rt j = rt i := fun q => hne q.symm
  obtain ⟨x, Hrx⟩ : ∃ r, Hid (rt i = r) := ⟨_, Lib.hid rfl⟩
  obtain ⟨y, Hry⟩ : ∃ r, Hid (rt j = r) := ⟨_, Lib.hid rfl⟩
  have hcs : ∀ (L2 : List Th), Rep L2 n C M rt dp → ∃ sx sy : Int, x < L2.length ∧ y < L2.length ∧ at_ L2 x = ⟨x, sx, mx, (C i : Int)⟩ ∧ at_ L2 y = ⟨y, sy, my, (C j : Int)⟩ := by
    intro L2 hr2
    rw [← Hrx.out, ← Hry.out]
    refine ⟨_, _, by rw [hr2.len]; exact hr2.rt_lt i hi, by rw [hr2.len]; exact hr2.rt_lt j hj, at_eta _ _ (hr2.root_rt i hi) rfl ?_ (hr2.least i hi), at_eta _ _ (hr2.root_rt j hj) rfl ?_ (hr2.least j hj)⟩
    · rw [hr2.mark i hi, hmx]
    · rw [hr2.mark j hj, hmy]
  rw [Hrx.out] at ht hne hne2
  rw [Hry.out] at ht2 hne hne2
  replace hcs := Lib.hid hcs
  have HMX := Lib.hid hmx
  have HMY := Lib.hid hmy
  have HS := Lib.hid hs
  have HNxy := Lib.hid hne
  have HNyx := Lib.hid hne2
  obtain ⟨cx, Hcx⟩ : ∃ r : Int, Hid ((C i : Int) = r) := ⟨_, Lib.hid rfl⟩
  obtain ⟨cy, Hcy⟩ : ∃ r : Int, Hid ((C j : Int) = r) := ⟨_, Lib.hid rfl⟩
  rw [Hcx.out, Hcy.out] at hcs
  clear hr hl hg hk hc1 hc2 hu hs hmx hmy
  go_enter Try.func19, Try.ntmps19
  go_wp2_with (first | (go_at_call 25; (with_reducible refine ht.mono ?_); rintro e w1 ⟨rfl, ⟨L1, hk1, hr1⟩, hf1⟩; replace ht2 := ht2 _ _ hk1 hr1; replace hk1 := Lib.hid hk1; replace hr1 := Lib.hid hr1; replace hf1 := Lib.hid hf1) | (go_at_call 25; (with_reducible refine ht2.mono ?_); rintro e w2 ⟨rfl, ⟨L2, hk2, hr2⟩, hf2⟩; have hpe := ptr_other hk2 x y HNxy.out; obtain ⟨sx, sy, hb1, hb2, ha1, ha2⟩ := hcs.out _ hr2; obtain ⟨c1, c2, c3, c4⟩ := hk2.four hb1 ha1; obtain ⟨c5, c6, c7, c8⟩ := hk2.four hb2 ha2; have HBx := Lib.hid hb1; have HBy := Lib.hid hb2; have HTx := Lib.hid ha1; have HTy := Lib.hid ha2; clear hb1 hb2 ha1 ha2; replace hk2 := Lib.hid hk2; replace hr2 := Lib.hid hr2; replace hf2 := Lib.hid hf2))
  go_quiet (fail)
  go_wp2
  by_cases hlt : sx < sy
  · have d8 : decide (sx < sy) = true := decide_eq_true hlt
    go_quiet (fail)
    go_wp2
    clear c1 c2 c3 c4 c5 c6 c7 c8 d8 hlt hpe
    refine gen_world (S := fun w3 => KS w3 base kb (.slice (some ⟨g, 0, none⟩) n cap) L2 ∧ Fr kb (some g) w w3) (by first | exact ⟨(hk2.out.drewN _).drewN _, ((hf1.out.trans' hf2.out).drewN _).drewN _⟩ | exact ⟨hk2.out.drewN _, (hf1.out.trans' hf2.out).drewN _⟩) ?_
    rintro w3 ⟨hk3, hf3⟩
    obtain ⟨c1, c2, c3, c4⟩ := hk3.four HBx.out HTx.out
    obtain ⟨c5, c6, c7, c8⟩ := hk3.four HBy.out HTy.out
    have hfz := hk3.free (y * 4 + 2)
    replace hk3 := Lib.hid hk3
    replace hf3 := Lib.hid hf3
    go_still_tail 12, (by kernel_rfl)
    change wpList _ _ _ _ _ w3.drew
    go_wp2
    clear c1 c2 c3 c4 c5 c6 c7 c8 hfz
    refine gen_world (S := fun w4 => KS w4 base kb (.slice (some ⟨g, 0, none⟩) n cap) (L2.set y ⟨y, sy, mxI my mx, cy⟩) ∧ Fr kb (some g) w w4) ⟨?_, ?_⟩ ?_
    · exact KS.drewN (hk3.out.set y 2 _ ⟨y, sy, mxI my mx, cy⟩ HBy.out (by omega) (by rw [HTy.out]; rfl)) 1
    · exact (hf3.out.set_row _ _ _).drew
    rintro w4 ⟨hk4, hf4⟩
    have ha1 : at_ (L2.set y ⟨y, sy, mxI my mx, cy⟩) y = ⟨y, sy, mxI my mx, cy⟩ := by rw [at_set _ _ _ _ HBy.out, if_pos rfl]
    have ha2 : at_ (L2.set y ⟨y, sy, mxI my mx, cy⟩) x = ⟨x, sx, mx, cx⟩ := by rw [at_set _ _ _ _ HBy.out, if_neg HNxy.out, HTx.out]
    obtain ⟨c1, c2, c3, c4⟩ := hk4.four (by rw [List.length_set]; exact HBy.out) ha1
    obtain ⟨c5, c6, c7, c8⟩ := hk4.four (by rw [List.length_set]; exact HBx.out) ha2
    have hfz := hk4.free (y * 4 + 3)
    replace hk4 := Lib.hid hk4
    replace hf4 := Lib.hid hf4
    replace ha1 := Lib.hid ha1
    replace ha2 := Lib.hid ha2
    go_still_tail 12, (by kernel_rfl)
    change wpList _ _ _ _ _ w4.drew
    go_wp2
    clear c1 c2 c3 c4 c5 c6 c7 c8 hfz
    refine gen_world (S := fun w5 => KS w5 base kb (.slice (some ⟨g, 0, none⟩) n cap) ((L2.set y ⟨y, sy, mxI my mx, cy⟩).set y ⟨y, sy, mxI my mx, mnI cy cx⟩) ∧ Fr kb (some g) w w5) ⟨?_, ?_⟩ ?_
    · exact KS.drewN (hk4.out.set y 3 _ ⟨y, sy, mxI my mx, mnI cy cx⟩ (by rw [List.length_set]; exact HBy.out) (by omega) (by rw [ha1.out]; rfl)) 1
    · exact (hf4.out.set_row _ _ _).drew
    rw [List.set_set]
    rintro w5 ⟨hk5, hf5⟩
    have hb1 : at_ (L2.set y ⟨y, sy, mxI my mx, mnI cy cx⟩) y = ⟨y, sy, mxI my mx, mnI cy cx⟩ := by rw [at_set _ _ _ _ HBy.out, if_pos rfl]
    have hb2 : at_ (L2.set y ⟨y, sy, mxI my mx, mnI cy cx⟩) x = ⟨x, sx, mx, cx⟩ := by rw [at_set _ _ _ _ HBy.out, if_neg HNxy.out, HTx.out]
    obtain ⟨c1, c2, c3, c4⟩ := hk5.four (by rw [List.length_set]; exact HBy.out) hb1
    obtain ⟨c5, c6, c7, c8⟩ := hk5.four (by rw [List.length_set]; exact HBx.out) hb2
    have hfz := hk5.free (y * 4 + 1)
    have hfz2 := hk5.free (x * 4)
    replace hk5 := Lib.hid hk5
    replace hf5 := Lib.hid hf5
    replace hb1 := Lib.hid hb1
    replace hb2 := Lib.hid hb2
    go_still_tail 11, (by kernel_rfl)
    change wpList _ _ _ _ _ w5.drew
    go_wp2
    go_ret
    refine ⟨rfl, tie_done _ hk5.out hr2.out HG.out hi hj HTy.out HTx.out ?_ ?_ ?_ HNyx.out, ((hf5.out.set_row _ _ _).set_row _ _ _).drew⟩
    · rw [HMX.out, HMY.out]; unfold mxI; omega
    · have q1 := Hcx.out; have q2 := Hcy.out; unfold mnI; omega
    · first | exact Or.inl ⟨Hrx.out, Hry.out⟩ | exact Or.inr ⟨Hrx.out, Hry.out⟩
  · have d8 : decide (sx < sy) = false := decide_eq_false hlt
    go_quiet (fail)
    go_wp2
    clear c1 c2 c3 c4 c5 c6 c7 c8 d8 hlt hpe
    refine gen_world (S := fun w3 => KS w3 base kb (.slice (some ⟨g, 0, none⟩) n cap) L2 ∧ Fr kb (some g) w w3) (by first | exact ⟨(hk2.out.drewN _).drewN _, ((hf1.out.trans' hf2.out).drewN _).drewN _⟩ | exact ⟨hk2.out.drewN _, (hf1.out.trans' hf2.out).drewN _⟩) ?_
    rintro w3 ⟨hk3, hf3⟩
    obtain ⟨c1, c2, c3, c4⟩ := hk3.four HBx.out HTx.out
    obtain ⟨c5, c6, c7, c8⟩ := hk3.four HBy.out HTy.out
    have hfz := hk3.free (x * 4 + 2)
    replace hk3 := Lib.hid hk3
    replace hf3 := Lib.hid hf3
    go_still_tail 12, (by kernel_rfl)
    change wpList _ _ _ _ _ w3.drew
    go_wp2
    clear c1 c2 c3 c4 c5 c6 c7 c8 hfz
    refine gen_world (S := fun w4 => KS w4 base kb (.slice (some ⟨g, 0, none⟩) n cap) (L2.set x ⟨x, sx, mxI mx my, cx⟩) ∧ Fr kb (some g) w w4) ⟨?_, ?_⟩ ?_
    · exact KS.drewN (hk3.out.set x 2 _ ⟨x, sx, mxI mx my, cx⟩ HBx.out (by omega) (by rw [HTx.out]; rfl)) 1
    · exact (hf3.out.set_row _ _ _).drew
    rintro w4 ⟨hk4, hf4⟩
    have ha1 : at_ (L2.set x ⟨x, sx, mxI mx my, cx⟩) x = ⟨x, sx, mxI mx my, cx⟩ := by rw [at_set _ _ _ _ HBx.out, if_pos rfl]
    have ha2 : at_ (L2.set x ⟨x, sx, mxI mx my, cx⟩) y = ⟨y, sy, my, cy⟩ := by rw [at_set _ _ _ _ HBx.out, if_neg HNyx.out, HTy.out]
    obtain ⟨c1, c2, c3, c4⟩ := hk4.four (by rw [List.length_set]; exact HBx.out) ha1
    obtain ⟨c5, c6, c7, c8⟩ := hk4.four (by rw [List.length_set]; exact HBy.out) ha2
    have hfz := hk4.free (x * 4 + 3)
    replace hk4 := Lib.hid hk4
    replace hf4 := Lib.hid hf4
    replace ha1 := Lib.hid ha1
    replace ha2 := Lib.hid ha2
    go_still_tail 12, (by kernel_rfl)
    change wpList _ _ _ _ _ w4.drew
    go_wp2
    clear c1 c2 c3 c4 c5 c6 c7 c8 hfz
    refine gen_world (S := fun w5 => KS w5 base kb (.slice (some ⟨g, 0, none⟩) n cap) ((L2.set x ⟨x, sx, mxI mx my, cx⟩).set x ⟨x, sx, mxI mx my, mnI cx cy⟩) ∧ Fr kb (some g) w w5) ⟨?_, ?_⟩ ?_
    · exact KS.drewN (hk4.out.set x 3 _ ⟨x, sx, mxI mx my, mnI cx cy⟩ (by rw [List.length_set]; exact HBx.out) (by omega) (by rw [ha1.out]; rfl)) 1
    · exact (hf4.out.set_row _ _ _).drew
    rw [List.set_set]
    rintro w5 ⟨hk5, hf5⟩
    have hb1 : at_ (L2.set x ⟨x, sx, mxI mx my, mnI cx cy⟩) x = ⟨x, sx, mxI mx my, mnI cx cy⟩ := by rw [at_set _ _ _ _ HBx.out, if_pos rfl]
    have hb2 : at_ (L2.set x ⟨x, sx, mxI mx my, mnI cx cy⟩) y = ⟨y, sy, my, cy⟩ := by rw [at_set _ _ _ _ HBx.out, if_neg HNyx.out, HTy.out]
    obtain ⟨c1, c2, c3, c4⟩ := hk5.four (by rw [List.length_set]; exact HBx.out) hb1
    obtain ⟨c5, c6, c7, c8⟩ := hk5.four (by rw [List.length_set]; exact HBy.out) hb2
    have hfz := hk5.free (x * 4 + 1)
    have hfz2 := hk5.free (y * 4)
    replace hk5 := Lib.hid hk5
    replace hf5 := Lib.hid hf5
    replace hb1 := Lib.hid hb1
    replace hb2 := Lib.hid hb2
    go_still_tail 11, (by kernel_rfl)
    change wpList _ _ _ _ _ w5.drew
    go_wp2
    go_ret
    refine ⟨rfl, tie_done _ hk5.out hr2.out HG.out hi hj HTx.out HTy.out ?_ ?_ ?_ HNxy.out, ((hf5.out.set_row _ _ _).set_row _ _ _).drew⟩
    · rw [HMX.out, HMY.out]; unfold mxI; omega
    · have q1 := Hcx.out; have q2 := Hcy.out; unfold mnI; omega
    · first | exact Or.inl ⟨Hrx.out, Hry.out⟩ | exact Or.inr ⟨Hrx.out, Hry.out⟩


theorem tie_e {w : World} {base kb : Nat} {v : Value} {n : Nat} {C : Nat → Nat} {M : Nat → Int} (h : KA w base kb v n C M) (i j : Nat) (hi : i < n) (hj : j < n) (hs : ¬ C i = C j)
    (mx my : Int) (hmx : M i = mx) (hmy : M j = my) (d1 : decide (0 < mx) = true) (d2 : decide (0 < my) = true) (d3 : (mx != my) = false) :
    Calls Try.prog 19 #[.pointer (some ⟨kb, 0, none⟩), .int .i64 i, .int .i64 j] w fun e w' => e = .returned (.bool true) ∧ KA w' base kb v n (tieC C i j) (tieM C M i j) ∧ Fr kb v.ownBlock w w' := by
  obtain ⟨L, rt, dp, hk, hr, hg⟩ := h
  have hl := hr.len
  obtain ⟨g, cap, rfl, hc1, hc2, hgk⟩ := hk.form (by omega)
  rw [hl] at hk hc1 ⊢
  have hu : cap ≤ 9223372036854775807 := by unfold maxLen at hc2; exact hc2
  have ht := top_in kb g cap base n i L C M rt dp w hi hk hr hc1 hu hgk
  have ht2 := fun (w1 : World) (L1 : List Th) (hk1 : KS w1 base kb (.slice (some ⟨g, 0, none⟩) n cap) L1) (hr1 : Rep L1 n C M rt dp) => top_in kb g cap base n j L1 C M rt dp w1 hj hk1 hr1 hc1 hu hgk
  have HG := Lib.hid hg
  have hne : ¬ rt i = rt j := fun q => hs ((hr.same i j hi hj).mp q)
  have hne2 : ¬ rt j = rt i := fun q => hne q.symm
  obtain ⟨x, Hrx⟩ : ∃ r, Hid (rt i = r) := ⟨_, Lib.hid rfl⟩
  obtain ⟨y, Hry⟩ : ∃ r, Hid (rt j = r) := ⟨_, Lib.hid rfl⟩
  have hcs : ∀ (L2 : List Th), Rep L2 n C M rt dp → ∃ sx sy : Int, x < L2.length ∧ y < L2.length ∧ at_ L2 x = ⟨x, sx, mx, (C i : Int)⟩ ∧ at_ L2 y = ⟨y, sy, my, (C j : Int)⟩ := by
    intro L2 hr2
    rw [← Hrx.out, ← Hry.out]
    refine ⟨_, _, by rw [hr2.len]; exact hr2.rt_lt i hi, by rw [hr2.len]; exact hr2.rt_lt j hj, at_eta _ _ (hr2.root_rt i hi) rfl ?_ (hr2.least i hi), at_eta _ _ (hr2.root_rt j hj) rfl ?_ (hr2.least j hj)⟩
    · rw [hr2.mark i hi, hmx]
    · rw [hr2.mark j hj, hmy]
  rw [Hrx.out] at ht hne hne2
  rw [Hry.out] at ht2 hne hne2
  replace hcs := Lib.hid hcs
  have HMX := Lib.hid hmx
  have HMY := Lib.hid hmy
  have HS := Lib.hid hs
  have HNxy := Lib.hid hne
  have HNyx := Lib.hid hne2
  obtain ⟨cx, Hcx⟩ : ∃ r : Int, Hid ((C i : Int) = r) := ⟨_, Lib.hid rfl⟩
  obtain ⟨cy, Hcy⟩ : ∃ r : Int, Hid ((C j : Int) = r) := ⟨_, Lib.hid rfl⟩
  rw [Hcx.out, Hcy.out] at hcs
  clear hr hl hg hk hc1 hc2 hu hs hmx hmy
  go_enter Try.func19, Try.ntmps19
  go_wp2_with (first | (go_at_call 25; (with_reducible refine ht.mono ?_); rintro e w1 ⟨rfl, ⟨L1, hk1, hr1⟩, hf1⟩; replace ht2 := ht2 _ _ hk1 hr1; replace hk1 := Lib.hid hk1; replace hr1 := Lib.hid hr1; replace hf1 := Lib.hid hf1) | (go_at_call 25; (with_reducible refine ht2.mono ?_); rintro e w2 ⟨rfl, ⟨L2, hk2, hr2⟩, hf2⟩; have hpe := ptr_other hk2 x y HNxy.out; obtain ⟨sx, sy, hb1, hb2, ha1, ha2⟩ := hcs.out _ hr2; obtain ⟨c1, c2, c3, c4⟩ := hk2.four hb1 ha1; obtain ⟨c5, c6, c7, c8⟩ := hk2.four hb2 ha2; have HBx := Lib.hid hb1; have HBy := Lib.hid hb2; have HTx := Lib.hid ha1; have HTy := Lib.hid ha2; clear hb1 hb2 ha1 ha2; replace hk2 := Lib.hid hk2; replace hr2 := Lib.hid hr2; replace hf2 := Lib.hid hf2))
  go_quiet (fail)
  go_wp2
  by_cases hlt : sx < sy
  · have d8 : decide (sx < sy) = true := decide_eq_true hlt
    go_quiet (fail)
    go_wp2
    clear c1 c2 c3 c4 c5 c6 c7 c8 d8 hlt hpe
    refine gen_world (S := fun w3 => KS w3 base kb (.slice (some ⟨g, 0, none⟩) n cap) L2 ∧ Fr kb (some g) w w3) (by first | exact ⟨(hk2.out.drewN _).drewN _, ((hf1.out.trans' hf2.out).drewN _).drewN _⟩ | exact ⟨hk2.out.drewN _, (hf1.out.trans' hf2.out).drewN _⟩) ?_
    rintro w3 ⟨hk3, hf3⟩
    obtain ⟨c1, c2, c3, c4⟩ := hk3.four HBx.out HTx.out
    obtain ⟨c5, c6, c7, c8⟩ := hk3.four HBy.out HTy.out
    have hfz := hk3.free (y * 4 + 2)
    replace hk3 := Lib.hid hk3
    replace hf3 := Lib.hid hf3
    go_still_tail 12, (by kernel_rfl)
    change wpList _ _ _ _ _ w3.drew
    go_wp2
    clear c1 c2 c3 c4 c5 c6 c7 c8 hfz
    refine gen_world (S := fun w4 => KS w4 base kb (.slice (some ⟨g, 0, none⟩) n cap) (L2.set y ⟨y, sy, mxI my mx, cy⟩) ∧ Fr kb (some g) w w4) ⟨?_, ?_⟩ ?_
    · exact KS.drewN (hk3.out.set y 2 _ ⟨y, sy, mxI my mx, cy⟩ HBy.out (by omega) (by rw [HTy.out]; rfl)) 1
    · exact (hf3.out.set_row _ _ _).drew
    rintro w4 ⟨hk4, hf4⟩
    have ha1 : at_ (L2.set y ⟨y, sy, mxI my mx, cy⟩) y = ⟨y, sy, mxI my mx, cy⟩ := by rw [at_set _ _ _ _ HBy.out, if_pos rfl]
    have ha2 : at_ (L2.set y ⟨y, sy, mxI my mx, cy⟩) x = ⟨x, sx, mx, cx⟩ := by rw [at_set _ _ _ _ HBy.out, if_neg HNxy.out, HTx.out]
    obtain ⟨c1, c2, c3, c4⟩ := hk4.four (by rw [List.length_set]; exact HBy.out) ha1
    obtain ⟨c5, c6, c7, c8⟩ := hk4.four (by rw [List.length_set]; exact HBx.out) ha2
    have hfz := hk4.free (y * 4 + 3)
    replace hk4 := Lib.hid hk4
    replace hf4 := Lib.hid hf4
    replace ha1 := Lib.hid ha1
    replace ha2 := Lib.hid ha2
    go_still_tail 12, (by kernel_rfl)
    change wpList _ _ _ _ _ w4.drew
    go_wp2
    clear c1 c2 c3 c4 c5 c6 c7 c8 hfz
    refine gen_world (S := fun w5 => KS w5 base kb (.slice (some ⟨g, 0, none⟩) n cap) ((L2.set y ⟨y, sy, mxI my mx, cy⟩).set y ⟨y, sy, mxI my mx, mnI cy cx⟩) ∧ Fr kb (some g) w w5) ⟨?_, ?_⟩ ?_
    · exact KS.drewN (hk4.out.set y 3 _ ⟨y, sy, mxI my mx, mnI cy cx⟩ (by rw [List.length_set]; exact HBy.out) (by omega) (by rw [ha1.out]; rfl)) 1
    · exact (hf4.out.set_row _ _ _).drew
    rw [List.set_set]
    rintro w5 ⟨hk5, hf5⟩
    have hb1 : at_ (L2.set y ⟨y, sy, mxI my mx, mnI cy cx⟩) y = ⟨y, sy, mxI my mx, mnI cy cx⟩ := by rw [at_set _ _ _ _ HBy.out, if_pos rfl]
    have hb2 : at_ (L2.set y ⟨y, sy, mxI my mx, mnI cy cx⟩) x = ⟨x, sx, mx, cx⟩ := by rw [at_set _ _ _ _ HBy.out, if_neg HNxy.out, HTx.out]
    obtain ⟨c1, c2, c3, c4⟩ := hk5.four (by rw [List.length_set]; exact HBy.out) hb1
    obtain ⟨c5, c6, c7, c8⟩ := hk5.four (by rw [List.length_set]; exact HBx.out) hb2
    have hfz := hk5.free (y * 4 + 1)
    have hfz2 := hk5.free (x * 4)
    replace hk5 := Lib.hid hk5
    replace hf5 := Lib.hid hf5
    replace hb1 := Lib.hid hb1
    replace hb2 := Lib.hid hb2
    go_still_tail 11, (by kernel_rfl)
    change wpList _ _ _ _ _ w5.drew
    go_wp2
    go_ret
    refine ⟨rfl, tie_done _ hk5.out hr2.out HG.out hi hj HTy.out HTx.out ?_ ?_ ?_ HNyx.out, ((hf5.out.set_row _ _ _).set_row _ _ _).drew⟩
    · rw [HMX.out, HMY.out]; unfold mxI; omega
    · have q1 := Hcx.out; have q2 := Hcy.out; unfold mnI; omega
    · first | exact Or.inl ⟨Hrx.out, Hry.out⟩ | exact Or.inr ⟨Hrx.out, Hry.out⟩
  · have d8 : decide (sx < sy) = false := decide_eq_false hlt
    go_quiet (fail)
    go_wp2
    clear c1 c2 c3 c4 c5 c6 c7 c8 d8 hlt hpe
    refine gen_world (S := fun w3 => KS w3 base kb (.slice (some ⟨g, 0, none⟩) n cap) L2 ∧ Fr kb (some g) w w3) (by first | exact ⟨(hk2.out.drewN _).drewN _, ((hf1.out.trans' hf2.out).drewN _).drewN _⟩ | exact ⟨hk2.out.drewN _, (hf1.out.trans' hf2.out).drewN _⟩) ?_
    rintro w3 ⟨hk3, hf3⟩
    obtain ⟨c1, c2, c3, c4⟩ := hk3.four HBx.out HTx.out
    obtain ⟨c5, c6, c7, c8⟩ := hk3.four HBy.out HTy.out
    have hfz := hk3.free (x * 4 + 2)
    replace hk3 := Lib.hid hk3
    replace hf3 := Lib.hid hf3
    go_still_tail 12, (by kernel_rfl)
    change wpList _ _ _ _ _ w3.drew
    go_wp2
    clear c1 c2 c3 c4 c5 c6 c7 c8 hfz
    refine gen_world (S := fun w4 => KS w4 base kb (.slice (some ⟨g, 0, none⟩) n cap) (L2.set x ⟨x, sx, mxI mx my, cx⟩) ∧ Fr kb (some g) w w4) ⟨?_, ?_⟩ ?_
    · exact KS.drewN (hk3.out.set x 2 _ ⟨x, sx, mxI mx my, cx⟩ HBx.out (by omega) (by rw [HTx.out]; rfl)) 1
    · exact (hf3.out.set_row _ _ _).drew
    rintro w4 ⟨hk4, hf4⟩
    have ha1 : at_ (L2.set x ⟨x, sx, mxI mx my, cx⟩) x = ⟨x, sx, mxI mx my, cx⟩ := by rw [at_set _ _ _ _ HBx.out, if_pos rfl]
    have ha2 : at_ (L2.set x ⟨x, sx, mxI mx my, cx⟩) y = ⟨y, sy, my, cy⟩ := by rw [at_set _ _ _ _ HBx.out, if_neg HNyx.out, HTy.out]
    obtain ⟨c1, c2, c3, c4⟩ := hk4.four (by rw [List.length_set]; exact HBx.out) ha1
    obtain ⟨c5, c6, c7, c8⟩ := hk4.four (by rw [List.length_set]; exact HBy.out) ha2
    have hfz := hk4.free (x * 4 + 3)
    replace hk4 := Lib.hid hk4
    replace hf4 := Lib.hid hf4
    replace ha1 := Lib.hid ha1
    replace ha2 := Lib.hid ha2
    go_still_tail 12, (by kernel_rfl)
    change wpList _ _ _ _ _ w4.drew
    go_wp2
    clear c1 c2 c3 c4 c5 c6 c7 c8 hfz
    refine gen_world (S := fun w5 => KS w5 base kb (.slice (some ⟨g, 0, none⟩) n cap) ((L2.set x ⟨x, sx, mxI mx my, cx⟩).set x ⟨x, sx, mxI mx my, mnI cx cy⟩) ∧ Fr kb (some g) w w5) ⟨?_, ?_⟩ ?_
    · exact KS.drewN (hk4.out.set x 3 _ ⟨x, sx, mxI mx my, mnI cx cy⟩ (by rw [List.length_set]; exact HBx.out) (by omega) (by rw [ha1.out]; rfl)) 1
    · exact (hf4.out.set_row _ _ _).drew
    rw [List.set_set]
    rintro w5 ⟨hk5, hf5⟩
    have hb1 : at_ (L2.set x ⟨x, sx, mxI mx my, mnI cx cy⟩) x = ⟨x, sx, mxI mx my, mnI cx cy⟩ := by rw [at_set _ _ _ _ HBx.out, if_pos rfl]
    have hb2 : at_ (L2.set x ⟨x, sx, mxI mx my, mnI cx cy⟩) y = ⟨y, sy, my, cy⟩ := by rw [at_set _ _ _ _ HBx.out, if_neg HNyx.out, HTy.out]
    obtain ⟨c1, c2, c3, c4⟩ := hk5.four (by rw [List.length_set]; exact HBx.out) hb1
    obtain ⟨c5, c6, c7, c8⟩ := hk5.four (by rw [List.length_set]; exact HBy.out) hb2
    have hfz := hk5.free (x * 4 + 1)
    have hfz2 := hk5.free (y * 4)
    replace hk5 := Lib.hid hk5
    replace hf5 := Lib.hid hf5
    replace hb1 := Lib.hid hb1
    replace hb2 := Lib.hid hb2
    go_still_tail 11, (by kernel_rfl)
    change wpList _ _ _ _ _ w5.drew
    go_wp2
    go_ret
    refine ⟨rfl, tie_done _ hk5.out hr2.out HG.out hi hj HTx.out HTy.out ?_ ?_ ?_ HNxy.out, ((hf5.out.set_row _ _ _).set_row _ _ _).drew⟩
    · rw [HMX.out, HMY.out]; unfold mxI; omega
    · have q1 := Hcx.out; have q2 := Hcy.out; unfold mnI; omega
    · first | exact Or.inl ⟨Hrx.out, Hry.out⟩ | exact Or.inr ⟨Hrx.out, Hry.out⟩

end Go.Proofs.Ytdopccbnnmaccaa.Kn
