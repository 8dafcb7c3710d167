/- Two knots side by side: the walk of KnotOrder. -/
import Derived.Test.YtdopccbnnmaccaaKl
import Derived.Test.YtdopccbnnmaccaaKj
import Derived.Test.YtdopccbnnmaccaaPo
namespace Go.Proofs.Ytdopccbnnmaccaa.Kn
open Go.RowKit
set_option linter.unusedVariables false
set_option linter.unusedSimpArgs false
set_option maxHeartbeats 4000000

/-- Two knots that share nothing. -/
def KK (w0 : World) (base kx ky : Nat) (sx sy : St) (w : World) : Prop :=
  ∃ vx vy, KA w base kx vx sx.n sx.C sx.M ∧ KA w base ky vy sy.n sy.C sy.M ∧ kx ≠ ky ∧ (∀ g, vx.ownBlock = some g → vy.ownBlock ≠ some g) ∧ Below base w0 w ∧ base ≤ w.heap.size
section
variable {w0 w : World} {base kx ky : Nat} {sx sy : St}
theorem KK.symm (h : KK w0 base kx ky sx sy w) : KK w0 base ky kx sy sx w := by
  obtain ⟨vx, vy, h1, h2, h3, h4, h5, h6⟩ := h
  exact ⟨vy, vx, h2, h1, Ne.symm h3, fun g e q => h4 g q e, h5, h6⟩
theorem KK.step {w' : World} {vx vy vx' : Value} {s' : St} (h1 : KA w base kx vx sx.n sx.C sx.M) (h2 : KA w base ky vy sy.n sy.C sy.M) (h3 : kx ≠ ky) (h4 : ∀ g, vx.ownBlock = some g → vy.ownBlock ≠ some g) (h5 : Below base w0 w) (h6 : base ≤ w.heap.size)
    (hk : KA w' base kx vx' s'.n s'.C s'.M) (hf : Fr kx vx.ownBlock w w') (hfr : ∀ g, vx'.ownBlock = some g → vx.ownBlock = some g ∨ w.heap.size ≤ g) : KK w0 base kx ky s' sy w' := by
  refine ⟨vx', vy, hk, h2.keep hf (Ne.symm h3) (Ne.symm (h1.apart h2)) (h2.apart h1) ?_, h3, ?_, h5.trans (h1.fr_below h6 hf), Nat.le_trans h6 hf.size⟩
  · cases hv : vy.ownBlock with
    | none => exact Or.inl rfl
    | some g => right; intro e; exact h4 g e.symm hv
  · intro g e
    rcases hfr g e with q | q
    · exact h4 g q
    · intro z; have := (h2.own_lt g z).2; omega
theorem kk_add (h : KK w0 base kx ky sx sy w) (hn : sx.n + 1 ≤ 4398046511104) : Calls Try.prog 15 #[.pointer (some ⟨kx, 0, none⟩)] w fun e w' => e = .returned (.int .i64 (sx.n : Int)) ∧ KK w0 base kx ky ⟨sx.n + 1, addC sx.n sx.C, addM sx.n sx.M⟩ sy w' := by
  obtain ⟨vx, vy, h1, h2, h3, h4, h5, h6⟩ := h
  refine (add_any h1 hn h6).mono ?_
  rintro e w' ⟨rfl, v', hk, hf, hfr⟩
  exact ⟨rfl, KK.step (s' := ⟨sx.n + 1, addC sx.n sx.C, addM sx.n sx.M⟩) h1 h2 h3 h4 h5 h6 hk hf hfr⟩
theorem kk_does (h : KK w0 base kx ky sx sy w) (a x y : Int) (hk : kd a ≠ 0) : Calls Try.prog 13 #[.pointer (some ⟨kx, 0, none⟩), opA a x y] w fun e w' => e = .returned (.bool (sx.ok (kd a) x y)) ∧ KK w0 base kx ky (sx.step (kd a) x y) sy w' := by
  obtain ⟨vx, vy, h1, h2, h3, h4, h5, h6⟩ := h
  refine (does_fr sx h1 h6 a x y (fun e => absurd e hk)).mono ?_
  rintro e w' ⟨rfl, v', hk, hf, hfr⟩
  exact ⟨rfl, KK.step h1 h2 h3 h4 h5 h6 hk hf hfr⟩
theorem kk_of (h : KK w0 base kx ky sx sy w) (a : Int) : Calls Try.prog 11 #[.pointer (some ⟨kx, 0, none⟩), .int .i64 a] w fun e w' => e = .returned (.int .i64 (ofA sx.n sx.M a)) ∧ KK w0 base kx ky sx sy w' := by
  obtain ⟨vx, vy, h1, h2, h3, h4, h5, h6⟩ := h
  refine (of_any h1 a).mono ?_
  rintro e w' ⟨rfl, hk, hf⟩
  exact ⟨rfl, KK.step h1 h2 h3 h4 h5 h6 hk hf (fun g e => Or.inl e)⟩
theorem kk_least (h : KK w0 base kx ky sx sy w) (a : Int) : Calls Try.prog 12 #[.pointer (some ⟨kx, 0, none⟩), .int .i64 a] w fun e w' => e = .returned (.int .i64 (leastA sx.n sx.C a)) ∧ KK w0 base kx ky sx sy w' := by
  obtain ⟨vx, vy, h1, h2, h3, h4, h5, h6⟩ := h
  refine (least_any h1 a).mono ?_
  rintro e w' ⟨rfl, hk, hf⟩
  exact ⟨rfl, KK.step h1 h2 h3 h4 h5 h6 hk hf (fun g e => Or.inl e)⟩
theorem kk_alike (h : KK w0 base kx ky sx sy w) (a b : Int) : Calls Try.prog 23 #[.pointer (some ⟨kx, 0, none⟩), .int .i64 a, .int .i64 b] w fun e w' => e = .returned (.bool (alikeA sx.n sx.C a b)) ∧ KK w0 base kx ky sx sy w' := by
  obtain ⟨vx, vy, h1, h2, h3, h4, h5, h6⟩ := h
  refine (alike_any h1 a b).mono ?_
  rintro e w' ⟨rfl, hk, hf⟩
  exact ⟨rfl, KK.step h1 h2 h3 h4 h5 h6 hk hf (fun g e => Or.inl e)⟩
theorem KK.alloc (h : KK w0 base kx ky sx sy w) (o : Obj) : KK w0 base kx ky sx sy (w.alloc o) := by
  obtain ⟨vx, vy, h1, h2, h3, h4, h5, h6⟩ := h
  exact ⟨vx, vy, h1.alloc o, h2.alloc o, h3, h4, h5.alloc h6 o, Nat.le_trans h6 (by simp)⟩
theorem KK.below_ (h : KK w0 base kx ky sx sy w) : Below base w0 w ∧ base ≤ w.heap.size := by
  obtain ⟨vx, vy, h1, h2, h3, h4, h5, h6⟩ := h
  exact ⟨h5, h6⟩
theorem KK.new (w : World) : KK w w.heap.size w.heap.size (w.heap.size + 1) (bare 0) (bare 0) ((w.alloc (.cells #[.slice none 0 0] 43)).alloc (.cells #[.slice none 0 0] 43)) := by
  refine ⟨.slice none 0 0, .slice none 0 0, ?_, ?_, by omega, fun g e => by simp [Value.ownBlock] at e, ((Below.refl _ _).alloc (Nat.le_refl _) _).alloc (by simp) _, by simp; omega⟩
  · have := (KA.new w w.heap.size (Nat.le_refl _)).alloc (.cells #[.slice none 0 0] 43)
    exact this.congr (fun i hi => by omega) (fun i hi => by omega)
  · have := KA.new (w.alloc (.cells #[.slice none 0 0] 43)) w.heap.size (by simp)
    simp only [World.size_alloc] at this
    exact this.congr (fun i hi => by omega) (fun i hi => by omega)
theorem KK.congr {sx' : St} (h : KK w0 base kx ky sx sy w) (hn : sx'.n = sx.n) (hC : ∀ i, i < sx.n → sx'.C i = sx.C i) (hM : ∀ i, i < sx.n → sx'.M i = sx.M i) : KK w0 base kx ky sx' sy w := by
  obtain ⟨vx, vy, h1, h2, h3, h4, h5, h6⟩ := h
  refine ⟨vx, vy, ?_, h2, h3, h4, h5, h6⟩
  rw [hn]
  exact h1.congr hC hM
theorem kk_bare {k : Nat} (h : KK w0 base kx ky (bare k) sy w) (hn : k + 1 ≤ 4398046511104) : Calls Try.prog 15 #[.pointer (some ⟨kx, 0, none⟩)] w fun e w' => e = .returned (.int .i64 (k : Int)) ∧ KK w0 base kx ky (bare (k + 1)) sy w' := by
  refine (kk_add h hn).mono ?_
  rintro e w' ⟨rfl, hk⟩
  refine ⟨rfl, hk.congr rfl (fun i hi => ?_) (fun i hi => ?_)⟩
  · show i = addC k (fun i => i) i
    unfold addC; split
    · assumption
    · rfl
  · show (0 : Int) = addM k (fun _ => 0) i
    unfold addM; split <;> rfl
end
set_option maxRecDepth 100000 in
theorem order_t (t a : Int) (w : World) (A : Option Addr) (len cap : Nat) (f : Nat → Int × Int × Int) (hsc : Sc w w.heap.size A len f) (hlen : len ≤ 9223372036854775807) :
    Calls Try.prog 6 #[.int .i64 t, .slice A len cap, .int .i64 a] w fun e w' => e = .returned (.bool true) ∧ Below w.heap.size w w' := by
  have HSC := Lib.hid hsc
  clear hsc
  obtain ⟨n, hn⟩ : ∃ n : Nat, wrap64 ((IntKind.u64.wrap t).tmod 30) = (n : Int) ∧ n < 30 := by
    refine ⟨((t % 18446744073709551616) % 30).toNat, ?_, by omega⟩
    rw [IntKind.wrap_u64, Int.tmod_eq_emod_of_nonneg (by omega)]
    unfold wrap64; omega
  obtain ⟨hn1, hn2⟩ := hn
  go_enter Try.func6, Try.ntmps6
  go_wp2_with (first | (go_at_call 8; refine (lives_any _).mono ?_; rintro e w1 ⟨rfl, hB1⟩; replace hB1 := Lib.hid hB1) | (go_at_call 9; (with_reducible refine (new_any _).mono ?_); rintro e w2 ⟨rfl, rfl⟩))
  have hk0 := Lib.hid (KK.new w1)
  clear hn1
  go_loopw [10] (fun i wr => ∃ k : Nat, i = .int .i64 k ∧ k ≤ n ∧ Hid (KK w1 w1.heap.size w1.heap.size (w1.heap.size + 1) (bare k) (bare k) wr)) (fun i _ => n - (intOf i).toNat)
  case atStart => exact ⟨0, rfl, Nat.zero_le _, hk0⟩
  case round =>
    obtain ⟨k, rfl, hk, HK⟩ := hrel
    clear hk0
    by_cases hlt : k < n
    · have q1 := fun w' (h : KK w1 w1.heap.size w1.heap.size (w1.heap.size + 1) (bare k) (bare k) w') => kk_bare h (by omega)
      have q2 := fun w' (h : KK w1 w1.heap.size w1.heap.size (w1.heap.size + 1) (bare (k + 1)) (bare k) w') => kk_bare h.symm (by omega)
      go_wp2_with (first | (go_at_call 15; (with_reducible refine (q1 _ HK.out).mono ?_); rintro e w3 ⟨rfl, hk3⟩; replace hk3 := Lib.hid hk3) | (go_at_call 15; (with_reducible refine (q2 _ hk3.out).mono ?_); rintro e w4 ⟨rfl, hk4⟩; replace hk4 := Lib.hid hk4.symm))
      go_roundw
      case rel => exact ⟨k + 1, by go_num, by omega, hk4⟩
      case measure => simp [intOf]; omega
    · obtain rfl : k = n := by omega
      clear hlt hk
      go_wp2
      have HB : Hid (∀ sx sy wx, KK w1 w1.heap.size w1.heap.size (w1.heap.size + 1) sx sy wx → Below w.heap.size w wx ∧ Sc wx w.heap.size A len f ∧ w.heap.size ≤ wx.heap.size) := by
        refine Lib.hid fun sx sy wx h => ?_
        have hb := h.below_.1
        have h2 := hB1.out.trans (hb.mono hB1.out.size)
        exact ⟨h2, HSC.out.below h2 (Nat.le_refl _), h2.size⟩
      go_loopw [11] (fun i wr => ∃ m : Nat, i = .int .i64 m ∧ m ≤ len ∧ Hid (okF k f m) ∧ Hid (KK w1 w1.heap.size w1.heap.size (w1.heap.size + 1) (fwd k f m) (bare k) wr)) (fun i _ => len - (intOf i).toNat)
      case atStart => exact ⟨0, rfl, Nat.zero_le _, Lib.hid (fun j hj => by omega), HK⟩
      case round =>
        obtain ⟨m, rfl, hm, HO, HK2⟩ := hrel
        clear HK
        by_cases hlt : m < len
        · obtain ⟨_, hsc2, hsz⟩ := HB.out _ _ _ HK2.out
          obtain ⟨b, off, rfl, hbl, e1, e2, e3⟩ := hsc2 m hlt
          obtain ⟨x1, hx1⟩ : ∃ x, (f m).1 = x := ⟨_, rfl⟩
          obtain ⟨x2, hx2⟩ : ∃ x, (f m).2.1 = x := ⟨_, rfl⟩
          obtain ⟨x3, hx3⟩ : ∃ x, (f m).2.2 = x := ⟨_, rfl⟩
          rw [hx1] at e1
          rw [hx2] at e2
          rw [hx3] at e3
          have HX : Hid ((f m).1 = x1 ∧ (f m).2.1 = x2 ∧ (f m).2.2 = x3) := Lib.hid ⟨hx1, hx2, hx3⟩
          have hbs : b < wr.heap.size := by omega
          clear hx1 hx2 hx3 hsc2 hbl
          have hkd := kind_any x1 x2 x3
          by_cases h0 : kd x1 = 0
          · rw [h0] at hkd
            have HN : Hid (okF k f (m + 1) ∧ fwd k f (m + 1) = fwd k f m) := by
              refine Lib.hid ⟨fun j hj => ?_, ?_⟩
              · by_cases e : j = m
                · subst e; intro q; rw [HX.out.1] at q; exact absurd h0 q
                · exact HO.out j (by omega)
              · show St.stepN _ _ _ _ = _
                rw [HX.out.1, h0]; rfl
            clear h0
            go_wp2_with (first | (go_at_call 14; (with_reducible refine (hkd _).mono ?_); rintro e w3 ⟨rfl, rfl⟩))
            go_roundw
            case rel => exact ⟨m + 1, by go_num, by omega, Lib.hid HN.out.1, Lib.hid (by rw [HN.out.2]; exact HK2.out.alloc _)⟩
            case measure => simp [intOf]; omega
          · have q1 := fun w' (h : KK w1 w1.heap.size w1.heap.size (w1.heap.size + 1) (fwd k f m) (bare k) w') => kk_does h x1 x2 x3 h0
            have HS : Hid (fwd k f (m + 1) = (fwd k f m).step (kd x1) x2 x3) := by
              refine Lib.hid ?_
              show St.stepN _ _ _ _ = _
              rw [HX.out.1, HX.out.2.1, HX.out.2.2]
              unfold St.stepN
              rw [if_neg h0]
            obtain ⟨ok, hok⟩ : ∃ ok, (fwd k f m).ok (kd x1) x2 x3 = ok := ⟨_, rfl⟩
            rw [hok] at q1
            have HOK := Lib.hid hok
            obtain ⟨kk, hkk⟩ : ∃ kk, kd x1 = kk := ⟨_, rfl⟩
            rw [hkk] at hkd h0 q1
            have HKK := Lib.hid hkk
            have d0 : (kk != 0) = true := by simp [h0]
            clear hok hkk h0
            cases ok with
            | true =>
              go_wp2_with (first | (go_at_call 14; (with_reducible refine (hkd _).mono ?_); rintro e w3 ⟨rfl, rfl⟩) | (go_at_call 13; (with_reducible refine (q1 _ (HK2.out.alloc _)).mono ?_); rintro e w4 ⟨rfl, hk4⟩; replace hk4 := Lib.hid hk4))
              go_roundw
              case rel =>
                refine ⟨m + 1, by go_num, by omega, Lib.hid (fun j hj => ?_), Lib.hid ?_⟩
                · by_cases e : j = m
                  · subst e; intro _; rw [HX.out.1, HX.out.2.1, HX.out.2.2]; exact HOK.out
                  · exact HO.out j (by omega)
                · rw [HS.out, HKK.out]; exact hk4.out
              case measure => simp [intOf]; omega
            | false =>
              go_wp2_with (first | (go_at_call 14; (with_reducible refine (hkd _).mono ?_); rintro e w3 ⟨rfl, rfl⟩) | (go_at_call 13; (with_reducible refine (q1 _ (HK2.out.alloc _)).mono ?_); rintro e w4 ⟨rfl, hk4⟩; replace hk4 := Lib.hid hk4))
              go_ret
              exact ⟨rfl, (HB.out _ _ _ hk4.out).1⟩
        · obtain rfl : m = len := by omega
          clear hlt hm
          go_wp2
          go_loopw [12] (fun i wr => ∃ (r : Nat) (ii : Int), i = .int .i64 ii ∧ ii + 1 = r ∧ r ≤ m ∧ Hid (KK w1 w1.heap.size w1.heap.size (w1.heap.size + 1) (fwd k f m) (bwd k f m (m - r)) wr)) (fun i _ => (intOf i + 1).toNat)
          case atStart => exact ⟨m, (m : Int) - 1, rfl, by omega, Nat.le_refl _, Lib.hid (by rw [Nat.sub_self]; exact HK2.out)⟩
          case round =>
            obtain ⟨r, ii, rfl, hr, hrm, HK3⟩ := hrel
            clear HK2
            by_cases hz : r = 0
            · have hii : ii = -1 := by omega
              subst hii
              subst hz
              clear hr hrm
              have hsm := order_same k f m HO.out
              have hnx := (fwd_good k f m).2
              have hny := (bwd_good k f m m).2
              have HK4 : Hid (KK w1 w1.heap.size w1.heap.size (w1.heap.size + 1) (fwd k f m) (bwd k f m m) wr) := HK3
              clear HK3
              obtain ⟨sx, hsx⟩ : ∃ s, fwd k f m = s := ⟨_, rfl⟩
              obtain ⟨sy, hsy⟩ : ∃ s, bwd k f m m = s := ⟨_, rfl⟩
              rw [hsx, hsy] at HK4 hsm
              rw [hsx] at hnx
              rw [hsy] at hny
              have HNX := Lib.hid hnx
              have HNY := Lib.hid hny
              replace hsm := Lib.hid hsm
              clear hsx hsy hnx hny HO
              go_wp2
              go_loopw [14] (fun i wr => ∃ j : Nat, i = .int .i64 j ∧ j ≤ k ∧ Hid (KK w1 w1.heap.size w1.heap.size (w1.heap.size + 1) sx sy wr)) (fun i _ => k - (intOf i).toNat)
              case atStart => exact ⟨0, rfl, Nat.zero_le _, HK4⟩
              case round =>
                obtain ⟨j, rfl, hj, HK5⟩ := hrel
                clear HK4
                by_cases hlt : j < k
                · have q1 := fun w' (h : KK w1 w1.heap.size w1.heap.size (w1.heap.size + 1) sx sy w') => kk_of h (j : Int)
                  have q2 := fun w' (h : KK w1 w1.heap.size w1.heap.size (w1.heap.size + 1) sx sy w') => kk_of h.symm (j : Int)
                  have q3 := fun w' (h : KK w1 w1.heap.size w1.heap.size (w1.heap.size + 1) sx sy w') => kk_least h (j : Int)
                  have q4 := fun w' (h : KK w1 w1.heap.size w1.heap.size (w1.heap.size + 1) sx sy w') => kk_least h.symm (j : Int)
                  have q5 := fun w' (h : KK w1 w1.heap.size w1.heap.size (w1.heap.size + 1) sx sy w') => kk_alike h (j : Int) a
                  have q6 := fun w' (h : KK w1 w1.heap.size w1.heap.size (w1.heap.size + 1) sx sy w') => kk_alike h.symm (j : Int) a
                  have e1 : ofA sy.n sy.M (j : Int) = ofA sx.n sx.M (j : Int) := by
                    unfold ofA
                    rw [HNX.out, HNY.out]
                    have := hsm.out.2 j hlt
                    simp [hlt, this]
                  have e2 : leastA sy.n sy.C (j : Int) = leastA sx.n sx.C (j : Int) := by
                    unfold leastA
                    rw [HNX.out, HNY.out]
                    have := hsm.out.1 j hlt
                    simp [hlt, this]
                  have e3 : alikeA sy.n sy.C (j : Int) a = alikeA sx.n sx.C (j : Int) a := by
                    unfold alikeA
                    rw [HNX.out, HNY.out]
                    have := hsm.out.1 j hlt
                    by_cases ha : 0 ≤ a ∧ a < (k : Int)
                    · have h2 := hsm.out.1 a.toNat (by omega)
                      simp [this, h2]
                    · have h1 : ¬ (0 ≤ (j : Int) ∧ (j : Int) < (k : Int) ∧ 0 ≤ a ∧ a < (k : Int) ∧ sy.C (j : Int).toNat = sy.C a.toNat) := fun z => ha ⟨z.2.2.1, z.2.2.2.1⟩
                      have h2 : ¬ (0 ≤ (j : Int) ∧ (j : Int) < (k : Int) ∧ 0 ≤ a ∧ a < (k : Int) ∧ sx.C (j : Int).toNat = sx.C a.toNat) := fun z => ha ⟨z.2.2.1, z.2.2.2.1⟩
                      rw [decide_eq_false h1, decide_eq_false h2]
                  rw [e1] at q2
                  rw [e2] at q4
                  rw [e3] at q6
                  generalize ofA sx.n sx.M (j : Int) = v1 at q1 q2
                  generalize leastA sx.n sx.C (j : Int) = v2 at q3 q4
                  generalize alikeA sx.n sx.C (j : Int) a = v3 at q5 q6
                  clear e1 e2 e3
                  go_wp2_with (first | (go_at_call 11; (with_reducible refine (q1 _ HK5.out).mono ?_); rintro e w5 ⟨rfl, hk5⟩; clear HK5; have HK5 := Lib.hid hk5; clear hk5) | (go_at_call 11; (with_reducible refine (q2 _ HK5.out).mono ?_); rintro e w5 ⟨rfl, hk5⟩; clear HK5; have HK5 := Lib.hid hk5.symm; clear hk5) | (go_at_call 12; (with_reducible refine (q3 _ HK5.out).mono ?_); rintro e w5 ⟨rfl, hk5⟩; clear HK5; have HK5 := Lib.hid hk5; clear hk5) | (go_at_call 12; (with_reducible refine (q4 _ HK5.out).mono ?_); rintro e w5 ⟨rfl, hk5⟩; clear HK5; have HK5 := Lib.hid hk5.symm; clear hk5) | (go_at_call 23; (with_reducible refine (q5 _ HK5.out).mono ?_); rintro e w5 ⟨rfl, hk5⟩; clear HK5; have HK5 := Lib.hid hk5; clear hk5) | (go_at_call 23; (with_reducible refine (q6 _ HK5.out).mono ?_); rintro e w5 ⟨rfl, hk5⟩; clear HK5; have HK5 := Lib.hid hk5.symm; clear hk5))
                  go_roundw
                  case rel => exact ⟨j + 1, by go_num, by omega, HK5⟩
                  case measure => simp [intOf]; omega
                · go_wp2
                  go_ret
                  exact ⟨rfl, (HB.out _ _ _ HK5.out).1⟩
            · obtain ⟨i0, rfl⟩ : ∃ i0, r = i0 + 1 := ⟨r - 1, by omega⟩
              obtain rfl : ii = (i0 : Int) := by omega
              clear hz hr
              have hlt : i0 < m := by omega
              obtain ⟨_, hsc2, hsz⟩ := HB.out _ _ _ HK3.out
              obtain ⟨b, off, rfl, hbl, e1, e2, e3⟩ := hsc2 i0 hlt
              obtain ⟨x1, hx1⟩ : ∃ x, (f i0).1 = x := ⟨_, rfl⟩
              obtain ⟨x2, hx2⟩ : ∃ x, (f i0).2.1 = x := ⟨_, rfl⟩
              obtain ⟨x3, hx3⟩ : ∃ x, (f i0).2.2 = x := ⟨_, rfl⟩
              have hf : f i0 = (x1, x2, x3) := by rw [← hx1, ← hx2, ← hx3]
              rw [hx1] at e1
              rw [hx2] at e2
              rw [hx3] at e3
              have hbs : b < wr.heap.size := by omega
              have hd : m - i0 = (m - (i0 + 1)) + 1 := by omega
              have he : m - 1 - (m - (i0 + 1)) = i0 := by omega
              have hS : bwd k f m (m - i0) = (bwd k f m (m - (i0 + 1))).stepN (kd x1) (fx (x1, x2, x3)) (fy (x1, x2, x3)) := by
                rw [hd]
                show St.stepN _ _ _ _ = _
                rw [he, hf]
              have hO : (bwd k f m (m - (i0 + 1))).okN (kd x1) (fx (x1, x2, x3)) (fy (x1, x2, x3)) := by
                have := (bwd_ok k f m HO.out m (Nat.le_refl _)).2 (m - (i0 + 1)) (by omega)
                rw [he, hf] at this
                exact this
              clear hx1 hx2 hx3 hsc2 hbl hf hd he
              have hkd := fun (y z : Int) => kind_any x1 y z
              have qd := fun (y z : Int) (h0 : kd x1 ≠ 0) w' (h : KK w1 w1.heap.size w1.heap.size (w1.heap.size + 1) (fwd k f m) (bwd k f m (m - (i0 + 1))) w') => kk_does h.symm x1 y z h0
              rcases kd_range x1 with h0 | h0 | h0
              · rw [h0] at hkd
                have HS : Hid (bwd k f m (m - i0) = bwd k f m (m - (i0 + 1))) := by
                  rw [h0] at hS
                  exact Lib.hid hS
                clear h0 hS hO qd
                go_wp2_with (first | (go_at_call 14; (with_reducible refine (hkd _ _ _).mono ?_); rintro e w3 ⟨rfl, rfl⟩))
                go_roundw
                case rel => exact ⟨i0, (i0 : Int) - 1, by first | rfl | go_num, by omega, by omega, Lib.hid (by rw [HS.out]; exact (((HK3.out.alloc _).alloc _).alloc _))⟩
                case measure => first | (simp [intOf]; done) | (simp [intOf]; omega)
              · have q1 := qd x2 x3 (by omega)
                rw [h0] at hkd q1
                have HS : Hid (bwd k f m (m - i0) = (bwd k f m (m - (i0 + 1))).step 1 x2 x3) := by
                  rw [h0] at hS
                  simp only [fx, fy, h0] at hS
                  exact Lib.hid hS
                have hO2 : (bwd k f m (m - (i0 + 1))).ok 1 x2 x3 = true := by
                  rw [h0] at hO
                  simp only [fx, fy, h0] at hO
                  exact hO (by decide)
                rw [hO2] at q1
                clear h0 hS hO hO2 qd
                go_wp2_with (first | (go_at_call 14; (with_reducible refine (hkd _ _ _).mono ?_); rintro e w3 ⟨rfl, rfl⟩) | (go_at_call 13; refine (q1 _ (((HK3.out.alloc _).alloc _).alloc _)).mono ?_; rintro e w4 ⟨rfl, hk4⟩; replace hk4 := Lib.hid hk4))
                go_roundw
                case rel => exact ⟨i0, (i0 : Int) - 1, by first | rfl | go_num, by omega, by omega, Lib.hid (by rw [HS.out]; exact hk4.out.symm)⟩
                case measure => first | (simp [intOf]; done) | (simp [intOf]; omega)
              · have q1 := qd x3 x2 (by omega)
                rw [h0] at hkd q1
                have HS : Hid (bwd k f m (m - i0) = (bwd k f m (m - (i0 + 1))).step 2 x3 x2) := by
                  rw [h0] at hS
                  simp only [fx, fy, h0] at hS
                  exact Lib.hid hS
                have hO2 : (bwd k f m (m - (i0 + 1))).ok 2 x3 x2 = true := by
                  rw [h0] at hO
                  simp only [fx, fy, h0] at hO
                  exact hO (by decide)
                rw [hO2] at q1
                clear h0 hS hO hO2 qd
                go_wp2_with (first | (go_at_call 14; (with_reducible refine (hkd _ _ _).mono ?_); rintro e w3 ⟨rfl, rfl⟩) | (go_at_call 13; refine (q1 _ (((HK3.out.alloc _).alloc _).alloc _)).mono ?_; rintro e w4 ⟨rfl, hk4⟩; replace hk4 := Lib.hid hk4))
                go_roundw
                case rel => exact ⟨i0, (i0 : Int) - 1, by first | rfl | go_num, by omega, by omega, Lib.hid (by rw [HS.out]; exact hk4.out.symm)⟩
                case measure => first | (simp [intOf]; done) | (simp [intOf]; omega)
end Go.Proofs.Ytdopccbnnmaccaa.Kn
