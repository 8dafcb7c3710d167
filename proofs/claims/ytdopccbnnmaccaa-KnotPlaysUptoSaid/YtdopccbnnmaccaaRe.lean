/- The walk of KnotPlays. -/
import Derived.Test.YtdopccbnnmaccaaRd
import Derived.Deep.RegionHeld3
namespace Go.Proofs.Ytdopccbnnmaccaa.Kn
open Go.RowKit
set_option linter.unusedVariables false
set_option linter.unusedSimpArgs false
set_option maxHeartbeats 8000000

set_option maxRecDepth 100000 in
theorem plays_t (w : World) (A : Option Addr) (len cap : Nat) (f : Nat → Int × Int × Int) (hsc : Sc w w.heap.size A len f) (hlen : len ≤ 1048576) :
    Calls Try.prog 4 #[.slice A len cap] w fun e w' => e = .returned (.bool true) ∧ Below w.heap.size w w' := by
  have HSC := Lib.hid hsc
  clear hsc
  go_enter Try.func4, Try.ntmps4
  go_wp2_with (first | (go_at_call 8; refine (lives_any _).mono ?_; rintro e w1 ⟨rfl, hB1⟩; replace hB1 := Lib.hid hB1) | (go_at_call 9; (with_reducible refine (new_any _).mono ?_); rintro e w2 ⟨rfl, rfl⟩))
  have hk0 := Lib.hid (KQ.new w1)
  go_loopw [5] (fun i wr => ∃ (k : Nat) (s : St), i = .int .i64 k ∧ k ≤ len ∧ s.n ≤ k ∧ Hid (KQ w1 w1.heap.size w1.heap.size (w1.heap.size + 1) [] s s wr)) (fun i _ => len - (intOf i).toNat)
  case atStart => exact ⟨0, bare 0, rfl, Nat.zero_le _, Nat.zero_le _, hk0⟩
  case round =>
    obtain ⟨k, s, rfl, hk, hs, HK⟩ := hrel
    clear hk0
    by_cases hlt : k < len
    · have hsc2 : Sc wr w.heap.size A len f ∧ w.heap.size ≤ wr.heap.size := by
        obtain ⟨hb, hb2⟩ := HK.out.below_
        have h2 := hB1.out.trans (hb.mono hB1.out.size)
        exact ⟨HSC.out.below h2 (Nat.le_refl _), h2.size⟩
      obtain ⟨hsc2, hsz⟩ := hsc2
      obtain ⟨b, off, rfl, hbl, e1, e2, e3⟩ := hsc2 k hlt
      obtain ⟨x1, hx1⟩ : ∃ x, (f k).1 = x := ⟨_, rfl⟩
      obtain ⟨x2, hx2⟩ : ∃ x, (f k).2.1 = x := ⟨_, rfl⟩
      obtain ⟨x3, hx3⟩ : ∃ x, (f k).2.2 = x := ⟨_, rfl⟩
      rw [hx1] at e1
      rw [hx2] at e2
      rw [hx3] at e3
      have hbs : b < wr.heap.size := by omega
      clear hx1 hx2 hx3 hsc2 hbl
      obtain ⟨ob, Hob⟩ : ∃ ob, Hid (wr.heap.size = ob) := ⟨_, Lib.hid rfl⟩
      have HL : Hid (KQ w1 w1.heap.size w1.heap.size (w1.heap.size + 1) [(ob, #[.int .i64 x1, .int .i64 x2, .int .i64 x3])] s s (wr.alloc (opB x1 x2 x3))) := by
        refine Lib.hid ?_
        rw [← Hob.out]
        exact HK.out.lay _
      have hkd := kind_any x1 x2 x3
      have HG := Lib.hid HK.out.good
      clear HK
      rcases kd_range x1 with h0 | h0 | h0
      · rw [h0] at hkd
        clear h0
        have q1 := fun w' (h : KQ w1 w1.heap.size w1.heap.size (w1.heap.size + 1) [(ob, #[.int .i64 x1, .int .i64 x2, .int .i64 x3])] s s w') => q_add h (by omega)
        have q2 := fun w' (h : KQ w1 w1.heap.size w1.heap.size (w1.heap.size + 1) [(ob, #[.int .i64 x1, .int .i64 x2, .int .i64 x3])] (sAdd s) s w') => r_add h (by omega)
        go_wp2_with (first | (go_at_call 14; (with_reducible refine (hkd _).mono ?_); rintro e w3 ⟨rfl, rfl⟩) | (go_at_call 15; (with_reducible refine (q1 _ (HL.out.alloc _)).mono ?_); rintro e w4 ⟨rfl, hk4⟩; replace hk4 := Lib.hid hk4) | (go_at_call 16; (with_reducible refine (q2 _ hk4.out).mono ?_); rintro e w5 ⟨rfl, hk5⟩; clear hk4; replace hk5 := Lib.hid hk5))
        clear q1 q2 HL e1 e2 e3
        obtain ⟨s', hs'⟩ : ∃ s', sAdd s = s' := ⟨_, rfl⟩
        have hn' : s'.n ≤ k + 1 := by rw [← hs']; show s.n + 1 ≤ k + 1; omega
        rw [hs'] at hk5
        have p1 := fun w' (h : KQ w1 w1.heap.size w1.heap.size (w1.heap.size + 1) [(ob, #[.int .i64 x1, .int .i64 x2, .int .i64 x3])] s' s' w') => q_of h x2
        have p2 := fun w' (h : KQ w1 w1.heap.size w1.heap.size (w1.heap.size + 1) [(ob, #[.int .i64 x1, .int .i64 x2, .int .i64 x3])] s' s' w') => r_of h x2
        have p3 := fun w' (h : KQ w1 w1.heap.size w1.heap.size (w1.heap.size + 1) [(ob, #[.int .i64 x1, .int .i64 x2, .int .i64 x3])] s' s' w') => q_least h x2
        have p4 := fun w' (h : KQ w1 w1.heap.size w1.heap.size (w1.heap.size + 1) [(ob, #[.int .i64 x1, .int .i64 x2, .int .i64 x3])] s' s' w') => r_least h x2
        have p5 := fun w' (h : KQ w1 w1.heap.size w1.heap.size (w1.heap.size + 1) [(ob, #[.int .i64 x1, .int .i64 x2, .int .i64 x3])] s' s' w') => q_alike h x2 x3
        have p6 := fun w' (h : KQ w1 w1.heap.size w1.heap.size (w1.heap.size + 1) [(ob, #[.int .i64 x1, .int .i64 x2, .int .i64 x3])] s' s' w') => r_alike h x2 x3
        generalize ofA s'.n s'.M x2 = v1 at p1 p2
        generalize leastA s'.n s'.C x2 = v2 at p3 p4
        generalize alikeA s'.n s'.C x2 x3 = v3 at p5 p6
        try rw [Hob.out]
        obtain ⟨c0, c1, c2⟩ := hk5.out.cells
        go_region_held3 (fun w' => w'.cell? ⟨ob, 1, none⟩ = some (.int .i64 x2) ∧ w'.cell? ⟨ob, 2, none⟩ = some (.int .i64 x3)) (first | go_keep | (exact ⟨hk5.out.cells.2.1, hk5.out.cells.2.2⟩)) (first | (go_at_call 11; (first | (with_reducible refine (p1 _ hk5.out).mono ?_) | (with_reducible refine (p1 _ hk5.out.drew).mono ?_)); rintro e w6 ⟨rfl, hk6⟩; clear hk5; have hk5 := Lib.hid hk6; clear hk6) | (go_at_call 21; (first | (with_reducible refine (p2 _ hk5.out).mono ?_) | (with_reducible refine (p2 _ hk5.out.drew).mono ?_)); rintro e w6 ⟨rfl, rfl⟩) | (go_at_call 12; (first | (with_reducible refine (p3 _ hk5.out).mono ?_) | (with_reducible refine (p3 _ hk5.out.drew).mono ?_)); rintro e w6 ⟨rfl, hk6⟩; clear hk5; have hk5 := Lib.hid hk6; clear hk6) | (go_at_call 22; (first | (with_reducible refine (p4 _ hk5.out).mono ?_) | (with_reducible refine (p4 _ hk5.out.drew).mono ?_)); rintro e w6 ⟨rfl, rfl⟩) | (go_at_call 23; (first | (with_reducible refine (p5 _ hk5.out).mono ?_) | (with_reducible refine (p5 _ hk5.out.drew).mono ?_)); rintro e w6 ⟨rfl, hk6⟩; clear hk5; have hk5 := Lib.hid hk6; clear hk6) | (go_at_call 24; (first | (with_reducible refine (p6 _ hk5.out).mono ?_) | (with_reducible refine (p6 _ hk5.out.drew).mono ?_)); rintro e w6 ⟨rfl, hk6⟩; clear hk5; have hk5 := Lib.hid hk6; clear hk6))
        go_wp2
        go_roundw
        case rel => exact ⟨k + 1, s', by go_num, by omega, hn', Lib.hid hk5.out.drop⟩
        case measure => simp [intOf]; omega
      · rw [h0] at hkd
        clear h0
        have q1 := fun w' (h : KQ w1 w1.heap.size w1.heap.size (w1.heap.size + 1) [(ob, #[.int .i64 x1, .int .i64 x2, .int .i64 x3])] s s w') => q_mark h x2 x3
        have q2 := fun w' (h : KQ w1 w1.heap.size w1.heap.size (w1.heap.size + 1) [(ob, #[.int .i64 x1, .int .i64 x2, .int .i64 x3])] (sMark s x2 x3) s w') => r_mark h HG.out x2 x3
        generalize markOk s.n s.M x2 x3 = ok at q1 q2
        go_wp2_with (first | (go_at_call 14; (with_reducible refine (hkd _).mono ?_); rintro e w3 ⟨rfl, rfl⟩))
        rw [Hob.out]
        obtain ⟨c0, c1, c2⟩ := (HL.out.alloc (opB x1 x2 x3)).cells
        have hk5 := Lib.hid (HL.out.alloc (opB x1 x2 x3))
        go_region_held3 (fun w' => w'.cell? ⟨ob, 1, none⟩ = some (.int .i64 x2) ∧ w'.cell? ⟨ob, 2, none⟩ = some (.int .i64 x3)) (first | go_keep | (exact ⟨hk5.out.cells.2.1, hk5.out.cells.2.2⟩)) (first | (go_at_call 17; (first | (with_reducible refine (q1 _ hk5.out).mono ?_) | (with_reducible refine (q1 _ hk5.out.drew).mono ?_)); rintro e w6 ⟨rfl, hk6⟩; clear hk5; have hk5 := Lib.hid hk6; clear hk6) | (go_at_call 18; (first | (with_reducible refine (q2 _ hk5.out).mono ?_) | (with_reducible refine (q2 _ hk5.out.drew).mono ?_)); rintro e w6 ⟨rfl, hk6⟩; clear hk5; have hk5 := Lib.hid hk6; clear hk6))
        clear c0 c1 c2
        go_wp2
        clear q1 q2 HL e1 e2 e3
        obtain ⟨s', hs'⟩ : ∃ s', sMark s x2 x3 = s' := ⟨_, rfl⟩
        have hn' : s'.n ≤ k + 1 := by rw [← hs']; show s.n ≤ k + 1; omega
        rw [hs'] at hk5
        have p1 := fun w' (h : KQ w1 w1.heap.size w1.heap.size (w1.heap.size + 1) [(ob, #[.int .i64 x1, .int .i64 x2, .int .i64 x3])] s' s' w') => q_of h x2
        have p2 := fun w' (h : KQ w1 w1.heap.size w1.heap.size (w1.heap.size + 1) [(ob, #[.int .i64 x1, .int .i64 x2, .int .i64 x3])] s' s' w') => r_of h x2
        have p3 := fun w' (h : KQ w1 w1.heap.size w1.heap.size (w1.heap.size + 1) [(ob, #[.int .i64 x1, .int .i64 x2, .int .i64 x3])] s' s' w') => q_least h x2
        have p4 := fun w' (h : KQ w1 w1.heap.size w1.heap.size (w1.heap.size + 1) [(ob, #[.int .i64 x1, .int .i64 x2, .int .i64 x3])] s' s' w') => r_least h x2
        have p5 := fun w' (h : KQ w1 w1.heap.size w1.heap.size (w1.heap.size + 1) [(ob, #[.int .i64 x1, .int .i64 x2, .int .i64 x3])] s' s' w') => q_alike h x2 x3
        have p6 := fun w' (h : KQ w1 w1.heap.size w1.heap.size (w1.heap.size + 1) [(ob, #[.int .i64 x1, .int .i64 x2, .int .i64 x3])] s' s' w') => r_alike h x2 x3
        generalize ofA s'.n s'.M x2 = v1 at p1 p2
        generalize leastA s'.n s'.C x2 = v2 at p3 p4
        generalize alikeA s'.n s'.C x2 x3 = v3 at p5 p6
        try rw [Hob.out]
        obtain ⟨c0, c1, c2⟩ := hk5.out.cells
        go_region_held3 (fun w' => w'.cell? ⟨ob, 1, none⟩ = some (.int .i64 x2) ∧ w'.cell? ⟨ob, 2, none⟩ = some (.int .i64 x3)) (first | go_keep | (exact ⟨hk5.out.cells.2.1, hk5.out.cells.2.2⟩)) (first | (go_at_call 11; (first | (with_reducible refine (p1 _ hk5.out).mono ?_) | (with_reducible refine (p1 _ hk5.out.drew).mono ?_)); rintro e w6 ⟨rfl, hk6⟩; clear hk5; have hk5 := Lib.hid hk6; clear hk6) | (go_at_call 21; (first | (with_reducible refine (p2 _ hk5.out).mono ?_) | (with_reducible refine (p2 _ hk5.out.drew).mono ?_)); rintro e w6 ⟨rfl, rfl⟩) | (go_at_call 12; (first | (with_reducible refine (p3 _ hk5.out).mono ?_) | (with_reducible refine (p3 _ hk5.out.drew).mono ?_)); rintro e w6 ⟨rfl, hk6⟩; clear hk5; have hk5 := Lib.hid hk6; clear hk6) | (go_at_call 22; (first | (with_reducible refine (p4 _ hk5.out).mono ?_) | (with_reducible refine (p4 _ hk5.out.drew).mono ?_)); rintro e w6 ⟨rfl, rfl⟩) | (go_at_call 23; (first | (with_reducible refine (p5 _ hk5.out).mono ?_) | (with_reducible refine (p5 _ hk5.out.drew).mono ?_)); rintro e w6 ⟨rfl, hk6⟩; clear hk5; have hk5 := Lib.hid hk6; clear hk6) | (go_at_call 24; (first | (with_reducible refine (p6 _ hk5.out).mono ?_) | (with_reducible refine (p6 _ hk5.out.drew).mono ?_)); rintro e w6 ⟨rfl, hk6⟩; clear hk5; have hk5 := Lib.hid hk6; clear hk6))
        go_wp2
        go_roundw
        case rel => exact ⟨k + 1, s', by go_num, by omega, hn', Lib.hid hk5.out.drop⟩
        case measure => simp [intOf]; omega
      · rw [h0] at hkd
        clear h0
        have q1 := fun w' (h : KQ w1 w1.heap.size w1.heap.size (w1.heap.size + 1) [(ob, #[.int .i64 x1, .int .i64 x2, .int .i64 x3])] s s w') => q_tie h x2 x3
        have q2 := fun w' (h : KQ w1 w1.heap.size w1.heap.size (w1.heap.size + 1) [(ob, #[.int .i64 x1, .int .i64 x2, .int .i64 x3])] (sTie s x2 x3) s w') => r_tie h HG.out x2 x3
        generalize tieOk s.n s.M x2 x3 = ok at q1 q2
        go_wp2_with (first | (go_at_call 14; (with_reducible refine (hkd _).mono ?_); rintro e w3 ⟨rfl, rfl⟩))
        rw [Hob.out]
        obtain ⟨c0, c1, c2⟩ := (HL.out.alloc (opB x1 x2 x3)).cells
        have hk5 := Lib.hid (HL.out.alloc (opB x1 x2 x3))
        go_region_held3 (fun w' => w'.cell? ⟨ob, 1, none⟩ = some (.int .i64 x2) ∧ w'.cell? ⟨ob, 2, none⟩ = some (.int .i64 x3)) (first | go_keep | (exact ⟨hk5.out.cells.2.1, hk5.out.cells.2.2⟩)) (first | (go_at_call 19; (first | (with_reducible refine (q1 _ hk5.out).mono ?_) | (with_reducible refine (q1 _ hk5.out.drew).mono ?_)); rintro e w6 ⟨rfl, hk6⟩; clear hk5; have hk5 := Lib.hid hk6; clear hk6) | (go_at_call 20; (first | (with_reducible refine (q2 _ hk5.out).mono ?_) | (with_reducible refine (q2 _ hk5.out.drew).mono ?_)); rintro e w6 ⟨rfl, hk6⟩; clear hk5; have hk5 := Lib.hid hk6; clear hk6))
        clear c0 c1 c2
        go_wp2
        clear q1 q2 HL e1 e2 e3
        obtain ⟨s', hs'⟩ : ∃ s', sTie s x2 x3 = s' := ⟨_, rfl⟩
        have hn' : s'.n ≤ k + 1 := by rw [← hs']; show s.n ≤ k + 1; omega
        rw [hs'] at hk5
        have p1 := fun w' (h : KQ w1 w1.heap.size w1.heap.size (w1.heap.size + 1) [(ob, #[.int .i64 x1, .int .i64 x2, .int .i64 x3])] s' s' w') => q_of h x2
        have p2 := fun w' (h : KQ w1 w1.heap.size w1.heap.size (w1.heap.size + 1) [(ob, #[.int .i64 x1, .int .i64 x2, .int .i64 x3])] s' s' w') => r_of h x2
        have p3 := fun w' (h : KQ w1 w1.heap.size w1.heap.size (w1.heap.size + 1) [(ob, #[.int .i64 x1, .int .i64 x2, .int .i64 x3])] s' s' w') => q_least h x2
        have p4 := fun w' (h : KQ w1 w1.heap.size w1.heap.size (w1.heap.size + 1) [(ob, #[.int .i64 x1, .int .i64 x2, .int .i64 x3])] s' s' w') => r_least h x2
        have p5 := fun w' (h : KQ w1 w1.heap.size w1.heap.size (w1.heap.size + 1) [(ob, #[.int .i64 x1, .int .i64 x2, .int .i64 x3])] s' s' w') => q_alike h x2 x3
        have p6 := fun w' (h : KQ w1 w1.heap.size w1.heap.size (w1.heap.size + 1) [(ob, #[.int .i64 x1, .int .i64 x2, .int .i64 x3])] s' s' w') => r_alike h x2 x3
        generalize ofA s'.n s'.M x2 = v1 at p1 p2
        generalize leastA s'.n s'.C x2 = v2 at p3 p4
        generalize alikeA s'.n s'.C x2 x3 = v3 at p5 p6
        try rw [Hob.out]
        obtain ⟨c0, c1, c2⟩ := hk5.out.cells
        go_region_held3 (fun w' => w'.cell? ⟨ob, 1, none⟩ = some (.int .i64 x2) ∧ w'.cell? ⟨ob, 2, none⟩ = some (.int .i64 x3)) (first | go_keep | (exact ⟨hk5.out.cells.2.1, hk5.out.cells.2.2⟩)) (first | (go_at_call 11; (first | (with_reducible refine (p1 _ hk5.out).mono ?_) | (with_reducible refine (p1 _ hk5.out.drew).mono ?_)); rintro e w6 ⟨rfl, hk6⟩; clear hk5; have hk5 := Lib.hid hk6; clear hk6) | (go_at_call 21; (first | (with_reducible refine (p2 _ hk5.out).mono ?_) | (with_reducible refine (p2 _ hk5.out.drew).mono ?_)); rintro e w6 ⟨rfl, rfl⟩) | (go_at_call 12; (first | (with_reducible refine (p3 _ hk5.out).mono ?_) | (with_reducible refine (p3 _ hk5.out.drew).mono ?_)); rintro e w6 ⟨rfl, hk6⟩; clear hk5; have hk5 := Lib.hid hk6; clear hk6) | (go_at_call 22; (first | (with_reducible refine (p4 _ hk5.out).mono ?_) | (with_reducible refine (p4 _ hk5.out.drew).mono ?_)); rintro e w6 ⟨rfl, rfl⟩) | (go_at_call 23; (first | (with_reducible refine (p5 _ hk5.out).mono ?_) | (with_reducible refine (p5 _ hk5.out.drew).mono ?_)); rintro e w6 ⟨rfl, hk6⟩; clear hk5; have hk5 := Lib.hid hk6; clear hk6) | (go_at_call 24; (first | (with_reducible refine (p6 _ hk5.out).mono ?_) | (with_reducible refine (p6 _ hk5.out.drew).mono ?_)); rintro e w6 ⟨rfl, hk6⟩; clear hk5; have hk5 := Lib.hid hk6; clear hk6))
        go_wp2
        go_roundw
        case rel => exact ⟨k + 1, s', by go_num, by omega, hn', Lib.hid hk5.out.drop⟩
        case measure => simp [intOf]; omega
    · have hnl : s.n ≤ len := by omega
      clear hk hs
      go_wp2
      go_loopw [8] (fun v wr => ∃ (m : Nat) (ii : Int), v = .int .i64 ii ∧ ii + 1 = m ∧ m ≤ s.n + 2 ∧ Hid (KQ w1 w1.heap.size w1.heap.size (w1.heap.size + 1) [] s s wr)) (fun v _ => s.n + 2 - (intOf v + 1).toNat)
      case atStart => exact ⟨0, -1, rfl, rfl, by omega, HK⟩
      case round =>
        obtain ⟨m, ii, rfl, hm, hm2, HK2⟩ := hrel
        clear HK
        have hpp : ∃ A' cC, wr.cell? ⟨w1.heap.size + 1, 0, none⟩ = some (.slice A' s.n cC) := by
          obtain ⟨v, vC, vM, h1, h2, h3, h4, h5⟩ := HK2.out
          obtain ⟨A', B', cC, cM, rfl, rfl, _, _, _, _⟩ := h2.any_forms
          exact ⟨A', cC, h2.ptrC⟩
        obtain ⟨A', cC, hp⟩ := hpp
        by_cases hlt : ii ≤ (s.n : Int)
        · have p1 := fun w' (h : KQ w1 w1.heap.size w1.heap.size (w1.heap.size + 1) [] s s w') => q_of h ii
          have p2 := fun w' (h : KQ w1 w1.heap.size w1.heap.size (w1.heap.size + 1) [] s s w') => r_of h ii
          have p3 := fun w' (h : KQ w1 w1.heap.size w1.heap.size (w1.heap.size + 1) [] s s w') => q_least h ii
          have p4 := fun w' (h : KQ w1 w1.heap.size w1.heap.size (w1.heap.size + 1) [] s s w') => r_least h ii
          generalize ofA s.n s.M ii = v1 at p1 p2
          generalize leastA s.n s.C ii = v2 at p3 p4
          have d0 : decide (ii ≤ (s.n : Int)) = true := decide_eq_true hlt
          go_wp2_with (first | (go_at_call 11; (with_reducible refine (p1 _ HK2.out).mono ?_); rintro e w5 ⟨rfl, hk5⟩; clear HK2; have HK2 := Lib.hid hk5; clear hk5) | (go_at_call 21; (with_reducible refine (p2 _ HK2.out).mono ?_); rintro e w5 ⟨rfl, rfl⟩) | (go_at_call 12; (with_reducible refine (p3 _ HK2.out).mono ?_); rintro e w5 ⟨rfl, hk5⟩; clear HK2; have HK2 := Lib.hid hk5; clear hk5) | (go_at_call 22; (with_reducible refine (p4 _ HK2.out).mono ?_); rintro e w5 ⟨rfl, rfl⟩))
          go_roundw
          case rel => exact ⟨m + 1, ii + 1, by first | rfl | go_num, by omega, by omega, HK2⟩
          case measure => simp [intOf]; omega
        · have d0 : decide (ii ≤ (s.n : Int)) = false := decide_eq_false hlt
          have p1 := fun w' (h : KQ w1 w1.heap.size w1.heap.size (w1.heap.size + 1) [] s s w') => q_len h
          go_wp2
          go_region_held3 (fun w' => w'.cell? ⟨w1.heap.size + 1, 0, none⟩ = some (.slice A' s.n cC)) (go_keep) (first | (go_at_call 10; (first | (with_reducible refine (p1 _ HK2.out).mono ?_) | (with_reducible refine (p1 _ HK2.out.drew).mono ?_)); rintro e w6 ⟨rfl, rfl⟩))
          go_wp2
          go_ret
          have hb := HK2.out.below_.1
          exact ⟨rfl, (hB1.out.trans (hb.mono hB1.out.size)).drew⟩
end Go.Proofs.Ytdopccbnnmaccaa.Kn
