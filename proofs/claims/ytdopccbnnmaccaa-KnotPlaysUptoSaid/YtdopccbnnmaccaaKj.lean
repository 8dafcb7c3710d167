/- A script that came in. -/
import Derived.Test.YtdopccbnnmaccaaKi
import Derived.Deep.Slices
import Derived.Deep.Fields
import Derived.ChangeSame
namespace Go.Proofs.Ytdopccbnnmaccaa.Kn
open Go.RowKit
set_option linter.unusedVariables false
set_option linter.unusedSimpArgs false
set_option maxHeartbeats 2000000

/-- The slice at A holds len steps: f tells each one's three numbers; they lie below block B. -/
def Sc (w : World) (B : Nat) (A : Option Addr) (len : Nat) (f : Nat → Int × Int × Int) : Prop :=
  ∀ i, i < len → ∃ b off, A = some ⟨b, off, none⟩ ∧ b < B ∧ w.cell? ⟨b, off + i * 3, none⟩ = some (.int .i64 (f i).1) ∧ w.cell? ⟨b, off + i * 3 + 1, none⟩ = some (.int .i64 (f i).2.1) ∧ w.cell? ⟨b, off + i * 3 + 2, none⟩ = some (.int .i64 (f i).2.2)
theorem Sc.below {w w' : World} {B B' : Nat} {A : Option Addr} {len : Nat} {f : Nat → Int × Int × Int} (h : Sc w B A len f) (hb : Below B' w w') (hB : B ≤ B') : Sc w' B A len f := by
  intro i hi
  obtain ⟨b, off, e, hlt, h1, h2, h3⟩ := h i hi
  exact ⟨b, off, e, hlt, (hb.cell (p := ⟨b, _, none⟩) (by show b < B'; omega)).trans h1, (hb.cell (p := ⟨b, _, none⟩) (by show b < B'; omega)).trans h2, (hb.cell (p := ⟨b, _, none⟩) (by show b < B'; omega)).trans h3⟩

set_option maxRecDepth 100000 in
theorem alike_t (w : World) (A : Option Addr) (len cap : Nat) (f : Nat → Int × Int × Int) (hsc : Sc w w.heap.size A len f) (hlen : len ≤ 9223372036854775807) :
    Calls Try.prog 5 #[.slice A len cap] w fun e w' => e = .returned (.bool true) ∧ Below w.heap.size w w' := by
  have HSC := Lib.hid hsc
  clear hsc
  go_enter Try.func5, Try.ntmps5
  go_wp2_with (first | (go_at_call 8; refine (lives_any _).mono ?_; rintro e w1 ⟨rfl, hB1⟩; replace hB1 := Lib.hid hB1) | (go_at_call 9; (with_reducible refine (new_any _).mono ?_); rintro e w2 ⟨rfl, rfl⟩; have hk0 := Lib.hid (KI.new w1)))
  go_loopw [4] (fun i wr => ∃ (k : Nat) (s : St), i = .int .i64 k ∧ k ≤ len ∧ s.n ≤ 40 ∧ Hid (KI w1 w1.heap.size w1.heap.size s.n s.C s.M wr)) (fun i _ => len - (intOf i).toNat)
  case atStart => exact ⟨0, ⟨0, z0, m0⟩, rfl, Nat.zero_le _, Nat.zero_le _, hk0⟩
  case round =>
    obtain ⟨k, s, rfl, hk, hs, HK⟩ := hrel
    by_cases hlt : k < len
    · have hsc2 : Sc wr w.heap.size A len f := by
        obtain ⟨v, _, hb, _⟩ := HK.out
        exact (HSC.out.below hB1.out (Nat.le_refl _)).below hb hB1.out.size
      obtain ⟨b, off, rfl, hbl, e1, e2, e3⟩ := hsc2 k hlt
      obtain ⟨x1, hx1⟩ : ∃ x, (f k).1 = x := ⟨_, rfl⟩
      obtain ⟨x2, hx2⟩ : ∃ x, (f k).2.1 = x := ⟨_, rfl⟩
      obtain ⟨x3, hx3⟩ : ∃ x, (f k).2.2 = x := ⟨_, rfl⟩
      rw [hx1] at e1
      rw [hx2] at e2
      rw [hx3] at e3
      clear hx1 hx2 hx3
      have hbs : b < wr.heap.size := by
        obtain ⟨v, _, hb, _⟩ := HK.out
        have := hB1.out.size
        have := hb.size
        omega
      clear hsc2 hbl
      have hlen := fun w' (h : KI w1 w1.heap.size w1.heap.size s.n s.C s.M w') => ki_len h
      by_cases hc : kd x1 = 0 ∧ ¬ s.n < 40
      · obtain ⟨hc1, hc2⟩ := hc
        have hkd := kind_any x1 x2 x3
        rw [hc1] at hkd
        have d4 : decide ((s.n : Int) < 40) = false := decide_eq_false (by omega)
        have d4' : 40 ≤ s.n := by omega
        clear hc1
        go_wp2_with (first | (go_at_call 14; (with_reducible refine (hkd _).mono ?_); rintro e w3 ⟨rfl, rfl⟩) | (go_at_call 10; (with_reducible refine (hlen _ (HK.out.alloc _)).mono ?_); rintro e w4 ⟨rfl, rfl⟩))
        all_goals
          go_roundw
          case rel => exact ⟨k + 1, s, by go_num, by omega, hs, Lib.hid (HK.out.alloc _)⟩
          case measure => simp [intOf]; omega
      · have hst : (s.step (kd x1) x2 x3).n ≤ 40 := by
          unfold St.step
          split
          · show s.n + 1 ≤ 40; omega
          · split <;> exact hs
        have hdo := fun w' (h : KI w1 w1.heap.size w1.heap.size s.n s.C s.M w') => does_any s h x1 x2 x3 (fun _ => by omega)
        obtain ⟨ok, hok⟩ : ∃ ok, s.ok (kd x1) x2 x3 = ok := ⟨_, rfl⟩
        rw [hok] at hdo
        obtain ⟨s', hs'⟩ : ∃ s', s.step (kd x1) x2 x3 = s' := ⟨_, rfl⟩
        rw [hs'] at hdo hst
        have hkd := kind_any x1 x2 x3
        obtain ⟨kk, hkk⟩ : ∃ kk, kd x1 = kk := ⟨_, rfl⟩
        rw [hkk] at hkd hc
        clear hok hs' hkk
        by_cases h0 : kk = 0
        · have d4 : decide ((s.n : Int) < 40) = true := decide_eq_true (by omega)
          have d4' : s.n < 40 := by omega
          clear hc
          subst h0
          go_wp2_with (first | (go_at_call 14; (with_reducible refine (hkd _).mono ?_); rintro e w3 ⟨rfl, rfl⟩) | (go_at_call 10; (with_reducible refine (hlen _ (HK.out.alloc _)).mono ?_); rintro e w4 ⟨rfl, rfl⟩) | (go_at_call 13; (with_reducible refine (hdo _ (HK.out.alloc _)).mono ?_); rintro e w5 ⟨rfl, hk5⟩; replace hk5 := Lib.hid hk5))
          go_roundw
          case rel => exact ⟨k + 1, s', by go_num, by omega, hst, hk5⟩
          case measure => simp [intOf]; omega
        · have d4 : (kk != 0) = true := by simp [h0]
          clear hc
          go_wp2_with (first | (go_at_call 14; (with_reducible refine (hkd _).mono ?_); rintro e w3 ⟨rfl, rfl⟩) | (go_at_call 13; (with_reducible refine (hdo _ (HK.out.alloc _)).mono ?_); rintro e w5 ⟨rfl, hk5⟩; replace hk5 := Lib.hid hk5))
          go_roundw
          case rel => exact ⟨k + 1, s', by go_num, by omega, hst, hk5⟩
          case measure => simp [intOf]; omega
    · obtain ⟨n, C, M⟩ := s
      have hn40 : n ≤ 40 := hs
      have hlen := fun w' (h : KI w1 w1.heap.size w1.heap.size n C M w') => ki_len h
      have HG : Hid (Good n C M) := by
        obtain ⟨v, hk, _, _⟩ := HK.out
        exact Lib.hid hk.good
      clear hk hs
      go_wp2_with (first | (go_at_call 10; (with_reducible refine (hlen _ HK.out).mono ?_); rintro e w4 ⟨rfl, rfl⟩))
      go_loopw [6] (fun i wr => ∃ (a : Nat), i = .int .i64 a ∧ a ≤ n ∧ Hid (KI w1 w1.heap.size w1.heap.size n C M wr)) (fun i _ => n - (intOf i).toNat)
      case atStart => exact ⟨0, rfl, Nat.zero_le _, HK⟩
      case round =>
        obtain ⟨a, rfl, ha, HK2⟩ := hrel
        by_cases hlt2 : a < n
        · have gC := HG.out.le a hlt2
          have gI := HG.out.idem a hlt2
          have gM := HG.out.mkr a hlt2
          have e1 : alikeA n C (a : Int) (a : Int) = true := by simp [alikeA, hlt2]
          have e2 : leastA n C (a : Int) = (C a : Int) := by simp [leastA, hlt2]
          have e3 : alikeA n C (a : Int) (C a : Int) = true := by simp [alikeA, hlt2, gI]; omega
          have q1 := fun w' (h : KI w1 w1.heap.size w1.heap.size n C M w') => ki_alike h (a : Int) (a : Int)
          have q2 := fun w' (h : KI w1 w1.heap.size w1.heap.size n C M w') => ki_least h (a : Int)
          have q3 := fun w' (h : KI w1 w1.heap.size w1.heap.size n C M w') => ki_alike h (a : Int) (C a : Int)
          have q4 := fun w' (h : KI w1 w1.heap.size w1.heap.size n C M w') => ki_of h (a : Int)
          have e4 : ofA n M (a : Int) = M a := by simp [ofA, hlt2]
          rw [e1] at q1
          rw [e2] at q2
          rw [e3] at q3
          rw [e4] at q4
          clear e1 e2 e3 e4
          obtain ⟨ca, Hca⟩ : ∃ c, Hid (C a = c) := ⟨_, Lib.hid rfl⟩
          obtain ⟨ma, Hma⟩ : ∃ c, Hid (M a = c) := ⟨_, Lib.hid rfl⟩
          rw [Hca.out] at q2 q3 gC gM
          rw [Hma.out] at q4 gM
          replace gM := Lib.hid gM
          clear gI hlt
          have d5 : decide (a < ca) = false := decide_eq_false (by omega)
          have ha' : a ≤ n := ha
          go_wp2_with (first | (go_at_call 23; (with_reducible refine (q1 _ HK2.out).mono ?_); rintro e w5 ⟨rfl, hk5⟩; clear HK2; have HK2 := Lib.hid hk5; clear hk5) | (go_at_call 12; (with_reducible refine (q2 _ HK2.out).mono ?_); rintro e w5 ⟨rfl, hk5⟩; clear HK2; have HK2 := Lib.hid hk5; clear hk5) | (go_at_call 23; (with_reducible refine (q3 _ HK2.out).mono ?_); rintro e w5 ⟨rfl, hk5⟩; clear HK2; have HK2 := Lib.hid hk5; clear hk5))
          go_loopw [7] (fun i wr => ∃ (b : Nat), i = .int .i64 b ∧ b ≤ n ∧ Hid (KI w1 w1.heap.size w1.heap.size n C M wr)) (fun i _ => n - (intOf i).toNat)
          case atStart => exact ⟨0, rfl, Nat.zero_le _, HK2⟩
          case round =>
            obtain ⟨b, rfl, hb, HK3⟩ := hrel
            by_cases hlt3 : b < n
            · have s1 : alikeA n C (a : Int) (b : Int) = decide (C a = C b) := by simp [alikeA, hlt2, hlt3]
              have s2 : alikeA n C (b : Int) (a : Int) = decide (C a = C b) := by simp [alikeA, hlt2, hlt3, eq_comm]
              have s3 : leastA n C (b : Int) = (C b : Int) := by simp [leastA, hlt3]
              have s4 : ofA n M (b : Int) = M b := by simp [ofA, hlt3]
              have r1 := fun w' (h : KI w1 w1.heap.size w1.heap.size n C M w') => ki_alike h (a : Int) (b : Int)
              have r2 := fun w' (h : KI w1 w1.heap.size w1.heap.size n C M w') => ki_alike h (b : Int) (a : Int)
              have r3 := fun w' (h : KI w1 w1.heap.size w1.heap.size n C M w') => ki_least h (b : Int)
              have r4 := fun w' (h : KI w1 w1.heap.size w1.heap.size n C M w') => ki_of h (b : Int)
              rw [s1] at r1
              rw [s2] at r2
              rw [s3] at r3
              rw [s4] at r4
              clear s1 s2 s3 s4
              by_cases hab : C a = C b
              · have hm : M b = ma := by
                  rw [← HG.out.mkr b hlt3, ← hab, HG.out.mkr a hlt2]; exact Hma.out
                rw [decide_eq_true hab] at r1 r2
                rw [← hab, Hca.out] at r3
                rw [hm] at r4
                clear hab hm
                go_wp2_with (first | (go_at_call 23; (with_reducible refine (r1 _ HK3.out).mono ?_); rintro e w5 ⟨rfl, hk5⟩; clear HK3; have HK3 := Lib.hid hk5; clear hk5) | (go_at_call 23; (with_reducible refine (r2 _ HK3.out).mono ?_); rintro e w5 ⟨rfl, hk5⟩; clear HK3; have HK3 := Lib.hid hk5; clear hk5) | (go_at_call 12; (with_reducible refine (q2 _ HK3.out).mono ?_); rintro e w5 ⟨rfl, hk5⟩; clear HK3; have HK3 := Lib.hid hk5; clear hk5) | (go_at_call 12; (with_reducible refine (r3 _ HK3.out).mono ?_); rintro e w5 ⟨rfl, hk5⟩; clear HK3; have HK3 := Lib.hid hk5; clear hk5) | (go_at_call 11; (with_reducible refine (q4 _ HK3.out).mono ?_); rintro e w5 ⟨rfl, hk5⟩; clear HK3; have HK3 := Lib.hid hk5; clear hk5) | (go_at_call 11; (with_reducible refine (r4 _ HK3.out).mono ?_); rintro e w5 ⟨rfl, hk5⟩; clear HK3; have HK3 := Lib.hid hk5; clear hk5))
                go_roundw
                case rel => exact ⟨b + 1, by go_num, by omega, HK3⟩
                case measure => simp [intOf]; omega
              · rw [decide_eq_false hab] at r1 r2
                have hne : ((ca : Int) == (C b : Int)) = false := by
                  rw [Hca.out] at hab
                  simp; omega
                clear hab
                go_wp2_with (first | (go_at_call 23; (with_reducible refine (r1 _ HK3.out).mono ?_); rintro e w5 ⟨rfl, hk5⟩; clear HK3; have HK3 := Lib.hid hk5; clear hk5) | (go_at_call 23; (with_reducible refine (r2 _ HK3.out).mono ?_); rintro e w5 ⟨rfl, hk5⟩; clear HK3; have HK3 := Lib.hid hk5; clear hk5) | (go_at_call 12; (with_reducible refine (q2 _ HK3.out).mono ?_); rintro e w5 ⟨rfl, hk5⟩; clear HK3; have HK3 := Lib.hid hk5; clear hk5) | (go_at_call 12; (with_reducible refine (r3 _ HK3.out).mono ?_); rintro e w5 ⟨rfl, hk5⟩; clear HK3; have HK3 := Lib.hid hk5; clear hk5))
                go_roundw
                case rel => exact ⟨b + 1, by go_num, by omega, HK3⟩
                case measure => simp [intOf]; omega
            · clear q1 q2 q3 q4 d5 gC
              go_wp2
              go_roundw
              case rel => exact ⟨a + 1, by go_num, by omega, HK3⟩
              case measure => simp [intOf]; omega
        · go_wp2
          go_ret
          obtain ⟨v, _, hb, _⟩ := HK2.out
          exact ⟨rfl, hB1.out.trans (hb.mono hB1.out.size)⟩
end Go.Proofs.Ytdopccbnnmaccaa.Kn
