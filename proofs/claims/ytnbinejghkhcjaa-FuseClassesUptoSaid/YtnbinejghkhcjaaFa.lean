/- Which names are set: the walks of the program's Sets. -/
import Derived.Test.YtnbinejghkhcjaaFm
import Derived.LoopTactic
namespace Go.Proofs.Ytnbinejghkhcjaa.Fu
open Go.RowKit
set_option linter.unusedVariables false
set_option linter.unusedSimpArgs false
set_option maxHeartbeats 2000000

theorem ret_b {a b : Bool} (h : a = b) : Ending.returned (.bool a) = .returned (.bool b) := by rw [h]
theorem ret_i {a b : Int} (h : a = b) : Ending.returned (.int .i64 a) = .returned (.int .i64 b) := by rw [h]
/-- The first place, or -1. -/
def pidx {α : Type} (p : α → Bool) : List α → Int
  | [] => -1
  | a :: r => if p a = true then 0 else if pidx p r < 0 then -1 else pidx p r + 1
theorem pidx_any {α : Type} (p : α → Bool) (l : List α) : decide (0 ≤ pidx p l) = l.any p := by
  induction l with
  | nil => rfl
  | cons a r ih =>
    rw [List.any_cons, ← ih]
    by_cases h : p a = true
    · rw [h, Bool.true_or]
      have e : pidx p (a :: r) = 0 := by simp only [pidx]; rw [if_pos h]
      rw [e]; rfl
    · have h' : p a = false := by simpa using h
      rw [h', Bool.false_or]
      by_cases q : pidx p r < 0
      · have e : pidx p (a :: r) = -1 := by simp only [pidx]; rw [if_neg h, if_pos q]
        rw [e, decide_eq_false (by omega), decide_eq_false (by omega)]
      · have e : pidx p (a :: r) = pidx p r + 1 := by simp only [pidx]; rw [if_neg h, if_neg q]
        rw [e, decide_eq_true (by omega), decide_eq_true (by omega)]
theorem pidx_none {α : Type} (p : α → Bool) (l : List α) (h : ∀ a ∈ l, p a = false) : pidx p l = -1 := by
  induction l with
  | nil => rfl
  | cons a r ih =>
    simp only [pidx]
    rw [if_neg (by rw [h a (List.mem_cons_self ..)]; decide), ih (fun x hx => h x (List.mem_cons_of_mem _ hx))]; rfl
theorem pidx_at {α : Type} (p : α → Bool) (l : List α) : ∀ (i : Nat) (a : α), l[i]? = some a → p a = true → (∀ b ∈ l.take i, p b = false) → pidx p l = (i : Int) := by
  induction l with
  | nil => intro i a h; simp at h
  | cons x r ih =>
    intro i a h ha hb
    cases i with
    | zero => simp at h; subst h; simp [pidx, ha]
    | succ i =>
      have h1 := ih i a (by simpa using h) ha (fun b q => hb b (by simp [q]))
      have hx : p x = false := hb x (by simp)
      simp only [pidx, h1, hx]
      rw [if_neg (by decide), if_neg (by omega)]
      omega
theorem getE {α : Type} {l : List α} {i : Nat} (h : i < l.length) : l[i]? = some (l[i]'h) := List.getElem?_eq_getElem h
theorem take_all {α : Type} {p : α → Prop} {l : List α} {i : Nat} {a : α} (h : ∀ b ∈ l.take i, p b) (hi : l[i]? = some a) (ha : p a) : ∀ b ∈ l.take (i + 1), p b := by
  intro b hb
  have hlt := (List.getElem?_eq_some_iff.1 hi).1
  rw [List.take_add_one, hi] at hb
  rcases List.mem_append.mp hb with q | q
  · exact h b q
  · simp at q; subst q; exact ha

theorem str_eq (a b : ByteArray) : (a.toList == b.toList) = decide (a = b) := by
  by_cases h : a = b
  · subst h; simp
  · have : ¬ a.toList = b.toList := by
      intro e; rw [ByteArray.toList_eq, ByteArray.toList_eq] at e
      exact h (ByteArray.ext (by rw [← Array.toList_inj]; exact e))
    simp [h, this]
theorem str_eq' (a b : ByteArray) : (a.toList == b.toList) = decide (b = a) := by
  rw [str_eq]
  by_cases h : a = b
  · subst h; rfl
  · rw [decide_eq_false h, decide_eq_false (fun e => h e.symm)]
section
variable {w : World} {A : Nat → Prop} {v : Value}
theorem index_any {l : List ByteArray} (h : Strs w A v l) (nm : ByteArray) : Calls Try.prog 44 #[v, .string nm] w fun e w' => e = .returned (.int .i64 (pidx (fun x => decide (x = nm)) l)) ∧ w = w' := by
  obtain ⟨a, cap, rfl, h2, h3⟩ := Row.any h
  have hu : cap ≤ 9223372036854775807 := by unfold maxLen at h3; exact h3
  have HR := Lib.hid h
  clear h
  obtain ⟨P, HP⟩ : ∃ P, Hid (pidx (fun x => decide (x = nm)) l = P) := ⟨_, Lib.hid rfl⟩
  rw [HP.out]
  obtain ⟨n, hn⟩ : ∃ n, l.length = n := ⟨_, rfl⟩
  rw [hn] at h2 ⊢
  have HN := Lib.hid hn
  clear hn
  go_enter Try.func44, Try.ntmps44
  go_wp2
  go_loop [8] (fun i => ∃ k : Nat, i = .int .i64 k ∧ k ≤ n ∧ Hid (∀ b ∈ l.take k, decide (b = nm) = false)) (fun i => n - (intOf i).toNat)
  case atStart => exact ⟨0, rfl, Nat.zero_le _, Lib.hid (by simp)⟩
  case round =>
    obtain ⟨k, rfl, hk, HB⟩ := hrel
    by_cases hlt : k < n
    · have hkl : k < l.length := by rw [HN.out]; exact hlt
      obtain ⟨b, off, cap', he, _, _, _, _, hc⟩ := Row.form HR.out (by omega)
      simp only [Value.slice.injEq, true_and] at he
      obtain ⟨rfl, rfl, rfl⟩ := he
      obtain ⟨x, hx⟩ : ∃ x, l[k]? = some x := ⟨_, getE hkl⟩
      have c1 : w.cell? ⟨b, off + k, none⟩ = some (.string x) := by
        have := hc k (by omega)
        simpa [hx] using this
      have HX := Lib.hid hx
      clear hc hx
      by_cases e : x = nm
      · have ht : (nm.toList == x.toList) = true := by rw [str_eq']; exact decide_eq_true e
        go_wp2
        go_ret
        refine ⟨ret_i ?_, rfl⟩
        rw [← HP.out]
        exact (pidx_at _ _ k x HX.out (decide_eq_true e) HB.out).symm
      · have ht : (nm.toList == x.toList) = false := by rw [str_eq']; exact decide_eq_false e
        go_wp2
        refine ⟨⟨k + 1, by simp, by omega, Lib.hid (take_all HB.out HX.out (decide_eq_false e))⟩, by simp [intOf]; omega⟩
    · go_wp2
      go_ret
      refine ⟨ret_i ?_, rfl⟩
      rw [← HP.out]
      refine (pidx_none _ _ ?_).symm
      have := HB.out
      rwa [List.take_of_length_le (by rw [HN.out]; omega)] at this
theorem contains_any {l : List ByteArray} (h : Strs w A v l) (nm : ByteArray) : Calls Try.prog 41 #[v, .string nm] w fun e w' => e = .returned (.bool (l.any (fun x => decide (x = nm)))) ∧ w = w' := by
  have hc := index_any h nm
  obtain ⟨P, HP⟩ : ∃ P, Hid (pidx (fun x => decide (x = nm)) l = P) := ⟨_, Lib.hid rfl⟩
  have HQ : Hid (decide (0 ≤ P) = l.any (fun x => decide (x = nm))) := Lib.hid (by rw [← HP.out]; exact pidx_any _ _)
  rw [HP.out] at hc
  rw [← HQ.out]
  clear h
  go_enter Try.func41, Try.ntmps41
  go_wp2_with (go_at_call 44; (with_reducible refine hc.mono ?_); rintro e w1 ⟨rfl, rfl⟩)
  go_ret
  exact ⟨rfl, rfl⟩
theorem indexArm_37 {l : List Arm} (h : VA w A v l) (p : Arm → Bool) (x : Value) (hcl : ∀ a ∈ l, ∀ (u : Value) (wr : World), Below w.heap.size w wr → VB wr A u a.body → Calls Try.prog 37 #[.agg #[.string a.con, u], x] wr fun e w' => e = .returned (.bool (p a)) ∧ Below wr.heap.size wr w') :
    Calls Try.prog 36 #[v, .func (.func 37) #[] #[x]] w fun e w' => e = .returned (.int .i64 (pidx p l)) ∧ Below w.heap.size w w' := by
  obtain ⟨a, cap, rfl, h2, h3⟩ := h.any
  have hu : cap ≤ 9223372036854775807 := by unfold maxLen at h3; exact h3
  have HR := Lib.hid h
  have HC := Lib.hid hcl
  clear h hcl
  obtain ⟨P, HP⟩ : ∃ P, Hid (pidx p l = P) := ⟨_, Lib.hid rfl⟩
  rw [HP.out]
  obtain ⟨n, hn⟩ : ∃ n, l.length = n := ⟨_, rfl⟩
  rw [hn] at h2 ⊢
  have HN := Lib.hid hn
  clear hn
  go_enter Try.func36, Try.ntmps36
  go_wp2
  go_loopw [8] (fun i wr => ∃ k : Nat, i = .int .i64 k ∧ k ≤ n ∧ Hid (∀ b ∈ l.take k, p b = false) ∧ Hid (Below w.heap.size w wr)) (fun i _ => n - (intOf i).toNat)
  case atStart => exact ⟨0, rfl, Nat.zero_le _, Lib.hid (by simp), Lib.hid (Below.refl _ _)⟩
  case round =>
    obtain ⟨k, rfl, hk, HB, HW⟩ := hrel
    by_cases hlt : k < n
    · have hkl : k < l.length := by rw [HN.out]; exact hlt
      obtain ⟨y, hy⟩ : ∃ y, l[k]? = some y := ⟨_, getE hkl⟩
      obtain ⟨b, off, cap', u, he, _, _, _, _, c1, c2, hb⟩ := (HR.out.stay (Stay.below HW.out)).get k y hy
      simp only [Value.slice.injEq, true_and] at he
      obtain ⟨rfl, -, rfl⟩ := he
      have hq := HC.out y (List.mem_of_getElem? hy) u wr HW.out hb
      obtain ⟨r, hr⟩ : ∃ r, p y = r := ⟨_, rfl⟩
      rw [hr] at hq
      have HY := Lib.hid (And.intro hy hr)
      clear hy hr hb
      cases r with
      | true =>
        go_wp2_with (go_at_call 37; (with_reducible refine hq.mono ?_); rintro e w1 ⟨rfl, hb1⟩; replace hb1 := Lib.hid hb1)
        go_ret
        refine ⟨ret_i ?_, HW.out.trans (hb1.out.mono HW.out.size)⟩
        rw [← HP.out]
        exact (pidx_at _ _ k y HY.out.1 HY.out.2 HB.out).symm
      | false =>
        go_wp2_with (go_at_call 37; (with_reducible refine hq.mono ?_); rintro e w1 ⟨rfl, hb1⟩; replace hb1 := Lib.hid hb1)
        go_roundw
        case rel => exact ⟨k + 1, by simp, by omega, Lib.hid (take_all HB.out HY.out.1 HY.out.2), Lib.hid (HW.out.trans (hb1.out.mono HW.out.size))⟩
        case measure => simp [intOf]; omega
    · go_wp2
      go_ret
      refine ⟨ret_i ?_, HW.out⟩
      rw [← HP.out]
      refine (pidx_none _ _ ?_).symm
      have := HB.out
      rwa [List.take_of_length_le (by rw [HN.out]; omega)] at this
theorem indexArm_43 {l : List Arm} (h : VA w A v l) (p : Arm → Bool) (x : Value) (hcl : ∀ a ∈ l, ∀ (u : Value) (wr : World), Below w.heap.size w wr → VB wr A u a.body → Calls Try.prog 43 #[.agg #[.string a.con, u], x] wr fun e w' => e = .returned (.bool (p a)) ∧ Below wr.heap.size wr w') :
    Calls Try.prog 36 #[v, .func (.func 43) #[] #[x]] w fun e w' => e = .returned (.int .i64 (pidx p l)) ∧ Below w.heap.size w w' := by
  obtain ⟨a, cap, rfl, h2, h3⟩ := h.any
  have hu : cap ≤ 9223372036854775807 := by unfold maxLen at h3; exact h3
  have HR := Lib.hid h
  have HC := Lib.hid hcl
  clear h hcl
  obtain ⟨P, HP⟩ : ∃ P, Hid (pidx p l = P) := ⟨_, Lib.hid rfl⟩
  rw [HP.out]
  obtain ⟨n, hn⟩ : ∃ n, l.length = n := ⟨_, rfl⟩
  rw [hn] at h2 ⊢
  have HN := Lib.hid hn
  clear hn
  go_enter Try.func36, Try.ntmps36
  go_wp2
  go_loopw [8] (fun i wr => ∃ k : Nat, i = .int .i64 k ∧ k ≤ n ∧ Hid (∀ b ∈ l.take k, p b = false) ∧ Hid (Below w.heap.size w wr)) (fun i _ => n - (intOf i).toNat)
  case atStart => exact ⟨0, rfl, Nat.zero_le _, Lib.hid (by simp), Lib.hid (Below.refl _ _)⟩
  case round =>
    obtain ⟨k, rfl, hk, HB, HW⟩ := hrel
    by_cases hlt : k < n
    · have hkl : k < l.length := by rw [HN.out]; exact hlt
      obtain ⟨y, hy⟩ : ∃ y, l[k]? = some y := ⟨_, getE hkl⟩
      obtain ⟨b, off, cap', u, he, _, _, _, _, c1, c2, hb⟩ := (HR.out.stay (Stay.below HW.out)).get k y hy
      simp only [Value.slice.injEq, true_and] at he
      obtain ⟨rfl, -, rfl⟩ := he
      have hq := HC.out y (List.mem_of_getElem? hy) u wr HW.out hb
      obtain ⟨r, hr⟩ : ∃ r, p y = r := ⟨_, rfl⟩
      rw [hr] at hq
      have HY := Lib.hid (And.intro hy hr)
      clear hy hr hb
      cases r with
      | true =>
        go_wp2_with (go_at_call 43; (with_reducible refine hq.mono ?_); rintro e w1 ⟨rfl, hb1⟩; replace hb1 := Lib.hid hb1)
        go_ret
        refine ⟨ret_i ?_, HW.out.trans (hb1.out.mono HW.out.size)⟩
        rw [← HP.out]
        exact (pidx_at _ _ k y HY.out.1 HY.out.2 HB.out).symm
      | false =>
        go_wp2_with (go_at_call 43; (with_reducible refine hq.mono ?_); rintro e w1 ⟨rfl, hb1⟩; replace hb1 := Lib.hid hb1)
        go_roundw
        case rel => exact ⟨k + 1, by simp, by omega, Lib.hid (take_all HB.out HY.out.1 HY.out.2), Lib.hid (HW.out.trans (hb1.out.mono HW.out.size))⟩
        case measure => simp [intOf]; omega
    · go_wp2
      go_ret
      refine ⟨ret_i ?_, HW.out⟩
      rw [← HP.out]
      refine (pidx_none _ _ ?_).symm
      have := HB.out
      rwa [List.take_of_length_le (by rw [HN.out]; omega)] at this
end
end Go.Proofs.Ytnbinejghkhcjaa.Fu
