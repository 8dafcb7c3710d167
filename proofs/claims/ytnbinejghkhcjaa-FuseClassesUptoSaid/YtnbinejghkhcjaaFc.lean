/- The walks of together, Clone and join's test. -/
import Derived.Test.YtnbinejghkhcjaaFb
import Derived.Deep.AppendLies
import Derived.Deep.DeepMust
import Derived.OwnWalk
namespace Go.Proofs.Ytnbinejghkhcjaa.Fu
open Go.RowKit
set_option linter.unusedVariables false
set_option linter.unusedSimpArgs false
set_option maxHeartbeats 2000000

section
variable {w : World} {A : Nat → Prop} {v : Value}
theorem together_any {h h' : Hd} {u u' : Value} {arms arms' : List Arm} (ho : HdOk w A h) (hv : VA w A u arms) :
    Calls Try.prog 27 #[.agg (rawS h u).toArray, .agg (rawS h' u').toArray] w fun e w' => e = .returned (.bool (tog (.mk h arms) (.mk h' arms'))) ∧ Below w.heap.size w w' := by
  have hbel : Below w.heap.size w ((w.alloc (.cells (rawS h u).toArray 38)).alloc (.cells (rawS h' u').toArray 38)) := ((Below.refl _ _).alloc (Nat.le_refl _) _).alloc (by simp) _
  have hq := setsStm_any (ho.stay (Stay.below hbel)) (hv.stay (Stay.below hbel)) h.name
  have HB := Lib.hid hbel
  obtain ⟨S, HS⟩ : ∃ S, Hid (tog (.mk h arms) (.mk h' arms') = S) := ⟨_, Lib.hid rfl⟩
  obtain ⟨T, HT⟩ : ∃ T, Hid (setsS h.name (.mk h arms) = T) := ⟨_, Lib.hid rfl⟩
  have HE := HS.out
  rw [HS.out]
  unfold tog at HE
  have HE : (decide (h.op = 5 ∧ h'.op = 5 ∧ h.name = h'.name) && !setsS h.name (.mk h arms)) = S := HE
  rw [HT.out] at HE hq
  clear ho hv hbel HS HT
  obtain ⟨op, name, strs, names, inst, e0, e1, e2, e3, e4, args⟩ := h
  obtain ⟨op', name', strs', names', inst', e0', e1', e2', e3', e4', args'⟩ := h'
  simp only [rawS] at hq HB ⊢
  simp only at HE
  by_cases o1 : op = 5
  · by_cases o2 : op' = 5
    · by_cases o3 : name = name'
      · subst o1; subst o2; subst o3
        have ht : (name.toList == name.toList) = true := by rw [str_eq]; exact decide_eq_true rfl
        have HS : Hid ((!T) = S) := Lib.hid (by rw [← HE]; simp)
        clear HE
        go_enter Try.func27, Try.ntmps27
        go_wp2_with (go_at_call 33; (with_reducible refine hq.mono ?_); rintro e w1 ⟨rfl, hb1⟩; replace hb1 := Lib.hid hb1)
        go_ret
        exact ⟨ret_b HS.out, HB.out.trans (hb1.out.mono HB.out.size)⟩
      · subst o1; subst o2
        have ht : (name.toList == name'.toList) = false := by rw [str_eq]; exact decide_eq_false o3
        have HS : Hid (false = S) := Lib.hid (by rw [← HE]; simp [o3])
        clear HE hq
        go_enter Try.func27, Try.ntmps27
        go_wp2
        go_ret
        exact ⟨ret_b HS.out, HB.out⟩
    · subst o1
      have d2 : decide (op' = 5) = false := decide_eq_false o2
      have HS : Hid (false = S) := Lib.hid (by rw [← HE]; simp [o2])
      clear HE hq
      go_enter Try.func27, Try.ntmps27
      go_wp2
      go_ret
      exact ⟨ret_b HS.out, HB.out⟩
  · have d1 : decide (op = 5) = false := decide_eq_false o1
    have HS : Hid (false = S) := Lib.hid (by rw [← HE]; simp [o1])
    clear HE hq
    go_enter Try.func27, Try.ntmps27
    go_wp2
    go_ret
    exact ⟨ret_b HS.out, HB.out⟩
/-- join's test: the same constructor as the one that lies in the box. -/
theorem joinTest_any (a : Arm) (u : Value) (con : ByteArray) (pb : Nat) (hp : w.cell? ⟨pb, 0, none⟩ = some (.string con)) :
    Calls Try.prog 37 #[.agg #[.string a.con, u], .pointer (some ⟨pb, 0, none⟩)] w fun e w' => e = .returned (.bool (decide (a.con = con))) ∧ Below w.heap.size w w' := by
  have hlt := World.block_lt_of_cell? w _ hp
  have hp2 : (w.alloc (.cells #[.string a.con, u] 49)).cell? ⟨pb, 0, none⟩ = some (.string con) := (World.cell?_alloc_past _ _ _ hlt).trans hp
  have hbel : Below w.heap.size w (w.alloc (.cells #[.string a.con, u] 49)) := (Below.refl _ _).alloc (Nat.le_refl _) _
  have HB := Lib.hid hbel
  obtain ⟨c, hc⟩ : ∃ c, a.con = c := ⟨_, rfl⟩
  rw [hc] at HB hp2 ⊢
  clear hlt hp hbel hc
  go_enter Try.func37, Try.ntmps37
  go_wp2
  go_ret
  exact ⟨ret_b (str_eq _ _), HB.out⟩
theorem infoz38 : (Try.prog.info? 38).map (fun i => (i.zero, i.size, i.bytes)) = some (some (.agg #[.int .i64 0, .string ⟨#[]⟩, .slice none 0 0, .int .i64 0, .int .i64 0, .string ⟨#[]⟩, .int .i64 0, .slice none 0 0, .slice none 0 0, .slice none 0 0, .slice none 0 0]), 11, 184) := by kernel_rfl
theorem infoz49 : (Try.prog.info? 49).map (fun i => (i.zero, i.size, i.bytes)) = some (some (.agg #[.string ⟨#[]⟩, .slice none 0 0]), 2, 40) := by kernel_rfl
theorem eql_nil (w : World) (cap n : Nat) : (binOp .eql 22 (.slice none n cap) (.slice none 0 0)).run Try.prog w = .ok (.bool true) w := by kernel_rfl
theorem eql_some (w : World) (a : Addr) (cap n : Nat) : (binOp .eql 22 (.slice (some a) n cap) (.slice none 0 0)).run Try.prog w = .ok (.bool false) w := by kernel_rfl
theorem XE.one {e : Ex} {cs : List Value} (h : XE w A e cs) : ∀ u ∈ cs, u.oneCell' = true := by
  obtain ⟨op, name, n, cons, kids⟩ := e
  simp only [XE] at h
  obtain ⟨vc, vk, rfl, h1, row, h2, _⟩ := h
  obtain ⟨a, cap, rfl, _⟩ := Row.any h1
  obtain ⟨a', cap', rfl, _⟩ := Row.any h2
  intro u hu
  simp only [List.mem_cons, List.not_mem_nil, or_false] at hu
  rcases hu with rfl | rfl | rfl | rfl | rfl <;> rfl
/-- A statement's cells are one cell each. -/
theorem rawS_one {h : Hd} {u : Value} {arms : List Arm} (ho : HdOk w A h) (hv : VA w A u arms) : ∀ x ∈ rawS h u, x.oneCell' = true := by
  obtain ⟨h1, ⟨n, h2⟩, ⟨e, h3⟩, ⟨es, row, h4, _⟩⟩ := ho
  obtain ⟨a, cap, e1, _⟩ := Row.any h1
  obtain ⟨a', cap', e2, _⟩ := Row.any h4
  obtain ⟨a'', cap'', e3, _⟩ := hv.any
  have h5 := XE.one h3
  intro x hx
  simp only [rawS, List.mem_cons, List.not_mem_nil, or_false] at hx
  rcases hx with rfl | rfl | rfl | rfl | rfl | rfl | rfl | rfl | rfl | rfl | rfl
  · rfl
  · rfl
  · rw [e1]; rfl
  · rw [h2]; rfl
  · exact h5 _ (by simp)
  · exact h5 _ (by simp)
  · exact h5 _ (by simp)
  · exact h5 _ (by simp)
  · exact h5 _ (by simp)
  · rw [e2]; rfl
  · rw [e3]; rfl
/-- The cells of a row of statements are one cell each. -/
theorem EB.one {l : List Stm} : ∀ {cs : List Value}, EB w A l cs → ∀ u ∈ cs, u.oneCell' = true := by
  induction l with
  | nil => intro cs h; simp only [EB] at h; subst h; simp
  | cons s r ih =>
    intro cs h u hu
    simp only [EB] at h
    obtain ⟨c1, c2, rfl, h1, h2⟩ := h
    rcases List.mem_append.mp hu with q | q
    · obtain ⟨x, rfl, h3, h4⟩ := (ES_iff s c1).mp h1
      exact rawS_one h3 h4 u q
    · exact ih h2 u q
theorem EA.one {l : List Arm} : ∀ {cs : List Value}, EA w A l cs → ∀ u ∈ cs, u.oneCell' = true := by
  induction l with
  | nil => intro cs h; simp only [EA] at h; subst h; simp
  | cons s r ih =>
    intro cs h u hu
    simp only [EA] at h
    obtain ⟨c1, c2, rfl, h1, h2⟩ := h
    rcases List.mem_append.mp hu with q | q
    · obtain ⟨x, rfl, h3⟩ := (ER_iff s c1).mp h1
      obtain ⟨a, cap, e3, _⟩ := h3.any
      simp only [List.mem_cons, List.not_mem_nil, or_false] at q
      rcases q with rfl | rfl
      · rfl
      · rw [e3]; rfl
    · exact ih h2 u q
theorem addr_add (b off n : Nat) : (⟨b, off, none⟩ : Addr).add n = ⟨b, off + n, none⟩ := by
  unfold Addr.add
  split
  · rename_i h; simp [h]
  · rfl
theorem clone_any {n : Nat} {row : List Value} (h1 : Row w A v n 11 row) (hone : ∀ u ∈ row, u.oneCell' = true) (hn : n ≤ 4194304) : Calls Try.prog 38 #[v] w fun e w' => ∃ v', e = .returned v' ∧ w'.ownsRow w.heap.size 38 11 v' n row ∧ Below w.heap.size w w' := by
  obtain ⟨hl, a, cap, rfl, h3, h4, h5, h6⟩ := h1
  clear h6
  cases a with
  | none =>
    have hnil := eql_nil w cap n
    have hz : n = 0 := by
      rcases Nat.eq_zero_or_pos n with q | q
      · exact q
      · obtain ⟨b, off, e, _⟩ := h5 q; cases e
    have HL : Hid (row = []) := Lib.hid (List.eq_nil_of_length_eq_zero (by rw [hl, hz]))
    clear hl h5
    have HZ := Lib.hid hz
    clear hz
    go_enter Try.func38, Try.ntmps38
    go_wp2
    go_ret
    refine ⟨_, rfl, ?_, Below.refl _ _⟩
    rw [HL.out, HZ.out]
    exact World.ownsRow_nil _ _ _ _
  | some a =>
    obtain ⟨w1, HW1⟩ : ∃ w1, w1 = w.alloc (.cells #[] 38) := ⟨_, rfl⟩
    have hnil := eql_some w a cap n
    have hown : (w.alloc (.cells #[] 38)).ownsRow w.heap.size 38 11 (.slice (some ⟨w.heap.size, 0, none⟩) 0 0) 0 [] := World.ownsRow_made w #[] 0 (Nat.le_refl _) (by decide) (by simp)
    have hnews : ∀ j u, row[j]? = some u → (w.alloc (.cells #[] 38)).cell? (a.add j) = some u := by
      intro j u hj
      have hjl := (List.getElem?_eq_some_iff.1 hj).1
      obtain ⟨b, off, e, _, hb, hc⟩ := h5 (by omega)
      cases e
      rw [addr_add]
      exact (World.cell?_alloc_past _ _ _ hb).trans ((hc j hjl).trans hj)
    obtain ⟨i0, hi, hz0, hz1, hz2⟩ := info_parts infoz38
    have HN := Lib.hid hnews
    have HO := Lib.hid hone
    have HL := Lib.hid hl
    have HOW := Lib.hid hown
    clear hnews hone h5 hl hown HW1 w1
    go_enter Try.func38, Try.ntmps38
    go_wp2_with (at_builtin; go_must (refine wpList_append_own _ rfl _ _ 22 rfl w.heap.size 38 i0 _ 11 184 Try.underlying22 hi hz0 hz1 hz2 rfl (by decide) _ _ _ rfl HOW.out a n cap row rfl ?c1 ?c2 ?c3 ?c4 ?c5 ?c6 ?_))
    case c1 => exact HL.out
    case c2 => exact HN.out
    case c3 => exact HO.out
    case c4 => unfold maxLen; omega
    case c5 => omega
    case c6 => simp
    intro v' w' hown' hgrow' _
    have HO' := Lib.hid hown'
    have HG' := Lib.hid hgrow'
    clear hown' hgrow'
    go_wp2
    go_ret
    refine ⟨_, rfl, by simpa using HO'.out, ?_⟩
    exact ((Below.refl _ _).alloc (Nat.le_refl _) _).grown HG'.out (by simp) (fun g e => by simp [Value.ownBlock] at e; omega)
end
end Go.Proofs.Ytnbinejghkhcjaa.Fu
