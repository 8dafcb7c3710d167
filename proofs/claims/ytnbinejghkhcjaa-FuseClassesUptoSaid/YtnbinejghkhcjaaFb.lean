/- Which names are set: the walks of the program's Sets, second part. -/
import Derived.Test.YtnbinejghkhcjaaFa
namespace Go.Proofs.Ytnbinejghkhcjaa.Fu
open Go.RowKit
set_option linter.unusedVariables false
set_option linter.unusedSimpArgs false
set_option maxHeartbeats 2000000

/-- The contract of Sets for small lists. -/
def SetsC (k : Nat) : Prop := ∀ (l : List Stm) (w : World) (A : Nat → Prop) (v : Value) (nm : ByteArray), szB 1 l < k → VB w A v l → Calls Try.prog 16 #[v, .string nm] w fun e w' => e = .returned (.bool (setsB nm l)) ∧ Below w.heap.size w w'
section
variable {w : World} {A : Nat → Prop} {v : Value} {k : Nat}
theorem setsC43 (ih : SetsC k) (a : Arm) (u : Value) (nm : ByteArray) (pb : Nat) (hk : szB 1 a.body < k) (hp : w.cell? ⟨pb, 0, none⟩ = some (.string nm)) (hb : VB w A u a.body) :
    Calls Try.prog 43 #[.agg #[.string a.con, u], .pointer (some ⟨pb, 0, none⟩)] w fun e w' => e = .returned (.bool (setsB nm a.body)) ∧ Below w.heap.size w w' := by
  have hlt := World.block_lt_of_cell? w _ hp
  have hp2 : (w.alloc (.cells #[.string a.con, u] 49)).cell? ⟨pb, 0, none⟩ = some (.string nm) := (World.cell?_alloc_past _ _ _ hlt).trans hp
  have hbel : Below w.heap.size w (w.alloc (.cells #[.string a.con, u] 49)) := (Below.refl _ _).alloc (Nat.le_refl _) _
  have hq := ih a.body _ A u nm hk (hb.stay (Stay.below hbel))
  have HB := Lib.hid hbel
  clear hb hlt hp hbel
  go_enter Try.func43, Try.ntmps43
  go_wp2_with (go_at_call 16; (with_reducible refine hq.mono ?_); rintro e w1 ⟨rfl, hb1⟩; replace hb1 := Lib.hid hb1)
  go_ret
  exact ⟨rfl, HB.out.trans (hb1.out.mono HB.out.size)⟩
theorem containsArm_43 (ih : SetsC k) {l : List Arm} (nm : ByteArray) (pb : Nat) (hk : szA 1 l ≤ k) (hp : w.cell? ⟨pb, 0, none⟩ = some (.string nm)) (h : VA w A v l) :
    Calls Try.prog 42 #[v, .func (.func 43) #[] #[.pointer (some ⟨pb, 0, none⟩)]] w fun e w' => e = .returned (.bool (setsA nm l)) ∧ Below w.heap.size w w' := by
  have hlt := World.block_lt_of_cell? w _ hp
  have hq := indexArm_43 h (fun a => setsB nm a.body) (.pointer (some ⟨pb, 0, none⟩)) (fun a ha u wr hb hv => setsC43 ih a u nm pb (by have := szA_mem 1 ha; omega) ((World.cell?_of_block (a := ⟨pb, 0, none⟩) (hb.block pb hlt)).trans hp) hv)
  obtain ⟨P, HP⟩ : ∃ P, Hid (pidx (fun a : Arm => setsB nm a.body) l = P) := ⟨_, Lib.hid rfl⟩
  have HQ : Hid (decide (0 ≤ P) = setsA nm l) := Lib.hid (by rw [← HP.out, setsA_any]; exact pidx_any _ _)
  rw [HP.out] at hq
  rw [← HQ.out]
  clear h hp
  go_enter Try.func42, Try.ntmps42
  go_wp2_with (go_at_call 36; (with_reducible refine hq.mono ?_); rintro e w1 ⟨rfl, hb1⟩; replace hb1 := Lib.hid hb1)
  go_ret
  exact ⟨rfl, hb1.out⟩
theorem setsC33 (ih : SetsC k) (h : Hd) (arms : List Arm) (u : Value) (nm : ByteArray) (hk : szA 1 arms ≤ k) (ho : HdOk w A h) (hv : VA w A u arms) :
    Calls Try.prog 33 #[.agg (rawS h u).toArray, .string nm] w fun e w' => e = .returned (.bool (setsS nm (.mk h arms))) ∧ Below w.heap.size w w' := by
  have hbel : Below w.heap.size w ((w.alloc (.cells (rawS h u).toArray 38)).alloc (.cells #[.string nm] 9)) := ((Below.refl _ _).alloc (Nat.le_refl _) _).alloc (by simp) _
  have hv2 := hv.stay (Stay.below hbel)
  have ho2 := ho.stay (Stay.below hbel)
  have hcn := contains_any ho2.names nm
  have hp : ((w.alloc (.cells (rawS h u).toArray 38)).alloc (.cells #[.string nm] 9)).cell? ⟨w.heap.size + 1, 0, none⟩ = some (.string nm) := by
    have e : (w.alloc (.cells (rawS h u).toArray 38)).heap.size = w.heap.size + 1 := by simp
    rw [cell_of_row _ (w.heap.size + 1) 0 #[.string nm] 9 (0, 0) (by rw [← e]; exact heap_alloc_new _ _)]; rfl
  have hca := containsArm_43 ih nm (w.heap.size + 1) hk hp hv2
  have HB := Lib.hid hbel
  obtain ⟨S, HS⟩ : ∃ S, Hid (setsS nm (.mk h arms) = S) := ⟨_, Lib.hid rfl⟩
  obtain ⟨op, name, strs, names, inst, e0, e1, e2, e3, e4, args⟩ := h
  have HE := HS.out
  rw [HS.out]
  rw [setsS_eq] at HE
  have HE : (if op = 1 ∨ op = 2 then decide (name = nm) else if op = 3 then strs.any (fun x => decide (x = nm)) else if op = 5 then setsA nm arms else false) = S := HE
  clear hv hv2 ho ho2 hp hbel HS
  simp only [rawS] at hcn hca HB ⊢
  by_cases o1 : op = 1
  · subst o1
    rw [if_pos (Or.inl rfl)] at HE
    have HS := Lib.hid HE
    clear HE hcn hca
    go_enter Try.func33, Try.ntmps33
    go_wp2
    go_ret
    exact ⟨ret_b (by rw [← HS.out]; exact str_eq _ _), HB.out⟩
  by_cases o2 : op = 2
  · subst o2
    rw [if_pos (Or.inr rfl)] at HE
    have HS := Lib.hid HE
    clear HE hcn hca
    go_enter Try.func33, Try.ntmps33
    go_wp2
    go_ret
    exact ⟨ret_b (by rw [← HS.out]; exact str_eq _ _), HB.out⟩
  rw [if_neg (by omega)] at HE
  by_cases o3 : op = 3
  · subst o3
    rw [if_pos rfl] at HE
    have HS := Lib.hid HE
    clear HE hca
    go_enter Try.func33, Try.ntmps33
    go_wp2_with (go_at_call 41; (with_reducible refine hcn.mono ?_); rintro e w1 ⟨rfl, rfl⟩)
    go_ret
    exact ⟨ret_b HS.out, HB.out⟩
  rw [if_neg o3] at HE
  by_cases o5 : op = 5
  · subst o5
    rw [if_pos rfl] at HE
    have HS := Lib.hid HE
    clear HE hcn
    go_enter Try.func33, Try.ntmps33
    go_wp2_with (go_at_call 42; (with_reducible refine hca.mono ?_); rintro e w1 ⟨rfl, hb1⟩; replace hb1 := Lib.hid hb1)
    go_ret
    exact ⟨ret_b HS.out, HB.out.trans (hb1.out.mono HB.out.size)⟩
  rw [if_neg o5] at HE
  have d1 : decide (op = 1) = false := decide_eq_false o1
  have d2 : decide (op = 2) = false := decide_eq_false o2
  have d3 : decide (op = 3) = false := decide_eq_false o3
  have d5 : decide (op = 5) = false := decide_eq_false o5
  have HS := Lib.hid HE
  clear HE hcn hca
  go_enter Try.func33, Try.ntmps33
  go_wp2
  go_ret
  exact ⟨ret_b HS.out, HB.out⟩
theorem setsC32 (ih : SetsC k) (h : Hd) (arms : List Arm) (u : Value) (nm : ByteArray) (pb : Nat) (hk : szA 1 arms ≤ k) (hp : w.cell? ⟨pb, 0, none⟩ = some (.string nm)) (ho : HdOk w A h) (hv : VA w A u arms) :
    Calls Try.prog 32 #[.agg (rawS h u).toArray, .pointer (some ⟨pb, 0, none⟩)] w fun e w' => e = .returned (.bool (setsS nm (.mk h arms))) ∧ Below w.heap.size w w' := by
  have hlt := World.block_lt_of_cell? w _ hp
  have hp2 : (w.alloc (.cells (rawS h u).toArray 38)).cell? ⟨pb, 0, none⟩ = some (.string nm) := (World.cell?_alloc_past _ _ _ hlt).trans hp
  have hbel : Below w.heap.size w (w.alloc (.cells (rawS h u).toArray 38)) := (Below.refl _ _).alloc (Nat.le_refl _) _
  have hq := setsC33 ih h arms u nm hk (ho.stay (Stay.below hbel)) (hv.stay (Stay.below hbel))
  have HB := Lib.hid hbel
  obtain ⟨S, HS⟩ : ∃ S, Hid (setsS nm (.mk h arms) = S) := ⟨_, Lib.hid rfl⟩
  rw [HS.out] at hq ⊢
  clear hv ho hlt hp hbel HS
  obtain ⟨op, name, strs, names, inst, e0, e1, e2, e3, e4, args⟩ := h
  simp only [rawS] at hq HB hp2 ⊢
  go_enter Try.func32, Try.ntmps32
  go_wp2_with (go_at_call 33; (with_reducible refine hq.mono ?_); rintro e w1 ⟨rfl, hb1⟩; replace hb1 := Lib.hid hb1)
  go_ret
  exact ⟨rfl, HB.out.trans (hb1.out.mono HB.out.size)⟩
theorem indexStm_32 {l : List Stm} (h : VB w A v l) (p : Stm → Bool) (x : Value) (hcl : ∀ s ∈ l, ∀ (u : Value) (wr : World), Below w.heap.size w wr → HdOk wr A s.hd → VA wr A u s.arms → Calls Try.prog 32 #[.agg (rawS s.hd u).toArray, x] wr fun e w' => e = .returned (.bool (p s)) ∧ Below wr.heap.size wr w') :
    Calls Try.prog 40 #[v, .func (.func 32) #[] #[x]] w fun e w' => e = .returned (.int .i64 (pidx p l)) ∧ Below w.heap.size w w' := by
  obtain ⟨a, cap, rfl, h2, h3⟩ := h.any
  have hu : cap ≤ 9223372036854775807 := by unfold maxLen at h3; exact h3
  have HR := Lib.hid h
  have HC := Lib.hid hcl
  clear h hcl
  obtain ⟨P, HP⟩ : ∃ P, Hid (pidx p l = P) := ⟨_, Lib.hid rfl⟩
  rw [HP.out]
  obtain ⟨n, hn⟩ : ∃ n, l.length = n := ⟨_, rfl⟩
  rw [hn] at h2 ⊢
  have HN := Lib.hid hn
  clear hn
  go_enter Try.func40, Try.ntmps40
  go_wp2
  go_loopw [8] (fun i wr => ∃ k : Nat, i = .int .i64 k ∧ k ≤ n ∧ Hid (∀ b ∈ l.take k, p b = false) ∧ Hid (Below w.heap.size w wr)) (fun i _ => n - (intOf i).toNat)
  case atStart => exact ⟨0, rfl, Nat.zero_le _, Lib.hid (by simp), Lib.hid (Below.refl _ _)⟩
  case round =>
    obtain ⟨k, rfl, hk, HB, HW⟩ := hrel
    by_cases hlt : k < n
    · have hkl : k < l.length := by rw [HN.out]; exact hlt
      obtain ⟨y, hy⟩ : ∃ y, l[k]? = some y := ⟨_, getE hkl⟩
      obtain ⟨b, off, cap', u, he, _, _, _, _, hat, hho, hb⟩ := (HR.out.stay (Stay.below HW.out)).get k y hy
      simp only [Value.slice.injEq, true_and] at he
      obtain ⟨rfl, -, rfl⟩ := he
      have hq := HC.out y (List.mem_of_getElem? hy) u wr HW.out hho hb
      obtain ⟨r, hr⟩ : ∃ r, p y = r := ⟨_, rfl⟩
      rw [hr] at hq
      have HY := Lib.hid (And.intro hy hr)
      clear hy hr hb hho
      obtain ⟨⟨op, name, strs, names, inst, e0, e1, e2, e3, e4, args⟩, arms⟩ := y
      simp only [Stm.hd, rawS] at hq hat
      obtain ⟨c0, c1, c2, c3, c4, c5, c6, c7, c8, c9, c10⟩ := hat
      cases r with
      | true =>
        go_wp2_with (go_at_call 32; (with_reducible refine hq.mono ?_); rintro e w1 ⟨rfl, hb1⟩; replace hb1 := Lib.hid hb1)
        go_ret
        refine ⟨ret_i ?_, HW.out.trans (hb1.out.mono HW.out.size)⟩
        rw [← HP.out]
        exact (pidx_at _ _ k _ HY.out.1 HY.out.2 HB.out).symm
      | false =>
        go_wp2_with (go_at_call 32; (with_reducible refine hq.mono ?_); rintro e w1 ⟨rfl, hb1⟩; replace hb1 := Lib.hid hb1)
        go_roundw
        case rel => exact ⟨k + 1, by simp, by omega, Lib.hid (take_all HB.out HY.out.1 HY.out.2), Lib.hid (HW.out.trans (hb1.out.mono HW.out.size))⟩
        case measure => simp [intOf]; omega
    · go_wp2
      go_ret
      refine ⟨ret_i ?_, HW.out⟩
      rw [← HP.out]
      refine (pidx_none _ _ ?_).symm
      have := HB.out
      rwa [List.take_of_length_le (by rw [HN.out]; omega)] at this
theorem containsStm_32 (ih : SetsC k) {l : List Stm} (nm : ByteArray) (pb : Nat) (hk : szB 1 l < k + 1) (hp : w.cell? ⟨pb, 0, none⟩ = some (.string nm)) (h : VB w A v l) :
    Calls Try.prog 31 #[v, .func (.func 32) #[] #[.pointer (some ⟨pb, 0, none⟩)]] w fun e w' => e = .returned (.bool (setsB nm l)) ∧ Below w.heap.size w w' := by
  have hlt := World.block_lt_of_cell? w _ hp
  have hq := indexStm_32 h (fun s => setsS nm s) (.pointer (some ⟨pb, 0, none⟩)) (fun s hs u wr hb ho hv => by
    have := setsC32 ih s.hd s.arms u nm pb (by have := szB_mem 1 hs; omega) ((World.cell?_of_block (a := ⟨pb, 0, none⟩) (hb.block pb hlt)).trans hp) ho hv
    rwa [Stm.eta] at this)
  obtain ⟨P, HP⟩ : ∃ P, Hid (pidx (fun s : Stm => setsS nm s) l = P) := ⟨_, Lib.hid rfl⟩
  have HQ : Hid (decide (0 ≤ P) = setsB nm l) := Lib.hid (by rw [← HP.out, setsB_any]; exact pidx_any _ _)
  rw [HP.out] at hq
  rw [← HQ.out]
  clear h hp
  go_enter Try.func31, Try.ntmps31
  go_wp2_with (go_at_call 40; (with_reducible refine hq.mono ?_); rintro e w1 ⟨rfl, hb1⟩; replace hb1 := Lib.hid hb1)
  go_ret
  exact ⟨rfl, hb1.out⟩
end
theorem setsC_step (k : Nat) (ih : SetsC k) : SetsC (k + 1) := by
  intro l w A v nm hk h
  have hbel : Below w.heap.size w (w.alloc (.cells #[.string nm] 9)) := (Below.refl _ _).alloc (Nat.le_refl _) _
  have hp : (w.alloc (.cells #[.string nm] 9)).cell? ⟨w.heap.size, 0, none⟩ = some (.string nm) := by
    rw [cell_of_row _ w.heap.size 0 #[.string nm] 9 (0, 0) (heap_alloc_new _ _)]; rfl
  have hq := containsStm_32 ih nm w.heap.size hk hp (h.stay (Stay.below hbel))
  have HB := Lib.hid hbel
  clear h hp hbel
  go_enter Try.func16, Try.ntmps16
  go_wp2_with (go_at_call 31; (with_reducible refine hq.mono ?_); rintro e w1 ⟨rfl, hb1⟩; replace hb1 := Lib.hid hb1)
  go_ret
  exact ⟨rfl, HB.out.trans (hb1.out.mono HB.out.size)⟩
theorem setsC_all (k : Nat) : SetsC k := by
  induction k with
  | zero => intro l w A v nm hk; omega
  | succ k ih => exact setsC_step k ih
/-- Which names are set: fuse.Sets. -/
theorem sets_any {w : World} {A : Nat → Prop} {v : Value} {l : List Stm} (h : VB w A v l) (nm : ByteArray) : Calls Try.prog 16 #[v, .string nm] w fun e w' => e = .returned (.bool (setsB nm l)) ∧ Below w.heap.size w w' :=
  setsC_all _ l w A v nm (Nat.lt_succ_self _) h
theorem setsStm_any {w : World} {A : Nat → Prop} {h : Hd} {u : Value} {arms : List Arm} (ho : HdOk w A h) (hv : VA w A u arms) (nm : ByteArray) : Calls Try.prog 33 #[.agg (rawS h u).toArray, .string nm] w fun e w' => e = .returned (.bool (setsS nm (.mk h arms))) ∧ Below w.heap.size w w' :=
  setsC33 (setsC_all (szA 1 arms)) h arms u nm (Nat.le_refl _) ho hv
end Go.Proofs.Ytnbinejghkhcjaa.Fu
