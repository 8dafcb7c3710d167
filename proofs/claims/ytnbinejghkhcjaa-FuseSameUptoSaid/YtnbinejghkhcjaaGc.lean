/- What is known of variables, and what is done. -/
import Derived.Test.YtnbinejghkhcjaaFs
import Derived.Test.YtnbinejghkhcjaaFk
namespace Go.Proofs.Ytnbinejghkhcjaa.Fu
open Go.RowKit
set_option linter.unusedVariables false
set_option linter.unusedSimpArgs false
set_option maxHeartbeats 4000000

/-- Facts, as they lie. -/
def Facts (w : World) (A : Nat → Prop) (v : Value) (fs : List (ByteArray × ByteArray)) : Prop := Row w A v fs.length 2 (fs.flatMap fun x => [.string x.1, .string x.2])
theorem Facts.stay {w w' : World} {A A' : Nat → Prop} {v : Value} {l : List (ByteArray × ByteArray)} (h : Facts w A v l) (s : Stay w A w' A') : Facts w' A' v l := Row.stay h s
theorem pair_get : ∀ {fs : List (ByteArray × ByteArray)} {i : Nat} {x : ByteArray × ByteArray}, fs[i]? = some x → (fs.flatMap fun x => [Value.string x.1, .string x.2])[i * 2]? = some (.string x.1) ∧ (fs.flatMap fun x => [Value.string x.1, .string x.2])[i * 2 + 1]? = some (.string x.2)
  | [], i, x, h => by simp at h
  | y :: r, 0, x, h => by simp at h; subst h; simp
  | y :: r, i + 1, x, h => by
    have := pair_get (fs := r) (i := i) (x := x) (by simpa using h)
    rw [List.flatMap_cons]
    refine ⟨?_, ?_⟩
    · rw [List.getElem?_append_right (by simp; omega)]
      rw [← this.1]; congr 1; simp; omega
    · rw [List.getElem?_append_right (by simp; omega)]
      rw [← this.2]; congr 1; simp; omega
theorem Facts.get {w : World} {A : Nat → Prop} {v : Value} {fs : List (ByteArray × ByteArray)} (h : Facts w A v fs) (i : Nat) (x : ByteArray × ByteArray) (hi : fs[i]? = some x) : ∃ b off cap, v = .slice (some ⟨b, off, none⟩) fs.length cap ∧ fs.length ≤ cap ∧ cap ≤ maxLen ∧ b < w.heap.size ∧ w.cell? ⟨b, off + i * 2, none⟩ = some (.string x.1) ∧ w.cell? ⟨b, off + i * 2 + 1, none⟩ = some (.string x.2) := by
  have hil : i < fs.length := (List.getElem?_eq_some_iff.1 hi).1
  obtain ⟨b, off, cap, hv, q1, q2, q3, q4, q5⟩ := Row.form h (by omega)
  have hp := pair_get hi
  exact ⟨b, off, cap, hv, q1, q2, q4, (q5 (i * 2) (by omega)).trans hp.1, by rw [Nat.add_assoc]; exact (q5 (i * 2 + 1) (by omega)).trans hp.2⟩
theorem factOf_at {nm : ByteArray} : ∀ {fs : List (ByteArray × ByteArray)} {k : Nat} {x : ByteArray × ByteArray}, fs[k]? = some x → x.1 = nm → (∀ y ∈ fs.take k, y.1 ≠ nm) → factOf fs nm = x.2
  | [], k, x, h, _, _ => by simp at h
  | y :: r, 0, x, h, e, _ => by simp at h; subst h; rw [factOf, if_pos e]
  | y :: r, k + 1, x, h, e, hn => by
    rw [factOf, if_neg (hn y (by simp))]
    exact factOf_at (by simpa using h) e (fun z hz => hn z (by simp [hz]))
theorem factOf_none {nm : ByteArray} : ∀ {fs : List (ByteArray × ByteArray)}, (∀ y ∈ fs, y.1 ≠ nm) → factOf fs nm = ⟨#[]⟩
  | [], _ => rfl
  | y :: r, hn => by
    rw [factOf, if_neg (hn y (by simp))]
    exact factOf_none (fun z hz => hn z (by simp [hz]))
theorem is_any {w : World} {A : Nat → Prop} {v : Value} {fs : List (ByteArray × ByteArray)} (h : Facts w A v fs) (nm : ByteArray) : Calls Try.prog 26 #[v, .string nm] w fun e w' => e = .returned (.string (factOf fs nm)) ∧ w = w' := by
  obtain ⟨a, cap, rfl, h2, h3⟩ := Row.any h
  have hu : cap ≤ 9223372036854775807 := by unfold maxLen at h3; exact h3
  have HR := Lib.hid h
  clear h
  obtain ⟨P, HP⟩ : ∃ P, Hid (factOf fs nm = P) := ⟨_, Lib.hid rfl⟩
  rw [HP.out]
  obtain ⟨n, hn⟩ : ∃ n, fs.length = n := ⟨_, rfl⟩
  rw [hn] at h2 ⊢
  have HN := Lib.hid hn
  clear hn
  go_enter Try.func26, Try.ntmps26
  go_wp2
  go_loop [5] (fun i => ∃ k : Nat, i = .int .i64 k ∧ k ≤ n ∧ Hid (∀ y ∈ fs.take k, y.1 ≠ nm)) (fun i => n - (intOf i).toNat)
  case atStart => exact ⟨0, rfl, Nat.zero_le _, Lib.hid (by simp)⟩
  case round =>
    obtain ⟨k, rfl, hk, HB⟩ := hrel
    by_cases hlt : k < n
    · obtain ⟨x, hx⟩ : ∃ x, fs[k]? = some x := ⟨_, getE (by rw [HN.out]; exact hlt)⟩
      obtain ⟨b, off, cap', he, _, _, _, c1, c2⟩ := Facts.get HR.out k x hx
      simp only [Value.slice.injEq, true_and] at he
      obtain ⟨rfl, -, rfl⟩ := he
      have HX := Lib.hid hx
      clear hx
      by_cases e : x.1 = nm
      · have ht : (x.1.toList == nm.toList) = true := by rw [str_eq]; exact decide_eq_true e
        have hP : x.2 = P := by rw [← HP.out]; exact (factOf_at HX.out e HB.out).symm
        have HPP := Lib.hid hP
        clear hP
        go_wp2
        go_ret
        exact ⟨by rw [HPP.out]; rfl, rfl⟩
      · have ht : (x.1.toList == nm.toList) = false := by rw [str_eq]; exact decide_eq_false e
        go_wp2
        refine ⟨⟨k + 1, by simp, by omega, Lib.hid ?_⟩, by simp [intOf]; omega⟩
        rw [take_snoc HX.out]
        intro z hz
        rcases List.mem_append.mp hz with q | q
        · exact HB.out z q
        · simp only [List.mem_singleton] at q
          subst q; exact e
    · have hP : P = ⟨#[]⟩ := by
        rw [← HP.out]
        refine factOf_none ?_
        have := HB.out
        rwa [List.take_of_length_le (by rw [HN.out]; omega)] at this
      have HPP := Lib.hid hP
      clear hP
      go_wp2
      go_ret
      exact ⟨by rw [HPP.out]; rfl, rfl⟩
mutual
theorem dlenS (fs : List (ByteArray × ByteArray)) : ∀ s, (doneS fs s).length ≤ szS 1 s
  | .mk h arms => by
    rw [doneS, szS]
    split
    · have := dlenA fs (factOf fs h.name) arms; omega
    · simp
theorem dlenA (fs : List (ByteArray × ByteArray)) (c : ByteArray) : ∀ l, (doneA fs c l).length ≤ szA 1 l
  | [] => by simp [doneA]
  | .mk con body :: r => by
    have h1 := dlenB fs body
    have h2 := dlenA fs c r
    rw [doneA, szA, szR]
    split <;> omega
theorem dlenB (fs : List (ByteArray × ByteArray)) : ∀ l, (doneB fs l).length ≤ szB 1 l
  | [] => by simp [doneB]
  | s :: r => by
    have h1 := dlenS fs s
    have h2 := dlenB fs r
    rw [doneB, szB, List.length_append]
    omega
end
theorem doneA_at {fs : List (ByteArray × ByteArray)} {c : ByteArray} : ∀ {arms : List Arm} {j : Nat} {t : Arm}, arms[j]? = some t → t.con = c → (∀ y ∈ arms.take j, y.con ≠ c) → doneA fs c arms = doneB fs t.body
  | [], j, t, h, _, _ => by simp at h
  | y :: r, 0, t, h, e, _ => by simp at h; subst h; rw [doneA_cons, if_pos e]
  | y :: r, j + 1, t, h, e, hn => by
    rw [doneA_cons, if_neg (hn y (by simp))]
    exact doneA_at (by simpa using h) e (fun z hz => hn z (by simp [hz]))
theorem doneA_not {fs : List (ByteArray × ByteArray)} {c : ByteArray} {arms : List Arm} (hn : ∀ y ∈ arms, y.con ≠ c) : doneA fs c arms = [] := by
  refine doneA_none fs c arms (fun h => ?_)
  obtain ⟨y, hy, e⟩ := List.mem_map.mp h
  exact hn y hy e
/-- What done's loop has made: its own row; all else lies in A. -/
def DO (W wr : World) (A : Nat → Prop) (v : Value) (out : List Stm) : Prop := ∃ row, Below W.heap.size W wr ∧ wr.ownsRow W.heap.size 38 11 v out.length row ∧ EB wr A out row
def DoneC (k : Nat) : Prop := ∀ (l : List Stm) (fs : List (ByteArray × ByteArray)) (w : World) (A : Nat → Prop) (v vf : Value), szB 1 l < k → szB 1 l ≤ 2097152 → (∀ b, A b → b < w.heap.size) → VB w A v l → Facts w A vf fs →
  Calls Try.prog 12 #[v, vf] w fun e w' => ∃ v', e = .returned v' ∧ DO w w' A v' (doneB fs l)
theorem doneB_take {fs : List (ByteArray × ByteArray)} {l : List Stm} {m : Nat} {s : Stm} (h : l[m]? = some s) : doneB fs (l.take (m + 1)) = doneB fs (l.take m) ++ doneS fs s := by
  rw [take_snoc h, doneB_append]; simp [doneB]
theorem szB_takeget {l : List Stm} {m : Nat} {s : Stm} (h : l[m]? = some s) : szB 1 (l.take m) + szS 1 s ≤ szB 1 l := by
  have hml := (List.getElem?_eq_some_iff.1 h).1
  have h2 := szB_append 1 (l.take m) (l.drop m)
  rw [List.take_append_drop, List.drop_eq_getElem_cons hml, (List.getElem?_eq_some_iff.1 h).2] at h2
  simp only [szB] at h2
  omega
theorem szB_taken (l : List Stm) (m : Nat) : szB 1 (l.take m) ≤ szB 1 l := by
  have h2 := szB_append 1 (l.take m) (l.drop m)
  rw [List.take_append_drop] at h2
  omega
theorem stay_low {W w1 w2 : World} {A : Nat → Prop} (hA : ∀ b, A b → b < W.heap.size) (h1 : Below W.heap.size W w1) (h2 : Below W.heap.size W w2) (hs : w1.heap.size ≤ w2.heap.size) : Stay w1 A w2 A :=
  ⟨hs, fun b _ ha => ⟨ha, (h2.block b (hA b ha)).trans (h1.block b (hA b ha)).symm⟩⟩
set_option maxRecDepth 100000 in
theorem done_step {k : Nat} (ih : DoneC k) : DoneC (k + 1) := by
  intro l fs W A v vf hk hN hA h hf
  obtain ⟨a, cap, rfl, h2, h3⟩ := h.any
  obtain ⟨af, capf, rfl, hf2, hf3⟩ := Row.any hf
  have hu : cap ≤ 9223372036854775807 := by unfold maxLen at h3; exact h3
  obtain ⟨n, hn⟩ : ∃ n, l.length = n := ⟨_, rfl⟩
  obtain ⟨nf, hnf⟩ : ∃ nf, fs.length = nf := ⟨_, rfl⟩
  rw [hn] at h2 h ⊢
  rw [hnf] at hf2 hf ⊢
  have HV := Lib.hid h
  have HF := Lib.hid hf
  have HK := Lib.hid (And.intro hk hN)
  have HN := Lib.hid hn
  have IH := Lib.hid ih
  have HA := Lib.hid hA
  clear hn h hk hN ih hA hf hnf
  go_enter Try.func12, Try.ntmps12
  go_wp2
  go_loopw [5, 6] (fun vo i wr => ∃ m : Nat, i = .int .i64 m ∧ m ≤ n ∧ Hid (DO W wr A vo (doneB fs (l.take m)))) (fun _ i _ => n - (intOf i).toNat)
  case atStart => exact ⟨0, rfl, Nat.zero_le _, Lib.hid ⟨[], Below.refl _ _, World.ownsRow_nil _ _ _ _, by simp [EB, doneB]⟩⟩
  case round =>
    obtain ⟨m, rfl, hm, HJ⟩ := hrel
    have hbel : Below W.heap.size W wr := by obtain ⟨row, q, _⟩ := HJ.out; exact q
    have HW := Lib.hid hbel
    clear hbel
    by_cases hlt : m < n
    · have hml : m < l.length := by rw [HN.out]; exact hlt
      obtain ⟨y, hy⟩ : ∃ y, l[m]? = some y := ⟨_, getE hml⟩
      obtain ⟨b, off, _, u, he, _, _, _, hbs, hat, hho, hva⟩ := (HV.out.stay (Stay.below HW.out)).get m y hy
      simp only [Value.slice.injEq] at he
      obtain ⟨rfl, hnl, rfl⟩ := he
      obtain ⟨h, arms⟩ := y
      obtain ⟨op, name, strs, names, inst, e0, e1, e2, e3, e4, args⟩ := h
      simp only [Stm.hd, Stm.arms, rawS] at hat hva
      obtain ⟨a2, n2, p2, i3, a9, n9, p9, x0, x1, x2, a7, n7, p7, a8, n8, p8, f2, f3, f4, f5, f6, f7, f8, f9⟩ := hho.forms
      subst f2; subst f3; subst f4; subst f5; subst f6; subst f7; subst f8; subst f9
      obtain ⟨c0, c1, c2, c3, c4, c5, c6, c7, c8, c9, c10⟩ := hat
      obtain ⟨au, cu, rfl, hcu1, hcu2⟩ := hva.any
      have hcu3 : cu ≤ 9223372036854775807 := by unfold maxLen at hcu2; exact hcu2
      obtain ⟨na, hna⟩ : ∃ na, arms.length = na := ⟨_, rfl⟩
      rw [hna] at c10 hcu1
      obtain ⟨row, hb3, hown, hea⟩ := HJ.out
      obtain ⟨no, hno⟩ : ∃ no, (doneB fs (l.take m)).length = no := ⟨_, rfl⟩
      have hnob : no ≤ 2097152 := by
        have h1 := dlenB fs (l.take m)
        have h2 := szB_taken l m
        have h3 := HK.out.2
        omega
      rw [hno] at hown
      obtain ⟨a3, co3, rfl, hc31, hc32⟩ := own_form hown
      have HB := Lib.hid (And.intro hva (And.intro hna (And.intro hho hy)))
      have HO := Lib.hid (And.intro hown (And.intro hea hno))
      obtain ⟨i0, hi, hz0, hz1, hz2⟩ := info_parts infoz38
      clear hva hna hho hy hown hea hno hcu2 hnl hb3
      by_cases o5 : op = 5
      · subst o5
        obtain ⟨c, hc⟩ : ∃ c, factOf fs name = c := ⟨_, rfl⟩
        have hds : doneS fs (.mk ⟨5, name, strs, .slice a2 n2 p2, .int .i64 i3, .int .i64 x0, .string x1, .int .i64 x2, .slice a7 n7 p7, .slice a8 n8 p8, .slice a9 n9 p9⟩ arms) = doneA fs c arms := by rw [← hc]; exact doneS_guard fs _ _ rfl
        have HDS := Lib.hid (And.intro hds hc)
        clear hds hc
        obtain ⟨p, hp⟩ : ∃ p, wr.heap.size = p := ⟨_, rfl⟩
        obtain ⟨w1, hw1⟩ : ∃ w1, wr.alloc (.cells #[.int .i64 5, .string name, .slice a2 n2 p2, .int .i64 i3, .int .i64 x0, .string x1, .int .i64 x2, .slice a7 n7 p7, .slice a8 n8 p8, .slice a9 n9 p9, .slice au na cu] 38) = w1 := ⟨_, rfl⟩
        have hpb : w1.heap[p]? = some (.cells #[.int .i64 5, .string name, .slice a2 n2 p2, .int .i64 i3, .int .i64 x0, .string x1, .int .i64 x2, .slice a7 n7 p7, .slice a8 n8 p8, .slice a9 n9 p9, .slice au na cu] 38 (0, 0)) := by rw [← hw1, ← hp]; exact heap_alloc_new _ _
        have HPB := Lib.hid hpb
        have HB1 : Hid (Below wr.heap.size wr w1) := Lib.hid (by rw [← hw1]; exact (Below.refl _ _).alloc (Nat.le_refl _) _)
        have HWQ := Lib.hid (And.intro hw1 hp)
        clear hpb hw1 hp
        go_wp2
        rw [HWQ.out.1, HWQ.out.2]
        clear c0 c1 c2 c3 c4 c5 c6 c7 c8 c9 c10
        go_loopw [5, 8] (fun vo i wr => vo = .slice a3 no co3 ∧ ∃ j : Nat, i = .int .i64 j ∧ j ≤ na ∧ Hid (∀ t ∈ arms.take j, t.con ≠ c) ∧ Hid (Below w1.heap.size w1 wr)) (fun _ i _ => na - (intOf i).toNat)
        case atStart => exact ⟨rfl, 0, rfl, Nat.zero_le _, Lib.hid (by simp), Lib.hid (Below.refl _ _)⟩
        case round =>
          obtain ⟨rfl, j, rfl, hj, HN2, HX2⟩ := hrel
          have hpl := (Array.getElem?_eq_some_iff.1 HPB.out).1
          have g1 : wr.cell? ⟨p, 1, none⟩ = some (.string name) := by rw [cell_of_row _ p 1 _ 38 (0, 0) ((HX2.out.block p hpl).trans HPB.out)]; rfl
          have g10 : wr.cell? ⟨p, 10, none⟩ = some (.slice au na cu) := by rw [cell_of_row _ p 10 _ 38 (0, 0) ((HX2.out.block p hpl).trans HPB.out)]; rfl
          have HXX := Lib.hid (HB1.out.trans (HX2.out.mono HB1.out.size))
          have HWX := Lib.hid (HW.out.trans (HXX.out.mono HW.out.size))
          have hpl2 : p < wr.heap.size := Nat.lt_of_lt_of_le hpl HX2.out.size
          clear hpl
          by_cases hlt2 : j < na
          · obtain ⟨t, ht⟩ : ∃ t, arms[j]? = some t := ⟨_, getE (by rw [HB.out.2.1]; exact hlt2)⟩
            obtain ⟨b3, off3, _, u3, he, _, _, _, hb3l, s1, s2, hb3v⟩ := (HB.out.1.stay (Stay.below HXX.out)).get j t ht
            simp only [Value.slice.injEq, true_and] at he
            obtain ⟨rfl, -, rfl⟩ := he
            obtain ⟨con, body⟩ := t
            simp only [Arm.con, Arm.body] at s1 s2 hb3v
            obtain ⟨ab, cb, rfl, _, _⟩ := hb3v.any
            obtain ⟨nb, hnb⟩ : ∃ nb, body.length = nb := ⟨_, rfl⟩
            rw [hnb] at s2 hb3v
            have his : ∀ w', Below wr.heap.size wr w' → Calls Try.prog 26 #[.slice af nf capf, .string name] w' fun e w'' => e = .returned (.string c) ∧ w' = w'' := fun w' hb => by
              have := is_any (HF.out.stay (Stay.below (HWX.out.trans (hb.mono HWX.out.size)))) name
              rw [HDS.out.2] at this
              exact this
            have hSS : ∀ w', Below wr.heap.size wr w' → w'.cell? ⟨p, 1, none⟩ = some (.string name) ∧ w'.cell? ⟨p, 10, none⟩ = some (.slice (some ⟨b3, off3, none⟩) na cu) ∧ w'.cell? ⟨b3, off3 + j * 2, none⟩ = some (.string con) ∧ w'.cell? ⟨b3, off3 + j * 2 + 1, none⟩ = some (.slice ab nb cb) :=
              fun w' hb => ⟨(World.cell?_of_block (hb.block _ hpl2)).trans g1, (World.cell?_of_block (hb.block _ hpl2)).trans g10, (World.cell?_of_block (hb.block _ hb3l)).trans s1, (World.cell?_of_block (hb.block _ hb3l)).trans s2⟩
            have hi1 := his _ ((Below.refl wr.heap.size wr).drew)
            have hl5 : (0 : Int) ≤ (j : Int) := by omega
            have hl6 : (j : Int) < (na : Int) := by omega
            have HT := Lib.hid (And.intro ht hb3v)
            clear ht hb3v hnb his
            by_cases ec : con = c
            · have hs : (con.toList == c.toList) = true := by rw [str_eq]; exact decide_eq_true ec
              have hsz : szB 1 body < k ∧ szB 1 body ≤ 2097152 := by
                have h1 := szB_mem 1 (List.mem_of_getElem? HB.out.2.2.2)
                have h2 := szA_mem 1 (List.mem_of_getElem? HT.out.1)
                simp only [Stm.arms, Arm.body] at h1 h2
                have h3 := HK.out
                omega
              obtain ⟨nd, hnd⟩ : ∃ nd, (doneB fs body).length = nd := ⟨_, rfl⟩
              have hndb : nd ≤ 2097152 := by have := dlenB fs body; omega
              have HND := Lib.hid hnd
              have HDA : Hid (doneA fs c arms = doneB fs body) := Lib.hid (doneA_at HT.out.1 ec HN2.out)
              have HSZ := Lib.hid hsz
              clear hnd hsz
              go_wp2
              go_region_held3 (fun w' => w'.cell? ⟨p, 1, none⟩ = some (.string name) ∧ w'.cell? ⟨p, 10, none⟩ = some (.slice (some ⟨b3, off3, none⟩) na cu) ∧ w'.cell? ⟨b3, off3 + j * 2, none⟩ = some (.string con) ∧ w'.cell? ⟨b3, off3 + j * 2 + 1, none⟩ = some (.slice ab nb cb))
                (first | (exact hSS _ (Below.refl _ _)) | (exact hSS _ ((Below.refl wr.heap.size wr).drew)))
                (first
                  | (go_at_call 26
                     (first | (with_reducible refine hi1.mono ?_) | (refine hi1.mono ?_))
                     rintro e w3 ⟨rfl, rfl⟩)
                  | fail)
              refine gen_world' (S := fun w3 => Below wr.heap.size wr w3) ((Below.refl _ _).drew) ?_
              intro w3 hb3
              obtain ⟨r1, r10, t1, t2⟩ := hSS w3 hb3
              have HB3 := Lib.hid hb3
              have HW3 := Lib.hid (HWX.out.trans (hb3.mono HWX.out.size))
              have hcl := IH.out body fs w3 A (.slice ab nb cb) (.slice af nf capf) HSZ.out.1 HSZ.out.2 (fun b hb => Nat.lt_of_lt_of_le (HA.out b hb) HW3.out.size) (HT.out.2.stay (Stay.below hb3)) (HF.out.stay (Stay.below HW3.out))
              clear hSS hi1 g1 g10 s1 s2 hb3
              go_wp2_with (first
                | (go_at_call 12
                   (with_reducible refine hcl.mono ?_)
                   rintro e w4 ⟨v4, rfl, row4, hb4, ho4, he4⟩
                   rw [HND.out] at ho4
                   obtain ⟨a4, cp4, rfl, hc41, hc42⟩ := own_form ho4
                   have hr4 : Row w4 (fun _ => True) (.slice a4 nd cp4) nd 11 row4 := Row.own ho4 (fun _ _ => trivial)
                   have hw4 : Below wr.heap.size wr w4 := HB3.out.trans (hb4.mono HB3.out.size)
                   have hx4 : Below _ _ w4 := HXX.out.trans (hw4.mono HXX.out.size)
                   have hown4 := own_keep HO.out.1 (fun g hg => hx4.block g (HO.out.1.lt g hg).2)
                   have HE4 := Lib.hid (And.intro he4 (And.intro hr4 (And.intro hown4 (EB.one he4))))
                   have HW4 : Hid (Below W.heap.size W w4) := Lib.hid (HW.out.trans (hx4.mono HW.out.size))
                   have HX4 := Lib.hid hx4
                   clear ho4 he4 hr4 hb4 hw4 hx4 hown4)
                | (at_builtin; go_must (refine wpList_append_row (A := fun _ => True) rfl _ _ 22 rfl W.heap.size 38 i0 _ 11 184 Try.underlying22 hi hz0 hz1 hz2 rfl (by decide) _ _ _ rfl HE4.out.2.2.1 _ nd row4 rfl ?c1 ?c2 ?c3 ?c4 ?c5 ?_)))
              case c1 => exact HE4.out.2.1
              case c2 => exact HE4.out.2.2.2
              case c3 => unfold maxLen; omega
              case c4 => omega
              case c5 => exact HW4.out.size
              intro v5 w5 hown5 hgrow5
              have hb5 : Below W.heap.size W w5 := HW4.out.grown hgrow5 HW4.out.size (fun g hg => (HO.out.1.lt g hg).1)
              have hs5 : w4.heap.size ≤ w5.heap.size := hgrow5.size
              have HD5 : Hid (DO W w5 A v5 (doneB fs (l.take (m + 1)))) := Lib.hid (by
                rw [doneB_take HB.out.2.2.2, HDS.out.1, HDA.out]
                refine ⟨row ++ row4, hb5, ?_, EB_append (EB.stay (stay_low HA.out HW.out hb5 (Nat.le_trans HX4.out.size hs5)) _ _ HO.out.2.1) (EB.stay (stay_low HA.out HW4.out hb5 hs5) _ _ HE4.out.1)⟩
                rw [List.length_append, HO.out.2.2, HND.out]; exact hown5)
              clear hown5 hgrow5 hb5 hs5 r1 r10 t1 t2
              go_wp2
              exact ⟨⟨m + 1, by simp, by omega, HD5⟩, by simp [intOf]; omega⟩
            · have hs : (con.toList == c.toList) = false := by rw [str_eq]; exact decide_eq_false ec
              have HEC := Lib.hid ec
              go_wp2
              go_region_held3 (fun w' => w'.cell? ⟨p, 1, none⟩ = some (.string name) ∧ w'.cell? ⟨p, 10, none⟩ = some (.slice (some ⟨b3, off3, none⟩) na cu) ∧ w'.cell? ⟨b3, off3 + j * 2, none⟩ = some (.string con) ∧ w'.cell? ⟨b3, off3 + j * 2 + 1, none⟩ = some (.slice ab nb cb))
                (first | (exact hSS _ (Below.refl _ _)) | (exact hSS _ ((Below.refl wr.heap.size wr).drew)))
                (first
                  | (go_at_call 26
                     (first | (with_reducible refine hi1.mono ?_) | (refine hi1.mono ?_))
                     rintro e w3 ⟨rfl, rfl⟩)
                  | fail)
              refine gen_world' (S := fun w3 => Below wr.heap.size wr w3) ((Below.refl _ _).drew) ?_
              intro w3 hb3
              have HX3 := Lib.hid (HX2.out.trans (hb3.mono HX2.out.size))
              clear hSS hi1 g1 g10 s1 s2 hb3 ec
              go_wp2
              refine ⟨⟨rfl, j + 1, by simp, by omega, Lib.hid ?_, HX3⟩, by simp [intOf]; omega⟩
              rw [take_snoc HT.out.1]
              intro z hz
              rcases List.mem_append.mp hz with q | q
              · exact HN2.out z q
              · simp only [List.mem_singleton] at q
                subst q; exact HEC.out
          · have HDN : Hid (DO W wr A (.slice a3 no co3) (doneB fs (l.take (m + 1)))) := Lib.hid (by
              have hn := HN2.out
              rw [show arms.take j = arms from List.take_of_length_le (by rw [HB.out.2.1]; omega)] at hn
              rw [doneB_take HB.out.2.2.2, HDS.out.1, doneA_not hn, List.append_nil]
              refine ⟨row, HWX.out, ?_, EB.stay (Stay.below HXX.out) _ _ HO.out.2.1⟩
              rw [HO.out.2.2]
              exact own_keep HO.out.1 (fun g hg => HXX.out.block g (HO.out.1.lt g hg).2))
            go_wp2
            exact ⟨⟨m + 1, by simp, by omega, HDN⟩, by simp [intOf]; omega⟩
      · have d5 : decide (op = 5) = false := decide_eq_false o5
        have d5' : (op == 5) = false := by simpa using o5
        have hds : doneS fs (.mk ⟨op, name, strs, .slice a2 n2 p2, .int .i64 i3, .int .i64 x0, .string x1, .int .i64 x2, .slice a7 n7 p7, .slice a8 n8 p8, .slice a9 n9 p9⟩ arms) = [.mk ⟨op, name, strs, .slice a2 n2 p2, .int .i64 i3, .int .i64 x0, .string x1, .int .i64 x2, .slice a7 n7 p7, .slice a8 n8 p8, .slice a9 n9 p9⟩ []] := doneS_else fs _ _ o5
        have HDS := Lib.hid hds
        clear hds
        go_wp2_with (at_builtin; go_must (refine wpList_append_lies _ rfl _ _ 22 rfl W.heap.size 38 i0 _ 11 184 Try.underlying22 hi hz0 hz1 hz2 rfl (by decide) _ _ _ rfl ((HO.out.1.alloc _).alloc _) ⟨wr.heap.size + 1, 0, none⟩ 1 1 [.int .i64 op, .string name, .slice a2 n2 p2, .int .i64 i3, .int .i64 x0, .string x1, .int .i64 x2, .slice a7 n7 p7, .slice a8 n8 p8, .slice a9 n9 p9, .slice none 0 0] rfl rfl ?g1 ?g2 (by decide) ?g3 ?g4 ?g5 (wr.heap.size + 2) (by simp) ?_))
        case g2 => exact ⟨rfl, rfl, rfl, rfl, rfl, rfl, rfl, rfl, rfl, rfl, rfl⟩
        case g3 => unfold maxLen; omega
        case g4 => omega
        case g5 => have := HW.out.size; omega
        intro gg capg w4 hown4 hgrow4 hat4 hlt4
        have hb4 : Below W.heap.size W w4 := ((HW.out.alloc HW.out.size _).alloc (by have := HW.out.size; simp; omega) _).grown hgrow4 (by have := HW.out.size; simp; omega) (fun g hg => (HO.out.1.lt g hg).1)
        have hs4 : wr.heap.size ≤ w4.heap.size := by have := hgrow4.size; simp at this; omega
        have hst := stay_low HA.out HW.out hb4 hs4
        have HD4 : Hid (DO W w4 A (.slice (some ⟨gg, 0, none⟩) (no + 1) capg) (doneB fs (l.take (m + 1)))) := Lib.hid (by
          rw [doneB_take HB.out.2.2.2, HDS.out]
          refine ⟨row ++ rawS ⟨op, name, strs, .slice a2 n2 p2, .int .i64 i3, .int .i64 x0, .string x1, .int .i64 x2, .slice a7 n7 p7, .slice a8 n8 p8, .slice a9 n9 p9⟩ (.slice none 0 0), hb4, ?_, EB_append (EB.stay hst _ _ HO.out.2.1) ?_⟩
          · rw [List.length_append, HO.out.2.2]; exact hown4
          · simp only [EB]
            exact ⟨_, [], (List.append_nil _).symm, (ES_iff _ _).mpr ⟨.slice none 0 0, rfl, HB.out.2.2.1.stay hst, VA.nil _ _⟩, rfl⟩)
        clear hown4 hgrow4 hat4 hb4 hs4 hst
        go_wp2
        exact ⟨⟨m + 1, by simp, by omega, HD4⟩, by simp [intOf]; omega⟩
    · have hall : l.take m = l := List.take_of_length_le (by rw [HN.out]; omega)
      rw [hall] at HJ
      have hj := HJ.out
      obtain ⟨row, hb, hown, hea⟩ := HJ.out
      obtain ⟨ao, co, rfl, _⟩ := own_form hown
      have HJJ := Lib.hid hj
      clear hb hown hea hj hall
      go_wp2
      go_ret
      exact ⟨_, rfl, HJJ.out⟩
theorem done_all : ∀ k, DoneC k
  | 0 => fun l fs w A v vf h => absurd h (Nat.not_lt_zero _)
  | k + 1 => done_step (done_all k)
/-- What is done reads as it should. -/
theorem done_any {w : World} {A : Nat → Prop} {v vf : Value} {l : List Stm} {fs : List (ByteArray × ByteArray)} (h : VB w A v l) (hf : Facts w A vf fs) (hs : szB 1 l ≤ 2097152) :
    Calls Try.prog 12 #[v, vf] w fun e w' => ∃ v', e = .returned v' ∧ VB w' (fun b => A b ∨ w.heap.size ≤ b) v' (doneB fs l) ∧ Below w.heap.size w w' := by
  have hw : Stay w A w (fun b => A b ∧ b < w.heap.size) := ⟨Nat.le_refl _, fun b hb ha => ⟨⟨ha, hb⟩, rfl⟩⟩
  refine (done_all _ l fs w (fun b => A b ∧ b < w.heap.size) v vf (Nat.lt_succ_self _) hs (fun b hb => hb.2) (h.stay hw) (hf.stay hw)).mono ?_
  rintro e w' ⟨v', rfl, row, hb, ho, he⟩
  exact ⟨v', rfl, VB.own ho rfl (fun g hg => Or.inr (ho.lt g hg).1) (EB.stay (Stay.weaken _ (fun b _ q => Or.inl q.1)) _ _ he), hb⟩
end Go.Proofs.Ytnbinejghkhcjaa.Fu
