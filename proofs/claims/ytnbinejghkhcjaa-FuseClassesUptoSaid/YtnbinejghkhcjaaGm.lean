/- The program's Classes. -/
import Derived.Test.YtnbinejghkhcjaaGk
import Derived.Test.YtnbinejghkhcjaaFx
namespace Go.Proofs.Ytnbinejghkhcjaa.Fu
open Go.RowKit
set_option linter.unusedVariables false
set_option linter.unusedSimpArgs false
set_option maxHeartbeats 4000000
theorem infoz43 : (Try.prog.info? 43).map (fun i => (i.zero, i.size, i.bytes)) = some (some (.agg #[.string ⟨#[]⟩, .slice none 0 0, .slice none 0 0, .slice none 0 0, .slice none 0 0, .slice none 0 0, .slice none 0 0, .slice none 0 0]), 8, 184) := by kernel_rfl
theorem eqlC_nil (w : World) (cap n : Nat) : (binOp .eql 39 (.slice none n cap) (.slice none 0 0)).run Try.prog w = .ok (.bool true) w := by kernel_rfl
theorem eqlC_some (w : World) (a : Addr) (cap n : Nat) : (binOp .eql 39 (.slice (some a) n cap) (.slice none 0 0)).run Try.prog w = .ok (.bool false) w := by kernel_rfl
section
variable {w : World} {A : Nat → Prop} {v : Value}
theorem cloneC_any {n : Nat} {row : List Value} (h1 : Row w A v n 8 row) (hone : ∀ u ∈ row, u.oneCell' = true) (hn : n ≤ 4194304) : Calls Try.prog 34 #[v] w fun e w' => ∃ v', e = .returned v' ∧ w'.ownsRow w.heap.size 43 8 v' n row ∧ Below w.heap.size w w' := by
  obtain ⟨hl, a, cap, rfl, h3, h4, h5, h6⟩ := h1
  clear h6
  cases a with
  | none =>
    have hnil := eqlC_nil w cap n
    have hz : n = 0 := by
      rcases Nat.eq_zero_or_pos n with q | q
      · exact q
      · obtain ⟨b, off, e, _⟩ := h5 q; cases e
    have HL : Hid (row = []) := Lib.hid (List.eq_nil_of_length_eq_zero (by rw [hl, hz]))
    clear hl h5
    have HZ := Lib.hid hz
    clear hz
    go_enter Try.func34, Try.ntmps34
    go_wp2
    go_ret
    refine ⟨_, rfl, ?_, Below.refl _ _⟩
    rw [HL.out, HZ.out]
    exact World.ownsRow_nil _ _ _ _
  | some a =>
    obtain ⟨w1, HW1⟩ : ∃ w1, w1 = w.alloc (.cells #[] 43) := ⟨_, rfl⟩
    have hnil := eqlC_some w a cap n
    have hown : (w.alloc (.cells #[] 43)).ownsRow w.heap.size 43 8 (.slice (some ⟨w.heap.size, 0, none⟩) 0 0) 0 [] := World.ownsRow_made w #[] 0 (Nat.le_refl _) (by decide) (by simp)
    have hnews : ∀ j u, row[j]? = some u → (w.alloc (.cells #[] 43)).cell? (a.add j) = some u := by
      intro j u hj
      have hjl := (List.getElem?_eq_some_iff.1 hj).1
      obtain ⟨b, off, e, _, hb, hc⟩ := h5 (by omega)
      cases e
      rw [addr_add]
      exact (World.cell?_alloc_past _ _ _ hb).trans ((hc j hjl).trans hj)
    obtain ⟨i0, hi, hz0, hz1, hz2⟩ := info_parts infoz43
    have HN := Lib.hid hnews
    have HO := Lib.hid hone
    have HL := Lib.hid hl
    have HOW := Lib.hid hown
    clear hnews hone h5 hl hown HW1 w1
    go_enter Try.func34, Try.ntmps34
    go_wp2_with (at_builtin; go_must (refine wpList_append_own _ rfl _ _ 39 rfl w.heap.size 43 i0 _ 8 184 Try.underlying39 hi hz0 hz1 hz2 rfl (by decide) _ _ _ rfl HOW.out a n cap row rfl ?c1 ?c2 ?c3 ?c4 ?c5 ?c6 ?_))
    case c1 => exact HL.out
    case c2 => exact HN.out
    case c3 => exact HO.out
    case c4 => unfold maxLen; omega
    case c5 => omega
    case c6 => simp
    intro v' w' hown' hgrow' _
    have HO' := Lib.hid hown'
    have HG' := Lib.hid hgrow'
    clear hown' hgrow'
    go_wp2
    go_ret
    refine ⟨_, rfl, by simpa using HO'.out, ?_⟩
    exact ((Below.refl _ _).alloc (Nat.le_refl _) _).grown HG'.out (by simp) (fun g e => by simp [Value.ownBlock] at e; omega)
end
def fz (K : Nat) (c : Cl) : Cl := { c with step := fuseF K c.step }
/-- What Classes' loop keeps true. -/
def CJ (W wr : World) (A : Nat → Prop) (v : Value) (l : List Cl) : Prop := ∃ row, Below W.heap.size W wr ∧ wr.ownsRow W.heap.size 43 8 v l.length row ∧ EC wr (fun b => (A b ∨ W.heap.size ≤ b) ∧ v.ownBlock ≠ some b) l row
theorem EC_of {w : World} {A : Nat → Prop} : ∀ {l : List Cl} {cs : List Value}, cs.length = l.length * 8 → (∀ i c, l[i]? = some c → ∃ u, (∀ j, j < 8 → cs[i * 8 + j]? = (rawC c u)[j]?) ∧ ClOk w A c ∧ VB w A u c.step) → EC w A l cs
  | [], cs, hl, _ => List.eq_nil_of_length_eq_zero (by simpa using hl)
  | c :: r, cs, hl, h => by
    obtain ⟨u, h1, h2, h3⟩ := h 0 c rfl
    simp only [List.length_cons] at hl
    refine ⟨u, cs.drop 8, ?_, h2, h3, EC_of (by rw [List.length_drop]; omega) (fun i x hx => ?_)⟩
    · conv => lhs; rw [← List.take_append_drop 8 cs]
      congr 1
      apply List.ext_getElem?
      intro j
      by_cases hj : j < 8
      · rw [List.getElem?_take, if_pos hj, ← h1 j hj]; congr 1; omega
      · rw [List.getElem?_eq_none (by rw [List.length_take]; omega), List.getElem?_eq_none (by simp [rawC]; omega)]
    · obtain ⟨u', q1, q2, q3⟩ := h (i + 1) x (by simpa using hx)
      exact ⟨u', fun j hj => by rw [List.getElem?_drop, ← q1 j hj]; congr 1; omega, q2, q3⟩
theorem CJ.get {W wr : World} {A : Nat → Prop} {l : List Cl} {n co j : Nat} {ao : Option Addr} {c : Cl} (h : CJ W wr A (.slice ao n co) l) (hn : l.length = n) (hc : l[j]? = some c) :
    ∃ g u, ao = some ⟨g, 0, none⟩ ∧ wr.cell? ⟨g, j * 8 + 7, none⟩ = some u ∧ wr.frozen? ⟨g, j * 8 + 7, none⟩ = false ∧ g < wr.heap.size ∧ VB wr (fun b => (A b ∨ W.heap.size ≤ b) ∧ (Value.slice ao n co).ownBlock ≠ some b) u c.step := by
  subst hn
  obtain ⟨row, h1, h2, h3⟩ := h
  have hjl := (List.getElem?_eq_some_iff.1 hc).1
  obtain ⟨u, q1, _, q3⟩ := EC_get j c h3 hc
  rcases h2.2 with ⟨_, e⟩ | ⟨g, capo, cur, e, _, hg, _, _, _⟩
  · omega
  · cases e
    exact ⟨g, u, rfl, (h2.cellAt (j * 8 + 7) (by omega)).trans (q1 7 (by decide)), h2.frozenAt _, (Array.getElem?_eq_some_iff.1 hg).1, q3⟩
theorem CJ.step {W wr w' : World} {A : Nat → Prop} {l : List Cl} {g n co j : Nat} {c : Cl} {body' : List Stm} {v' : Value} (h : CJ W wr A (.slice (some ⟨g, 0, none⟩) n co) l) (hn : l.length = n) (hc : l[j]? = some c)
    (hb : Below wr.heap.size wr w') (hv : VB w' (fun b => ((A b ∨ W.heap.size ≤ b) ∧ (Value.slice (some ⟨g, 0, none⟩) n co).ownBlock ≠ some b) ∨ wr.heap.size ≤ b) v' body') :
    CJ W (w'.setCell ⟨g, j * 8 + 7, none⟩ v') A (.slice (some ⟨g, 0, none⟩) n co) (l.set j { c with step := body' }) := by
  subst hn
  obtain ⟨row, h1, h2, h3⟩ := h
  have hjl := (List.getElem?_eq_some_iff.1 hc).1
  obtain ⟨hg1, hg2, cur, hg3⟩ := own_block h2 (g := g) rfl
  have hlen := h3.len
  have hset : ∀ b, b ≠ g → (w'.setCell ⟨g, j * 8 + 7, none⟩ v').heap[b]? = w'.heap[b]? := fun b hbg => Below.heap_setCell w' ⟨g, j * 8 + 7, none⟩ v' b hbg
  have hown' := own_keep h2 (w' := w') (fun g' e => by simp [Value.ownBlock] at e; subst e; exact hb.block _ hg2)
  have hgne : ∀ b, (Value.slice (some ⟨g, 0, none⟩) l.length co).ownBlock ≠ some b → b ≠ g := fun b q e => q (by rw [e]; rfl)
  have hst : Stay wr (fun b => (A b ∨ W.heap.size ≤ b) ∧ (Value.slice (some ⟨g, 0, none⟩) l.length co).ownBlock ≠ some b) (w'.setCell ⟨g, j * 8 + 7, none⟩ v') (fun b => (A b ∨ W.heap.size ≤ b) ∧ (Value.slice (some ⟨g, 0, none⟩) l.length co).ownBlock ≠ some b) :=
    ⟨by have := hb.size; simp [World.setCell]; exact this, fun b hbl hA => ⟨hA, (hset b (hgne b hA.2)).trans (hb.block b hbl)⟩⟩
  refine ⟨row.set (j * 8 + 7) v', (h1.trans (hb.mono h1.size)).setCell hg1 _, ?_, ?_⟩
  · have := (hown'.stored (j * 8 + 7) v').1
    simpa using this
  · refine EC_of (by simp [hlen]) fun i x hi => ?_
    by_cases e : i = j
    · subst e
      rw [List.getElem?_set_self hjl] at hi
      cases hi
      obtain ⟨u, q1, q2, q3⟩ := EC_get i c h3 hc
      refine ⟨v', fun q hq => ?_, ⟨(q2.stay hst).hi, (q2.stay hst).ho, (q2.stay hst).hv, (q2.stay hst).hm, (q2.stay hst).hf, (q2.stay hst).hn⟩, ?_⟩
      · by_cases h7 : q = 7
        · subst h7
          rw [List.getElem?_set_self (by omega)]; rfl
        · rw [List.getElem?_set_ne (by omega), q1 q hq]
          rcases q with _ | _ | _ | _ | _ | _ | _ | _ | q <;> first | rfl | omega
      · refine VB.stay hv ⟨by simp [World.setCell], fun b hbl hA => ?_⟩
        have hbg : b ≠ g := by
          rcases hA with q | q
          · exact hgne b q.2
          · omega
        refine ⟨⟨?_, fun q => ?_⟩, hset b hbg⟩
        · rcases hA with q | q
          · exact q.1
          · exact Or.inr (by have := h1.size; omega)
        · simp [Value.ownBlock] at q; exact hbg q.symm
    · rw [List.getElem?_set_ne (fun q => e q.symm)] at hi
      obtain ⟨u, q1, q2, q3⟩ := EC_get i x h3 hi
      exact ⟨u, fun q hq => by rw [List.getElem?_set_ne (by omega)]; exact q1 q hq, q2.stay hst, VB.stay q3 hst⟩
theorem halfC_get (K : Nat) (l : List Cl) (j : Nat) (c : Cl) (hc : l[j]? = some c) : ((l.take j).map (fz K) ++ l.drop j)[j]? = some c ∧ ((l.take j).map (fz K) ++ l.drop j).length = l.length ∧ ((l.take j).map (fz K) ++ l.drop j).set j (fz K c) = (l.take (j + 1)).map (fz K) ++ l.drop (j + 1) := by
  have hjl := (List.getElem?_eq_some_iff.1 hc).1
  have hl : ((l.take j).map (fz K)).length = j := by simp; omega
  have hd : l.drop j = c :: l.drop (j + 1) := by
    rw [List.drop_eq_getElem_cons hjl, (List.getElem?_eq_some_iff.1 hc).2]
  refine ⟨?_, by simp; omega, ?_⟩
  · rw [List.getElem?_append_right (by omega), hl, hd]; simp
  · rw [List.set_append_right _ _ (by omega), hl, hd, take_snoc hc]
    simp
/-- Classes: of each class the step is fused. -/
theorem classes_any {W : World} {A : Nat → Prop} {v : Value} {l : List Cl} {K : Nat} (hK : ∀ c ∈ l, szB 1 c.step < K) (hN : ∀ c ∈ l, szB 1 c.step ≤ 2097152) (hl : l.length ≤ 2097152) (hA : ∀ b, A b → b < W.heap.size) (h : VC W A v l) :
    Calls Try.prog 17 #[v] W fun e w' => ∃ v', e = .returned v' ∧ CJ W w' A v' (l.map (fz K)) := by
  obtain ⟨row, h1, h2⟩ := h
  obtain ⟨a, cap, rfl, _, _⟩ := h1.any
  have hc := cloneC_any h1 (EC.one h2) (by omega)
  obtain ⟨n, hn⟩ : ∃ n, l.length = n := ⟨_, rfl⟩
  rw [hn] at hc hl ⊢
  have HE := Lib.hid h2
  have HK := Lib.hid (And.intro hK (And.intro hN (And.intro hA hn)))
  clear h1 h2 hK hN hA hn
  go_enter Try.func17, Try.ntmps17
  go_wp2_with (go_at_call 34
               (with_reducible refine hc.mono ?_)
               rintro e w1 ⟨v1, rfl, ho1, hb1⟩
               obtain ⟨a1, c1, rfl, hc11, hc12⟩ := own_form ho1
               have HJ0 : Hid (CJ W w1 A (.slice a1 n c1) l) := Lib.hid ⟨row, hb1, by rw [HK.out.2.2.2]; exact ho1, EC.stay ⟨hb1.size, fun b hbl ha => ⟨⟨Or.inl ha, fun e => by have := (ho1.lt b e).1; have := HK.out.2.2.1 b ha; omega⟩, hb1.block b hbl⟩⟩ _ _ HE.out⟩
               clear ho1 hb1)
  go_loopw [9] (fun i wr => ∃ j : Nat, i = .int .i64 j ∧ j ≤ n ∧ Hid (CJ W wr A (.slice a1 n c1) ((l.take j).map (fz K) ++ l.drop j))) (fun i _ => n - (intOf i).toNat)
  case atStart => exact ⟨0, rfl, Nat.zero_le _, Lib.hid (by simpa using HJ0.out)⟩
  case round =>
    obtain ⟨j, rfl, hj, HX⟩ := hrel
    by_cases hlt : j < n
    · obtain ⟨c, hcj⟩ : ∃ c, l[j]? = some c := ⟨_, getE (by rw [HK.out.2.2.2]; exact hlt)⟩
      obtain ⟨q1, q2, q3⟩ := halfC_get K l j c hcj
      rw [HK.out.2.2.2] at q2
      obtain ⟨g, u, hg, k1, k2, hgl, hv⟩ := HX.out.get q2 q1
      subst hg
      obtain ⟨au, cu, rfl, _, _⟩ := hv.any
      have hf := fuse_any hv (HK.out.2.1 c (List.mem_of_getElem? hcj)) K (HK.out.1 c (List.mem_of_getElem? hcj))
      have HQ := Lib.hid (And.intro q1 (And.intro q2 q3))
      have hl1 : (0 : Int) ≤ (j : Int) := by omega
      have hl2 : (j : Int) < (n : Int) := by omega
      clear q1 q2 q3 hcj hv
      go_wp2_with (go_at_call 13
                   (with_reducible refine hf.mono ?_)
                   rintro e w2 ⟨v2, rfl, hv2, hb2⟩
                   obtain ⟨a2, c2, rfl, _, _⟩ := hv2.any
                   have k3 := (World.cell?_of_block (a := ⟨g, j * 8 + 7, none⟩) (hb2.block _ hgl)).trans k1
                   have k4 := (World.frozen?_of_block (a := ⟨g, j * 8 + 7, none⟩) (hb2.block _ hgl)).trans k2
                   have HG := Lib.hid (CJ.step HX.out HQ.out.2.1 HQ.out.1 hb2 hv2)
                   clear hv2 hb2)
      refine ⟨⟨j + 1, by simp, by omega, Lib.hid ?_⟩, by simp [intOf]; omega⟩
      have hg := HG.out
      have e : (({ c with step := fuseF K c.step } : Cl)) = fz K c := rfl
      rw [e, HQ.out.2.2] at hg
      exact hg
    · have hx := HX.out
      have ht : l.take j = l := List.take_of_length_le (by rw [HK.out.2.2.2]; omega)
      have hd : l.drop j = [] := List.drop_eq_nil_of_le (by rw [HK.out.2.2.2]; omega)
      rw [ht, hd, List.append_nil] at hx
      have HF := Lib.hid hx
      clear hx ht hd
      go_wp2
      go_ret
      exact ⟨_, rfl, HF.out⟩
end Go.Proofs.Ytnbinejghkhcjaa.Fu
