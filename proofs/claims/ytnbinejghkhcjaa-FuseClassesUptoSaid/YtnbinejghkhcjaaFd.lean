/- The walks of Grow and Concat. -/
import Derived.Test.YtnbinejghkhcjaaFc
import Derived.Laws.BitsLemmas
namespace Go.Proofs.Ytnbinejghkhcjaa.Fu
open Go.RowKit
set_option linter.unusedVariables false
set_option linter.unusedSimpArgs false
set_option maxHeartbeats 2000000

theorem info49 : ∃ i, Try.prog.info? 49 = some i ∧ i.zero = some (.agg #[.string ⟨#[]⟩, .slice none 0 0]) ∧ i.size = 2 ∧ i.bytes = 40 := by
  obtain ⟨i0, hi, hz0, hz1, hz2⟩ := info_parts infoz49
  exact ⟨i0, hi, hz0, hz1, hz2⟩
/-- 'append(nil, make([]Arm, n)...)'. -/
theorem run_append_make (w : World) (ty : TypeId) (n : Nat) (h0 : 0 < n) (hn : n ≤ 16777216) :
    (Builtin.append_ #[36, 3] ty #[.slice none 0 0, .int .i64 n]).run Try.prog w =
      .ok (.slice (some ⟨w.heap.size, 0, none⟩) n (grownCap w n 0 49))
        (w.drew.alloc (.cells (Builtin.zeroCells #[.string ⟨#[]⟩, .slice none 0 0] n ++ Builtin.zeroCells #[.string ⟨#[]⟩, .slice none 0 0] (grownCap w n 0 49 - n)) 49)) := by
  obtain ⟨i, hi, hz, hs, hb⟩ := info49
  have h1 : ¬ (n ≤ 0) := by omega
  have h2 : ¬ (9223372036854775807 < (n : Int)) := by omega
  have h3 : IntKind.i64.wrap (n : Int) = n := by rw [IntKind.wrap_i64]; omega
  have h4 : ¬ (281474976710656 < Builtin.nextslicecap n 0 * 40) := by have := growslice_fits (need := n) (old := 0) (bytes := 40) h0 (by omega); omega
  have h5 : ¬ ((n : Int) < 0) := by omega
  have h6 : ¬ (281474976710656 < (n : Int) * 40) := by omega
  have h7 : ¬ (n = 0) := by omega
  have hf := run_firstCells_none (P := Try.prog) w.drew 2 0 0 0
  simp [Builtin.append_, run_underlying Try.underlying36, run_underlying Try.underlying3, sizeOf, typeInfo, zeroValue, hi, hz, hs, hb, Go.asInt, Go.asIntOf, h1, h2, h3, h4, h5, h6, h7, hf, Question.forced, newRow, grownCap]
  rw [if_neg (by omega)]
  rfl
theorem wpList_append_make {w : World} {ops : Array Oper} {rest : List Oper} {o : Oper} {a : Act} {Q : Exit → Act → World → Prop} (hgd : o.guard = none) (s x : Operand)
    (ho : o.op = .call { callee := .builtin .append, args := #[s, x], argTypes := #[36, 3] }) (v u : Value) (hs : a.eval s = v) (hx : a.eval x = u) (r : Value) (w' : World)
    (hr : (Builtin.append_ #[36, 3] o.type #[v, u]).run Try.prog w = .ok r w') (h : wpList Try.prog ops Q rest (a.put o.dst r) w') : wpList Try.prog ops Q (o :: rest) a w := by
  refine wpList_plain hgd fun K hK => ?_
  unfold Oper.wp execOp
  simp only [ho, resolve, invoke, builtin, Sem.run_bind, Sem.run_pure, Result.andThen_ok, List.map_toArray, List.map_cons, List.map_nil, hs, hx, hr]
  exact hK _ _ h
theorem grow_any (w : World) (n : Nat) (hn : n ≤ 16777216) : Calls Try.prog 39 #[.slice none 0 0, .int .i64 n] w fun e w' => ∃ v', e = .returned v' ∧ w'.ownsRow w.heap.size 49 2 v' 0 [] ∧ Below w.heap.size w w' := by
  by_cases h0 : n = 0
  · subst h0
    go_enter Try.func39, Try.ntmps39
    go_wp2
    go_ret
    exact ⟨_, rfl, World.ownsRow_nil _ _ _ _, Below.refl _ _⟩
  · obtain ⟨c, hc⟩ : ∃ c, grownCap w n 0 49 = c := ⟨_, rfl⟩
    have hcm : c ≤ maxLen := by rw [← hc]; exact grownCap_le_maxLen w n 0 49 (by unfold maxLen; omega)
    have hcn : n ≤ c := by rw [← hc]; exact grownCap_ge w n 0 49
    have hrun := run_append_make w 36 n (by omega) hn
    rw [hc] at hrun
    obtain ⟨cur, hcur⟩ : ∃ cur, Builtin.zeroCells #[.string ⟨#[]⟩, .slice none 0 0] n ++ Builtin.zeroCells #[.string ⟨#[]⟩, .slice none 0 0] (c - n) = cur := ⟨_, rfl⟩
    have hsz : cur.size = c * 2 := by rw [← hcur]; simp [size_zeroCells]; omega
    rw [hcur] at hrun
    have HC := Lib.hid (And.intro hcm (And.intro hcn hsz))
    have hu : c ≤ 9223372036854775807 := by unfold maxLen at hcm; exact hcm
    have d1 : decide ((n : Int) < 0) = false := decide_eq_false (by omega)
    have d2 : decide ((n : Int) > 0) = true := decide_eq_true (by omega)
    clear hc hcur hcm hsz
    go_enter Try.func39, Try.ntmps39
    have HR := Lib.hid hrun
    clear hrun
    go_wp2_with (at_builtin; go_must (refine wpList_append_make rfl _ _ rfl _ _ rfl rfl _ _ HR.out ?_))
    go_ret
    obtain ⟨q1, q2, q3⟩ := HC.out
    refine ⟨_, rfl, ?_, ?_⟩
    · exact World.ownsRow_made (base := w.heap.size) (e := 49) (size := 2) w cur c (Nat.le_refl _) q1 q3
    · exact ((Below.refl _ w).alloc (Nat.le_refl _) _).drew
/-- 'append(s, x...)', s an owned row, x any row that can be read. -/
theorem wpList_append_row {A : Nat → Prop} {w : World} {ops : Array Oper} {rest : List Oper} {o : Oper} {a : Act} {Q : Exit → Act → World → Prop} (hgd : o.guard = none) (s x : Operand) (t : TypeId)
    (ho : o.op = .call { callee := .builtin .append, args := #[s, x], argTypes := #[t, t] })
    (base : Nat) (e : TypeId) (i : TypeInfo) (z : Value) (size bytes : Nat) (ht : Try.prog.underlying t = some (.slice e)) (hi : Try.prog.info? e = some i) (hz : i.zero = some z)
    (hsize : i.size = size) (hby : i.bytes = bytes) (hzs : z.cells.size = size) (hsz : 0 < size)
    (v : Value) (n : Nat) (xs : List Value) (hs : a.eval s = v) (hown : w.ownsRow base e size v n xs)
    (xv : Value) (m : Nat) (news : List Value) (hx : a.eval x = xv) (hrow : Row w A xv m size news) (h1 : ∀ u ∈ news, u.oneCell' = true)
    (h63 : n + m ≤ maxLen) (hbytes : (n + m) * bytes ≤ 140737488355328) (hbase : base ≤ w.heap.size)
    (h : ∀ v' w', w'.ownsRow base e size v' (n + m) (xs ++ news) → w.grownBy w' v.ownBlock → wpList Try.prog ops Q rest (a.put o.dst v') w') : wpList Try.prog ops Q (o :: rest) a w := by
  obtain ⟨hl, ad, cap, rfl, _, _, hc, hnone⟩ := hrow
  cases ad with
  | some ad =>
    refine wpList_append_own w hgd s x t ho base e i z size bytes ht hi hz hsize hby hzs hsz v n xs hs hown ad m cap news hx hl (fun j u hj => ?_) h1 h63 hbytes hbase (fun v' w' q1 q2 _ => h v' w' q1 q2)
    have hjl := (List.getElem?_eq_some_iff.1 hj).1
    have hm : 0 < m := by
      rcases Nat.eq_zero_or_pos m with q | q
      · subst q; rw [hl] at hjl; simp at hjl
      · exact q
    obtain ⟨b, off, e', _, hb, hcc⟩ := hc hm
    cases e'
    rw [addr_add]
    exact (hcc j hjl).trans hj
  | none =>
    have hm : m = 0 := by
      rcases Nat.eq_zero_or_pos m with q | q
      · exact q
      · obtain ⟨b, off, e', _⟩ := hc q; cases e'
    have hcap := hnone rfl
    subst hm; subst hcap
    have hn : news = [] := List.eq_nil_of_length_eq_zero (by simpa using hl)
    subst hn
    have hr := run_append_owned_none (P := Try.prog) w base t o.type e i size ht hi v n xs hown
    refine wpList_plain hgd fun K hK => ?_
    unfold Oper.wp execOp
    simp only [ho, resolve, invoke, builtin, Sem.run_bind, Sem.run_pure, Result.andThen_ok, List.map_toArray, List.map_cons, List.map_nil, hs, hx, hr]
    exact hK _ _ (h v w (by simpa using hown) ⟨rfl, rfl, rfl, Nat.le_refl _, fun _ _ _ => rfl⟩)
section
variable {w : World} {A : Nat → Prop}
/-- The one, both: as far as the loop has come. -/
def upTo {α : Type} (la lb : List α) : Nat → List α
  | 0 => []
  | 1 => la
  | _ => la ++ lb
theorem VA.one {v : Value} {l : List Arm} {row : List Value} (h1 : Row w A v l.length 2 row) (h2 : EA w A l row) : VA w A v l := ⟨row, h1, h2⟩
theorem concat_any {va vb : Value} {la lb : List Arm} (g : Nat) (ty : TypeId) (hg : w.heap[g]? = some (.cells #[va, vb] ty (0, 0))) (ha : VA w A va la) (hb : VA w A vb lb) (hn : la.length + lb.length ≤ 4194304) :
    Calls Try.prog 29 #[.slice (some ⟨g, 0, none⟩) 2 2] w fun e w' => ∃ v' row, e = .returned v' ∧ w'.ownsRow w.heap.size 49 2 v' (la.length + lb.length) row ∧ EA w A (la ++ lb) row ∧ Below w.heap.size w w' := by
  obtain ⟨ra, ha1, ha2⟩ := ha
  obtain ⟨rb, hb1, hb2⟩ := hb
  have HE := Lib.hid (EA_append ha2 hb2)
  have HO1 := Lib.hid (EA.one ha2)
  have HO2 := Lib.hid (EA.one hb2)
  have HA := Lib.hid ha1
  have HB := Lib.hid hb1
  obtain ⟨a, capa, ea, q1, q2⟩ := ha1.any
  obtain ⟨b, capb, eb, q3, q4⟩ := hb1.any
  obtain ⟨na, hna⟩ : ∃ n, la.length = n := ⟨_, rfl⟩
  obtain ⟨nb, hnb⟩ : ∃ n, lb.length = n := ⟨_, rfl⟩
  rw [hna] at ea q1 hn HA ⊢
  rw [hnb] at eb q3 hn HB ⊢
  clear ha1 ha2 hb1 hb2 hna hnb
  have hlt := (Array.getElem?_eq_some_iff.1 hg).1
  have c0 : w.cell? ⟨g, 0, none⟩ = some va := by rw [cell_of_row w g 0 _ ty (0, 0) hg]; rfl
  have c1 : w.cell? ⟨g, 1, none⟩ = some vb := by rw [cell_of_row w g 1 _ ty (0, 0) hg]; rfl
  have hu : capa ≤ 9223372036854775807 := by unfold maxLen at q2; exact q2
  have hu' : capb ≤ 9223372036854775807 := by unfold maxLen at q4; exact q4
  subst ea; subst eb
  have hgrow := grow_any w (na + nb) (by omega)
  rw [show ((na + nb : Nat) : Int) = (na : Int) + nb by omega] at hgrow
  have HG := Lib.hid hg
  clear hg
  go_enter Try.func29, Try.ntmps29
  go_wp2
  go_loop [3, 11] (fun s i => ∃ k : Nat, i = .int .i64 k ∧ ((k = 0 ∧ s = .int .i64 0) ∨ (k = 1 ∧ s = .int .i64 (na : Int)) ∨ (k = 2 ∧ s = .int .i64 ((na : Int) + nb)))) (fun _ i => 2 - (intOf i).toNat)
  case atStart => exact ⟨0, rfl, Or.inl ⟨rfl, rfl⟩⟩
  case round =>
    obtain ⟨k, rfl, hk⟩ := hrel
    rcases hk with ⟨rfl, rfl⟩ | ⟨rfl, rfl⟩ | ⟨rfl, rfl⟩
    · have d1 : decide ((na : Int) < 0) = false := decide_eq_false (by omega)
      go_wp2
      exact ⟨⟨1, rfl, Or.inr (Or.inl ⟨rfl, rfl⟩)⟩, by simp [intOf]⟩
    · have d1 : decide ((na : Int) + nb < 0) = false := decide_eq_false (by omega)
      go_wp2
      exact ⟨⟨2, rfl, Or.inr (Or.inr ⟨rfl, rfl⟩)⟩, by simp [intOf]⟩
    · go_wp2_with (go_at_call 39; (with_reducible refine hgrow.mono ?_); rintro e w1 ⟨v1, rfl, hown1, hb1⟩; replace hown1 := Lib.hid hown1; replace hb1 := Lib.hid hb1)
      clear hgrow
      go_loopw [6, 27] (fun v i wr => ∃ k : Nat, i = .int .i64 k ∧ Hid (Below w.heap.size w wr) ∧ Hid ((k = 0 ∧ wr.ownsRow w.heap.size 49 2 v 0 []) ∨ (k = 1 ∧ wr.ownsRow w.heap.size 49 2 v na ra) ∨ (k = 2 ∧ wr.ownsRow w.heap.size 49 2 v (na + nb) (ra ++ rb)))) (fun _ i _ => 2 - (intOf i).toNat)
      case atStart => exact ⟨0, rfl, hb1, Lib.hid (Or.inl ⟨rfl, hown1.out⟩)⟩
      case round =>
        obtain ⟨k, rfl, HW, HK⟩ := hrel
        have e0 : wr.cell? ⟨g, 0, none⟩ = some (.slice a na capa) := (World.cell?_of_block (a := ⟨g, 0, none⟩) (HW.out.block g hlt)).trans c0
        have e1 : wr.cell? ⟨g, 1, none⟩ = some (.slice b nb capb) := (World.cell?_of_block (a := ⟨g, 1, none⟩) (HW.out.block g hlt)).trans c1
        obtain ⟨i0, hi, hz0, hz1, hz2⟩ := info_parts infoz49
        have hR1 := Lib.hid (HA.out.stay (Stay.below HW.out))
        have hR2 := Lib.hid (HB.out.stay (Stay.below HW.out))
        rcases HK.out with ⟨rfl, ho⟩ | ⟨rfl, ho⟩ | ⟨rfl, ho⟩
        · have hO := Lib.hid ho
          clear ho HK
          go_wp2_with (at_builtin; go_must (refine wpList_append_row (A := A) rfl _ _ 36 rfl w.heap.size 49 i0 _ 2 40 Try.underlying36 hi hz0 hz1 hz2 rfl (by decide) _ _ _ rfl hO.out _ na ra rfl ?c1 ?c2 ?c3 ?c4 ?c5 ?_))
          case c1 => exact hR1.out
          case c2 => exact HO1.out
          case c3 => unfold maxLen; omega
          case c4 => omega
          case c5 => exact HW.out.size
          intro v' w' hown' hgrow'
          have HO' := Lib.hid hown'
          have HG' := Lib.hid hgrow'
          clear hown' hgrow'
          go_wp2
          have hbn : Below w.heap.size w w' := HW.out.grown HG'.out HW.out.size (fun g' e => (hO.out.lt g' e).1)
          exact ⟨⟨1, rfl, Lib.hid hbn, Lib.hid (Or.inr (Or.inl ⟨rfl, by simpa using HO'.out⟩))⟩, by simp [intOf]⟩
        · have hO := Lib.hid ho
          clear ho HK
          go_wp2_with (at_builtin; go_must (refine wpList_append_row (A := A) rfl _ _ 36 rfl w.heap.size 49 i0 _ 2 40 Try.underlying36 hi hz0 hz1 hz2 rfl (by decide) _ _ _ rfl hO.out _ nb rb rfl ?d1 ?d2 ?d3 ?d4 ?d5 ?_))
          case d1 => exact hR2.out
          case d2 => exact HO2.out
          case d3 => unfold maxLen; omega
          case d4 => omega
          case d5 => exact HW.out.size
          intro v' w' hown' hgrow'
          have HO' := Lib.hid hown'
          have HG' := Lib.hid hgrow'
          clear hown' hgrow'
          go_wp2
          have hbn : Below w.heap.size w w' := HW.out.grown HG'.out HW.out.size (fun g' e => (hO.out.lt g' e).1)
          exact ⟨⟨2, rfl, Lib.hid hbn, Lib.hid (Or.inr (Or.inr ⟨rfl, HO'.out⟩))⟩, by simp [intOf]⟩
        · have hO := Lib.hid ho
          clear ho HK hR1 hR2 e0 e1
          go_wp2
          go_ret
          exact ⟨_, _, rfl, hO.out, HE.out, HW.out⟩
end
end Go.Proofs.Ytnbinejghkhcjaa.Fu
