/- The walk of join. -/
import Derived.Test.YtnbinejghkhcjaaFe
import Derived.Deep.RegionHeld3
import Derived.Deep.RegionLaw
import Derived.Maps.AppendAt
import Derived.RegionTactic
import Derived.Deep.QuietTactic
import Derived.StillTailTactics
import Derived.StillTactics
import Derived.WalkSpells
namespace Go.Proofs.Ytnbinejghkhcjaa.Fu
open Go.RowKit
set_option linter.unusedVariables false
set_option linter.unusedSimpArgs false
set_option maxHeartbeats 4000000

/-- Fuse's contract for small lists. -/
def FuseC (k : Nat) : Prop := ∀ (l : List Stm) (w : World) (A : Nat → Prop) (v : Value), szB 1 l < k → szB 1 l ≤ 2097152 → VB w A v l → Calls Try.prog 13 #[v] w fun e w' => ∃ v', e = .returned v' ∧ VB w' (fun b => A b ∨ w.heap.size ≤ b) v' (fuseF k l) ∧ Below w.heap.size w w'
/-- What join's first loop has made. -/
def J1 (W wr : World) (A : Nat → Prop) (v : Value) (out : List Arm) : Prop := ∃ row, Below W.heap.size W wr ∧ wr.ownsRow W.heap.size 49 2 v out.length row ∧ JB W wr A W.heap.size out row
/-- What its second loop has made. -/
def J2 (W wr : World) (A : Nat → Prop) (v : Value) (out : List Arm) : Prop := ∃ row, Below W.heap.size W wr ∧ wr.ownsRow W.heap.size 49 2 v out.length row ∧ EA wr (fun b => (A b ∨ W.heap.size ≤ b) ∧ v.ownBlock ≠ some b) out row
theorem own_form {w : World} {base e k n : Nat} {v : Value} {xs : List Value} (h : w.ownsRow base e k v n xs) : ∃ a cap, v = .slice a n cap ∧ n ≤ cap ∧ cap ≤ 9223372036854775807 := by
  rcases h.2 with ⟨rfl, rfl⟩ | ⟨g, cap, cur, rfl, hb, hg, h1, h2, _⟩
  · exact ⟨none, 0, rfl, by omega, by decide⟩
  · exact ⟨_, cap, rfl, h1, by unfold maxLen at h2; exact h2⟩
/-- 'append(s, x...)' in a region that draws its order. -/
theorem step_append_row {A : Nat → Prop} {w : World} {ops : Array Oper} {o : Oper} {a : Act} {K : Act → World → Prop} {Q : Exit → Act → World → Prop} {E : Prop} (hgd : o.guard = none) (s x : Operand) (t : TypeId)
    (ho : o.op = .call { callee := .builtin .append, args := #[s, x], argTypes := #[t, t] })
    (base : Nat) (e : TypeId) (i : TypeInfo) (z : Value) (size bytes : Nat) (ht : Try.prog.underlying t = some (.slice e)) (hi : Try.prog.info? e = some i) (hz : i.zero = some z)
    (hsize : i.size = size) (hby : i.bytes = bytes) (hzs : z.cells.size = size) (hsz : 0 < size)
    (v : Value) (n : Nat) (xs : List Value) (hs : a.eval s = v) (hown : w.ownsRow base e size v n xs)
    (xv : Value) (m : Nat) (news : List Value) (hx : a.eval x = xv) (hrow : Row w A xv m size news) (h1 : ∀ u ∈ news, u.oneCell' = true)
    (h63 : n + m ≤ maxLen) (hbytes : (n + m) * bytes ≤ 140737488355328) (hbase : base ≤ w.heap.size)
    (h : ∀ ao cap w', w'.ownsRow base e size (.slice ao (n + m) cap) (n + m) (xs ++ news) → w.grownBy w' v.ownBlock → ((Value.slice ao (n + m) cap).ownBlock = v.ownBlock ∨ ∀ g, (Value.slice ao (n + m) cap).ownBlock = some g → w.heap.size ≤ g) → K (a.put o.dst (.slice ao (n + m) cap)) w') :
    if Region.wanted o (yielded ops a.tmps) = true then Oper.wp Try.prog o a w K Q else E := by
  have hw : Region.wanted o (yielded ops a.tmps) = true := by simp [Region.wanted, hgd]
  rw [if_pos hw]
  obtain ⟨hl, ad, cap, rfl, _, _, hc, hnone⟩ := hrow
  cases ad with
  | some ad =>
    obtain ⟨v', w', hr, q1, q2, q3, q4⟩ := run_append_own_at (P := Try.prog) w base t o.type e i z size bytes ht hi hz hsize hby hzs hsz v n xs hown ad m cap news hl (fun j u hj => by
      have hjl := (List.getElem?_eq_some_iff.1 hj).1
      have hm : 0 < m := by
        rcases Nat.eq_zero_or_pos m with q | q
        · subst q; rw [hl] at hjl; simp at hjl
        · exact q
      obtain ⟨b, off, e', _, hb, hcc⟩ := hc hm
      cases e'
      rw [addr_add]
      exact (hcc j hjl).trans hj) h1 h63 hbytes hbase
    obtain ⟨ao, cp, rfl, _⟩ := own_form q1
    unfold Oper.wp execOp
    simp only [ho, resolve, invoke, builtin, Sem.run_bind, Sem.run_pure, Result.andThen_ok, List.map_toArray, List.map_cons, List.map_nil, hs, hx, hr]
    refine h ao cp w' q1 q2 ?_
    rcases q4 with q | q
    · exact Or.inl q
    · exact Or.inr fun g hg => by rw [q] at hg; cases hg; exact Nat.le_refl _
  | none =>
    have hm : m = 0 := by
      rcases Nat.eq_zero_or_pos m with q | q
      · exact q
      · obtain ⟨b, off, e', _⟩ := hc q; cases e'
    have hcap := hnone rfl
    subst hm; subst hcap
    have hn : news = [] := List.eq_nil_of_length_eq_zero (by simpa using hl)
    subst hn
    have hr := run_append_owned_none (P := Try.prog) w base t o.type e i size ht hi v n xs hown
    obtain ⟨ao, cp, rfl, _⟩ := own_form hown
    unfold Oper.wp execOp
    simp only [ho, resolve, invoke, builtin, Sem.run_bind, Sem.run_pure, Result.andThen_ok, List.map_toArray, List.map_cons, List.map_nil, hs, hx, hr]
    exact h ao cp w (by simpa using hown) ⟨rfl, rfl, rfl, Nat.le_refl _, fun _ _ _ => rfl⟩ (Or.inl rfl)
section
variable {W : World} {A : Nat → Prop} {v : Value} {k : Nat}
theorem J1.nil (W : World) (A : Nat → Prop) : J1 W W A (.slice none 0 0) [] := ⟨[], Below.refl _ _, World.ownsRow_nil _ _ _ _, JB.nil _ _ _ _⟩
theorem J1.below {wr wr' : World} {out : List Arm} (h : J1 W wr A v out) (hb : Below wr.heap.size wr wr') : J1 W wr' A v out := by
  obtain ⟨row, h1, h2, h3⟩ := h
  exact ⟨row, h1.trans (hb.mono h1.size), own_keep h2 (fun g hg => hb.block g (h2.lt g hg).2), h3.below hb⟩
theorem J1.va {wr : World} {out : List Arm} (h : J1 W wr A v out) : VA wr (fun b => A b ∨ W.heap.size ≤ b) v out := by
  obtain ⟨row, h1, h2, h3⟩ := h
  refine VA.own h2 rfl (fun g hg => Or.inr (h2.lt g hg).1) (h3.ea ⟨h1.size, fun b hb ha => ⟨Or.inl ha, h1.block b hb⟩⟩ (fun g cur hg _ => Or.inr hg))
theorem J1.index {wr : World} {out : List Arm} (h : J1 W wr A v out) (con : ByteArray) (pb : Nat) (hp : wr.cell? ⟨pb, 0, none⟩ = some (.string con)) :
    Calls Try.prog 36 #[v, .func (.func 37) #[] #[.pointer (some ⟨pb, 0, none⟩)]] wr fun e w' => e = .returned (.int .i64 (pidx (fun x : Arm => decide (x.con = con)) out)) ∧ Below wr.heap.size wr w' := by
  have hlt := World.block_lt_of_cell? wr _ hp
  exact indexArm_37 h.va _ _ (fun a ha u w1 hb hv => joinTest_any a u con pb ((World.cell?_of_block (a := ⟨pb, 0, none⟩) (hb.block pb hlt)).trans hp))
/-- A new arm behind the others. -/
theorem J1.new {w1 w2 w3 : World} {out : List Arm} {row rowb : List Value} {u3 v1 v3 : Value} {mo nb : Nat} {con : ByteArray} {body : List Stm} {o : Obj} (hbW : Below W.heap.size W w1) (hown : w1.ownsRow W.heap.size 49 2 u3 mo row) (hmo : out.length = mo) (hnb : body.length = nb)
    (hjb : JB W w1 A W.heap.size out row) (hb2 : Below w1.heap.size w1 w2) (ho2 : w2.ownsRow w1.heap.size 38 11 v1 nb rowb) (hr : EB W A body rowb)
    (hown3 : w3.ownsRow W.heap.size 49 2 v3 (mo + 1) (row ++ [.string con, v1])) (hgrow3 : (w2.alloc o).grownBy w3 u3.ownBlock) : J1 W w3 A v3 (out ++ [.mk con body]) := by
  subst hmo; subst hnb
  have h1 : JB W w2 A W.heap.size (out ++ [.mk con body]) (row ++ [.string con, v1]) := hjb.snoc hb2 (.mk con body) v1 rowb ho2 hbW.size hr
  have hown2 := own_keep hown (fun g hg => hb2.block g (hown.lt g hg).2)
  refine ⟨row ++ [.string con, v1], ?_, by simpa using hown3, h1.keep fun g cur hg hc => ?_⟩
  · exact ((hbW.trans (hb2.mono hbW.size)).alloc (Nat.le_trans hbW.size hb2.size) o).grown hgrow3 (by simp; exact Nat.le_trans hbW.size (Nat.le_trans hb2.size (Nat.le_succ _))) (fun g hg => (hown.lt g hg).1)
  · have hlt := (Array.getElem?_eq_some_iff.1 hc).1
    rw [hgrow3.block g (by simp; omega) (fun e => by
      obtain ⟨_, _, cur', hc'⟩ := own_block hown2 e.symm
      rw [hc'] at hc; simp at hc), Below.heap_alloc w2 o g hlt]
/-- More for the body of one arm. -/
theorem J1.turn {w1 w2 : World} {out : List Arm} {row rowx rowb : List Value} {x : Arm} {body : List Stm} {g mo capo j nx nb cv cp : Nat} {av ao : Option Addr} (hbW : Below W.heap.size W w1)
    (hown : w1.ownsRow W.heap.size 49 2 (.slice (some ⟨g, 0, none⟩) mo capo) mo row) (hmo : out.length = mo) (hnx : x.body.length = nx) (hnb : body.length = nb) (hjb : JB W w1 A W.heap.size out row) (hx : out[j]? = some x)
    (hx2 : row[j * 2 + 1]? = some (.slice av nx cv)) (hx4 : EB W A x.body rowx) (hr2 : EB W A body rowb) (hown2 : w2.ownsRow W.heap.size 38 11 (.slice ao (nx + nb) cp) (nx + nb) (rowx ++ rowb))
    (hgrow2 : w1.drew.grownBy w2 (Value.slice av nx cv).ownBlock) (hcase : (Value.slice ao (nx + nb) cp).ownBlock = (Value.slice av nx cv).ownBlock ∨ ∀ g, (Value.slice ao (nx + nb) cp).ownBlock = some g → w1.drew.heap.size ≤ g)
    (hvb : ∀ g, (Value.slice av nx cv).ownBlock = some g → W.heap.size ≤ g) (hgb : (Value.slice av nx cv).ownBlock ≠ some g) :
    J1 W (w2.setCell ⟨g, j * 2 + 1, none⟩ (.slice ao (nx + nb) cp)) A (.slice (some ⟨g, 0, none⟩) mo capo) (out.set j (.mk x.con (x.body ++ body))) := by
  subst hmo; subst hnx; subst hnb
  obtain ⟨hg1, hg2, cur, hg3⟩ := own_block hown (g := g) rfl
  have hk2 : w2.heap[g]? = w1.heap[g]? := hgrow2.block g hg2 (fun e => hgb e.symm)
  have hown' := own_keep hown (w' := w2) (fun g' e => by simp [Value.ownBlock] at e; subst e; exact hk2)
  have hb2 : Below W.heap.size W w2 := (hbW.drew).grown hgrow2 hbW.size hvb
  have hj := hjb.turn (wr' := w2) j x (.slice av x.body.length cv) (.slice ao (x.body.length + body.length) cp) body rowx rowb hx hx2 hown2 hx4 hr2 hcase (fun g' cur' hg' hc hne => hgrow2.block g' (Array.getElem?_eq_some_iff.1 hc).1 (fun e => hne e.symm))
  refine ⟨row.set (j * 2 + 1) (.slice ao (x.body.length + body.length) cp), hb2.setCell hg1 _, ?_, hj.keep fun g' cur' hg' hc => ?_⟩
  · have := (hown'.stored (j * 2 + 1) (.slice ao (x.body.length + body.length) cp)).1
    simpa using this
  · refine Below.heap_setCell w2 _ _ g' (fun e => ?_)
    have e : g' = g := e
    subst e
    rw [hk2, hg3] at hc; simp at hc
theorem J1.toJ2 {wr : World} {out : List Arm} (h : J1 W wr A v out) : J2 W wr A v out := by
  obtain ⟨row, h1, h2, h3⟩ := h
  refine ⟨row, h1, h2, h3.ea ⟨h1.size, fun b hb ha => ⟨⟨Or.inl ha, fun e => ?_⟩, h1.block b hb⟩⟩ (fun g cur hg hc => ⟨Or.inr hg, fun e => ?_⟩)⟩
  · have := (h2.lt b e).1; omega
  · obtain ⟨_, _, cur', hc'⟩ := own_block h2 e
    rw [hc'] at hc; simp at hc
/-- A body of the second loop is fused. -/
theorem J2.step {wr w' : World} {L : List Arm} {g mo co j : Nat} {z : Arm} {body' : List Stm} {v' : Value} (h : J2 W wr A (.slice (some ⟨g, 0, none⟩) mo co) L) (hm : L.length = mo) (hz : L[j]? = some z)
    (hb : Below wr.heap.size wr w') (hv : VB w' (fun b => ((A b ∨ W.heap.size ≤ b) ∧ (Value.slice (some ⟨g, 0, none⟩) mo co).ownBlock ≠ some b) ∨ wr.heap.size ≤ b) v' body') :
    J2 W (w'.setCell ⟨g, j * 2 + 1, none⟩ v') A (.slice (some ⟨g, 0, none⟩) mo co) (L.set j (.mk z.con body')) := by
  subst hm
  obtain ⟨row, h1, h2, h3⟩ := h
  have hjl := (List.getElem?_eq_some_iff.1 hz).1
  obtain ⟨hg1, hg2, cur, hg3⟩ := own_block h2 (g := g) rfl
  have hlen := h3.len
  have hb0 : Below W.heap.size W w' := h1.trans (hb.mono h1.size)
  have hset : ∀ b, b ≠ g → (w'.setCell ⟨g, j * 2 + 1, none⟩ v').heap[b]? = w'.heap[b]? := fun b hbg => Below.heap_setCell w' ⟨g, j * 2 + 1, none⟩ v' b hbg
  have hown' := own_keep h2 (w' := w') (fun g' e => by simp [Value.ownBlock] at e; subst e; exact hb.block _ hg2)
  refine ⟨row.set (j * 2 + 1) v', hb0.setCell hg1 _, ?_, ?_⟩
  · have := (hown'.stored (j * 2 + 1) v').1
    simpa using this
  · refine EA_of (by simp [hlen]) fun i x hi => ?_
    have hgne : ∀ b, (Value.slice (some ⟨g, 0, none⟩) L.length co).ownBlock ≠ some b → b ≠ g := fun b q e => q (by rw [e]; rfl)
    by_cases e : i = j
    · subst e
      rw [List.getElem?_set_self hjl] at hi
      cases hi
      obtain ⟨u, q1, q2, q3⟩ := EA_get i z h3 hz
      refine ⟨v', by rw [List.getElem?_set_ne (by omega)]; exact q1, by rw [List.getElem?_set_self (by omega)], ?_⟩
      refine VB.stay hv ⟨by simp [World.setCell], fun b hbl hA => ?_⟩
      have hbg : b ≠ g := by
        rcases hA with q | q
        · exact hgne b q.2
        · omega
      refine ⟨⟨?_, fun q => ?_⟩, hset b hbg⟩
      · rcases hA with q | q
        · exact q.1
        · exact Or.inr (by have := h1.size; omega)
      · simp [Value.ownBlock] at q; exact hbg q.symm
    · rw [List.getElem?_set_ne (fun q => e q.symm)] at hi
      obtain ⟨u, q1, q2, q3⟩ := EA_get i x h3 hi
      refine ⟨u, by rw [List.getElem?_set_ne (by omega)]; exact q1, by rw [List.getElem?_set_ne (by omega)]; exact q2, ?_⟩
      refine VB.stay q3 ⟨by have := hb.size; simp [World.setCell]; exact this, fun b hbl hA => ⟨hA, (hset b (hgne b hA.2)).trans (hb.block b hbl)⟩⟩
theorem J2.get {wr : World} {L : List Arm} {mo co j : Nat} {ao : Option Addr} {z : Arm} (h : J2 W wr A (.slice ao mo co) L) (hm : L.length = mo) (hz : L[j]? = some z) :
    ∃ g u, ao = some ⟨g, 0, none⟩ ∧ wr.cell? ⟨g, j * 2 + 1, none⟩ = some u ∧ wr.frozen? ⟨g, j * 2 + 1, none⟩ = false ∧ g < wr.heap.size ∧ VB wr (fun b => (A b ∨ W.heap.size ≤ b) ∧ (Value.slice ao mo co).ownBlock ≠ some b) u z.body := by
  subst hm
  obtain ⟨row, h1, h2, h3⟩ := h
  have hjl := (List.getElem?_eq_some_iff.1 hz).1
  obtain ⟨u, q1, q2, q3⟩ := EA_get j z h3 hz
  rcases h2.2 with ⟨_, e⟩ | ⟨g, capo, cur, e, _, hg, _, _, _⟩
  · omega
  · cases e
    exact ⟨g, u, rfl, (h2.cellAt (j * 2 + 1) (by omega)).trans q2, h2.frozenAt _, (Array.getElem?_eq_some_iff.1 hg).1, q3⟩
theorem take_snoc {α : Type} {l : List α} {i : Nat} {a : α} (h : l[i]? = some a) : l.take (i + 1) = l.take i ++ [a] := by
  rw [List.take_add_one, h]; rfl
theorem half_get (F : List Stm → List Stm) (out : List Arm) (j : Nat) (z : Arm) (hz : out[j]? = some z) : (mapF F (out.take j) ++ out.drop j)[j]? = some z ∧ (mapF F (out.take j) ++ out.drop j).length = out.length ∧ (mapF F (out.take j) ++ out.drop j).set j (.mk z.con (F z.body)) = mapF F (out.take (j + 1)) ++ out.drop (j + 1) := by
  have hjl := (List.getElem?_eq_some_iff.1 hz).1
  have hl : (mapF F (out.take j)).length = j := by simp [mapF]; omega
  have hd : out.drop j = z :: out.drop (j + 1) := by
    rw [List.drop_eq_getElem_cons hjl]
    have := (List.getElem?_eq_some_iff.1 hz).2
    rw [this]
  refine ⟨?_, by simp [mapF]; omega, ?_⟩
  · rw [List.getElem?_append_right (by omega), hl, hd]; simp
  · rw [List.set_append_right _ _ (by omega), hl, hd, take_snoc hz]
    simp [mapF]
theorem szA_take (l : List Arm) (m : Nat) : szA 1 (l.take m) ≤ szA 1 l := by
  have h := szA_append 1 (l.take m) (l.drop m)
  rw [List.take_append_drop] at h; omega
theorem gather_bound (l : List Arm) (m : Nat) : szA 1 (gather [] (l.take m)) ≤ szA 1 l := by
  have h1 := szA_gather 1 (l.take m) []
  have h2 := szA_take l m
  simp only [szA] at h1; omega
theorem gather_snoc (out l : List Arm) (a : Arm) : gather out (l ++ [a]) = put (gather out l) a := by simp [gather, List.foldl_append]
set_option maxRecDepth 100000 in
theorem join_any (ih : FuseC k) {l : List Arm} (hk : szA 1 l ≤ k) (hN : szA 1 l ≤ 2097152) (h : VA W A v l) :
    Calls Try.prog 28 #[v] W fun e w' => ∃ v', e = .returned v' ∧ VA w' (fun b => A b ∨ W.heap.size ≤ b) v' (join (fuseF k) l) ∧ Below W.heap.size W w' := by
  obtain ⟨a, cap, rfl, h2, h3⟩ := h.any
  have hu : cap ≤ 9223372036854775807 := by unfold maxLen at h3; exact h3
  have HV := Lib.hid h
  have HK := Lib.hid (And.intro hk hN)
  obtain ⟨n, hn⟩ : ∃ n, l.length = n := ⟨_, rfl⟩
  have hnl : n ≤ 2097152 := by have := len_szA l; omega
  rw [hn] at h2 ⊢
  have HN := Lib.hid hn
  have IH := Lib.hid ih
  clear hn h hk hN ih
  go_enter Try.func28, Try.ntmps28
  go_wp2
  go_loopw [3, 10] (fun vo i wr => ∃ m : Nat, i = .int .i64 m ∧ m ≤ n ∧ Hid (J1 W wr A vo (gather [] (l.take m)))) (fun _ i _ => n - (intOf i).toNat)
  case atStart => exact ⟨0, rfl, Nat.zero_le _, Lib.hid (J1.nil W A)⟩
  case round =>
    obtain ⟨m, rfl, hm, HJ⟩ := hrel
    by_cases hlt : m < n
    · have hml : m < l.length := by rw [HN.out]; exact hlt
      obtain ⟨y, hy⟩ : ∃ y, l[m]? = some y := ⟨_, getE hml⟩
      have hbel : Below W.heap.size W wr := by obtain ⟨row, q, _⟩ := HJ.out; exact q
      obtain ⟨b, off, cap', u, he, _, _, _, hbs, c1, c2, hb⟩ := HV.out.get m y hy
      have c1 := (World.cell?_of_block (a := ⟨b, off + m * 2, none⟩) (hbel.block b hbs)).trans c1
      have c2 := (World.cell?_of_block (a := ⟨b, off + m * 2 + 1, none⟩) (hbel.block b hbs)).trans c2
      simp only [Value.slice.injEq, true_and] at he
      obtain ⟨rfl, -, rfl⟩ := he
      obtain ⟨con, body⟩ := y
      simp only [Arm.con, Arm.body] at c1 c2 hb
      obtain ⟨au, cu, rfl, hcu1, hcu2⟩ := hb.any
      obtain ⟨nb, hnb⟩ : ∃ nb, body.length = nb := ⟨_, rfl⟩
      rw [hnb] at c2 hb hcu1
      have HY := Lib.hid hy
      have HB := Lib.hid (And.intro hb hnb)
      have HW := Lib.hid hbel
      clear hy hb hbel hnb hcu1 hcu2
      obtain ⟨out, hout⟩ : ∃ out, gather [] (l.take m) = out := ⟨_, rfl⟩
      rw [hout] at HJ
      have HO := Lib.hid hout
      clear hout
      have hbb : Below wr.heap.size wr (wr.alloc (.cells #[.string con, .slice au nb cu] 49)) := (Below.refl _ _).alloc (Nat.le_refl _) _
      have hcell : (wr.alloc (.cells #[.string con, .slice au nb cu] 49)).cell? ⟨wr.heap.size, 0, none⟩ = some (.string con) := by
        rw [cell_of_row _ wr.heap.size 0 _ 49 (0, 0) (heap_alloc_new _ _)]; rfl
      have hcell1 : (wr.alloc (.cells #[.string con, .slice au nb cu] 49)).cell? ⟨wr.heap.size, 1, none⟩ = some (.slice au nb cu) := by
        rw [cell_of_row _ wr.heap.size 1 _ 49 (0, 0) (heap_alloc_new _ _)]; rfl
      have HVP : Hid (∀ g, u3.ownBlock = some g → g < wr.heap.size) := by
        obtain ⟨row, _, q, _⟩ := HJ.out
        exact Lib.hid fun g hg => (q.lt g hg).2
      have hix := (HJ.out.below hbb).index con wr.heap.size hcell
      have HJB := Lib.hid (HJ.out.below hbb)
      have HBB := Lib.hid hbb
      have HC := Lib.hid (And.intro hcell hcell1)
      clear hbb hcell hcell1 HJ
      rcases pidx_cases (fun x : Arm => decide (x.con = con)) out with ⟨hp, hnone⟩ | ⟨j, x, hp, hx, hxc, hfirst⟩
      · rw [hp] at hix
        have HP := Lib.hid hnone
        clear hp hnone
        go_wp2_with (first | (go_at_call 36; (with_reducible refine hix.mono ?_); rintro e w1 ⟨rfl, hb1⟩; replace hb1 := Lib.hid hb1))
        have hJ1 := HJB.out.below hb1.out
        obtain ⟨row, hbW, hown, hjb⟩ := hJ1
        have hC1 : w1.cell? ⟨wr.heap.size, 0, none⟩ = some (.string con) ∧ w1.cell? ⟨wr.heap.size, 1, none⟩ = some (.slice au nb cu) :=
          ⟨(World.cell?_of_block (a := ⟨wr.heap.size, 0, none⟩) (hb1.out.block _ (by simp))).trans HC.out.1, (World.cell?_of_block (a := ⟨wr.heap.size, 1, none⟩) (hb1.out.block _ (by simp))).trans HC.out.2⟩
        obtain ⟨rowb, hr1, hr2⟩ := HB.out.1
        rw [HB.out.2] at hr1
        have hcl : ∀ w', Below W.heap.size W w' → Calls Try.prog 38 #[.slice au nb cu] w' fun e w2 => ∃ v', e = .returned v' ∧ w2.ownsRow w'.heap.size 38 11 v' nb rowb ∧ Below w'.heap.size w' w2 :=
          fun w' hb => clone_any (A := A) (hr1.stay (Stay.below hb)) (EB.one hr2) (by
            have h1 := szA_mem 1 (List.mem_of_getElem? HY.out)
            have h2 := len_szB 1 body
            have h3 := HK.out.2
            have h4 := HB.out.2
            simp only [Arm.body] at h1; omega)
        obtain ⟨i0, hi, hz0, hz1, hz2⟩ := info_parts infoz49
        obtain ⟨p, hp⟩ : ∃ p, wr.heap.size = p := ⟨_, rfl⟩
        have hp1 : p < w1.heap.size := by have := hb1.out.size; simp at this; omega
        have hvp : u3.ownBlock ≠ some p := fun e => by have := HVP.out p e; omega
        rw [hp] at hC1 ⊢
        obtain ⟨mo, hmo⟩ : ∃ mo, out.length = mo := ⟨_, rfl⟩
        rw [hmo] at hown
        have hmol : mo + 1 ≤ 4194304 := by
          have h1 := gather_bound l m
          have h2 := len_szA out
          have h3 := HK.out.2
          rw [HO.out] at h1; omega
        have HJ := Lib.hid hjb
        have HR := Lib.hid hr2
        have HBW := Lib.hid hbW
        have hHO := Lib.hid hown
        clear hjb hr1 hr2 hix hbW
        go_region_held3 (fun w' => w'.cell? ⟨p, 0, none⟩ = some (.string con) ∧ w'.cell? ⟨p, 1, none⟩ = some (.slice au nb cu))
          (first | go_keep | (exact hS2) | (exact hS3))
          (first
            | (go_at_call 38
               (first | (with_reducible refine (hcl _ HBW.out).mono ?_) | (with_reducible refine (hcl _ HBW.out.drew).mono ?_))
               rintro e w2 ⟨v1, rfl, ho2, hb2⟩
               obtain ⟨a1, cp1, rfl, hc1, hc2⟩ := own_form ho2
               have hS2 : w2.cell? ⟨p, 0, none⟩ = some (.string con) ∧ w2.cell? ⟨p, 1, none⟩ = some (.slice au nb cu) := ⟨(World.cell?_of_block (a := ⟨p, 0, none⟩) (hb2.block _ hp1)).trans hC1.1, (World.cell?_of_block (a := ⟨p, 1, none⟩) (hb2.block _ hp1)).trans hC1.2⟩)
            | (refine step_append_lies _ (by rfl) _ _ _ (by rfl) W.heap.size 49 i0 _ 2 40 Try.underlying36 hi hz0 hz1 hz2 rfl (by omega) u3 mo row (by rfl) (((own_keep hHO.out (fun g hg => hb2.block g (hHO.out.lt g hg).2)).alloc _).drew)
                ⟨w2.heap.size, 0, none⟩ 1 1 [.string con, .slice a1 nb cp1] (by rfl) (by rfl) (World.news_of_block (cs := #[.string con, .slice a1 nb cp1]) (t := 49) (fr := (0, 0)) (heap_alloc_new w2 _)) (by simp [Value.oneCell'])
                (by omega) (by unfold maxLen; omega) (by omega) (Nat.le_trans HBW.out.size (Nat.le_trans hb2.size (by simp))) (w2.heap.size + 1) (by simp) ?_
               intro gg capg w3 hown3 hgrow3 hat3 hlt3
               have hpw2 : p < w2.heap.size := Nat.lt_of_lt_of_le hp1 hb2.size
               have hS3 : w3.cell? ⟨p, 0, none⟩ = some (.string con) ∧ w3.cell? ⟨p, 1, none⟩ = some (.slice au nb cu) := ⟨(World.cell?_of_block (a := ⟨p, 0, none⟩) ((hgrow3.block p (by simp; omega) (Ne.symm hvp)).trans (Below.heap_alloc w2 _ p hpw2))).trans hS2.1, (World.cell?_of_block (a := ⟨p, 1, none⟩) ((hgrow3.block p (by simp; omega) (Ne.symm hvp)).trans (Below.heap_alloc w2 _ p hpw2))).trans hS2.2⟩))
        have hb2' : Below w1.heap.size w1 w2 := ((Below.refl w1.heap.size w1).drew).trans hb2
        have HG := Lib.hid (J1.new HBW.out hHO.out hmo HB.out.2 HJ.out hb2' ho2 HR.out hown3 hgrow3)
        clear hC1 hS2 hS3 hown3 hgrow3 hat3 hown hcl
        go_wp2
        go_roundw
        case rel =>
          refine ⟨m + 1, by simp, by omega, Lib.hid ?_⟩
          rw [take_snoc HY.out, gather_snoc, HO.out, put_none _ _ HP.out]
          exact HG.out
        case measure => simp [intOf]; omega
      · rw [hp] at hix
        have HP := Lib.hid (And.intro hx (And.intro hxc hfirst))
        clear hp hx hxc hfirst
        go_wp2_with (first | (go_at_call 36; (with_reducible refine hix.mono ?_); rintro e w1 ⟨rfl, hb1⟩; replace hb1 := Lib.hid hb1))
        have hJ1 := HJB.out.below hb1.out
        obtain ⟨row, hbW, hown, hjb⟩ := hJ1
        have hC1 : w1.cell? ⟨wr.heap.size, 0, none⟩ = some (.string con) ∧ w1.cell? ⟨wr.heap.size, 1, none⟩ = some (.slice au nb cu) :=
          ⟨(World.cell?_of_block (a := ⟨wr.heap.size, 0, none⟩) (hb1.out.block _ (by simp))).trans HC.out.1, (World.cell?_of_block (a := ⟨wr.heap.size, 1, none⟩) (hb1.out.block _ (by simp))).trans HC.out.2⟩
        obtain ⟨rowb, hr1, hr2⟩ := HB.out.1
        rw [HB.out.2] at hr1
        obtain ⟨vb, rowx, hx1, hx2, hx3, hx4⟩ := hjb.at_ j x HP.out.1
        obtain ⟨av, cv, rfl, hcv1, hcv2⟩ := own_form hx3
        have hjl : j < out.length := (List.getElem?_eq_some_iff.1 HP.out.1).1
        obtain ⟨mo, hmo⟩ : ∃ mo, out.length = mo := ⟨_, rfl⟩
        obtain ⟨nx, hnx⟩ : ∃ nx, x.body.length = nx := ⟨_, rfl⟩
        rw [hmo] at hown hjl
        rw [hnx] at hx2 hx3 hcv1
        have hf : ∃ g capo, u3 = .slice (some ⟨g, 0, none⟩) mo capo ∧ mo ≤ capo ∧ capo ≤ 9223372036854775807 := by
          rcases hown.2 with ⟨_, e⟩ | ⟨g, capo, cur, e, _, _, h1, h2, _⟩
          · omega
          · exact ⟨g, capo, e, h1, by unfold maxLen at h2; exact h2⟩
        obtain ⟨g, capo, rfl, hcap1, hcap2⟩ := hf
        have hg1 := own_block hown (g := g) rfl
        have hgp : g ≠ wr.heap.size := fun e => by have := HVP.out g rfl; omega
        have e1 : w1.cell? ⟨g, j * 2 + 1, none⟩ = some (.slice av nx cv) := (hown.cellAt (j * 2 + 1) (by omega)).trans hx2
        have z1 : w1.frozen? ⟨g, j * 2 + 1, none⟩ = false := hown.frozenAt _
        have hrow1 := hr1.stay (Stay.below (A := A) hbW)
        have hone1 := EB.one hr2
        have hbnd : nx + nb ≤ 4194304 := by
          have h1 := szA_mem 1 (List.mem_of_getElem? HY.out)
          have h2 := len_szB 1 body
          have h3 := HK.out.2
          have h4 := HB.out.2
          have h5 := gather_bound l m
          rw [HO.out] at h5
          have h6 := szA_mem 1 (List.mem_of_getElem? HP.out.1)
          have h7 := len_szB 1 x.body
          simp only [Arm.body] at h1; omega
        have hgb : (Value.slice av nx cv).ownBlock ≠ some g := fun e => by
          obtain ⟨_, _, cur, hc⟩ := own_block hx3 e
          obtain ⟨_, _, cur', hc'⟩ := hg1
          rw [hc'] at hc; simp at hc
        obtain ⟨i0, hi, hz0, hz1, hz2⟩ := info_parts infoz38
        obtain ⟨p, hp⟩ : ∃ p, wr.heap.size = p := ⟨_, rfl⟩
        have hp1 : p < w1.heap.size := by have := hb1.out.size; simp at this; omega
        rw [hp] at hC1 hgp ⊢
        have HJ := Lib.hid hjb
        have HBW := Lib.hid hbW
        have HX := Lib.hid (And.intro hown (And.intro hx1 (And.intro hx2 (And.intro hx3 (And.intro hx4 (And.intro hr2 hgb))))))
        have HR1 := Lib.hid hrow1
        have HO1 := Lib.hid hone1
        have HX3 := Lib.hid hx3
        have HG1 := Lib.hid hg1
        obtain ⟨hC1a, hC1b⟩ := hC1
        clear hjb hbW hown hx1 hx2 hx3 hx4 hr2 hr1 hrow1 hone1 hgb hg1 hix
        go_region_law (first
          | (refine step_append_row (A := A) (by rfl) _ _ _ (by rfl) W.heap.size 38 i0 _ 11 184 Try.underlying22 hi hz0 hz1 hz2 rfl (by omega) _ nx rowx (by rfl) (own_keep HX3.out (fun g hg => rfl)) _ nb rowb (by rfl) (HR1.out.stay ⟨Nat.le_refl _, fun b hb ha => ⟨ha, rfl⟩⟩) HO1.out (by unfold maxLen; omega) (by omega) HBW.out.size ?_
             intro ao cp w2 hown2 hgrow2 hcase2
             have hk2 : w2.heap[g]? = w1.heap[g]? := hgrow2.block g HG1.out.2.1 (fun e => HX.out.2.2.2.2.2.2 e.symm)
             have e2 : w2.cell? ⟨g, j * 2 + 1, none⟩ = some (.slice av nx cv) := (World.cell?_of_block (a := ⟨g, j * 2 + 1, none⟩) hk2).trans e1
             have z2 : w2.frozen? ⟨g, j * 2 + 1, none⟩ = false := (World.frozen?_of_block (a := ⟨g, j * 2 + 1, none⟩) hk2).trans z1))
        all_goals
          have HG := Lib.hid (J1.turn HBW.out HX.out.1 hmo hnx HB.out.2 HJ.out HP.out.1 HX.out.2.2.1 HX.out.2.2.2.2.1 HX.out.2.2.2.2.2.1 hown2 hgrow2 hcase2 (fun g' e => (HX3.out.lt g' e).1) HX.out.2.2.2.2.2.2)
          clear hown2 hgrow2 hcase2 hk2 e2 z2 e1 z1 hC1a hC1b
          go_wp2
          go_roundw
          case rel =>
            refine ⟨m + 1, by simp, by omega, Lib.hid ?_⟩
            have hxc : x.con = con := by simpa using HP.out.2.1
            rw [take_snoc HY.out, gather_snoc, HO.out, put_some out (.mk con body) j x HP.out.1 hxc HP.out.2.2]
            exact HG.out
          case measure => simp [intOf]; omega
    · have hall : l.take m = l := List.take_of_length_le (by rw [HN.out]; omega)
      rw [hall] at HJ
      obtain ⟨out, hout⟩ : ∃ out, gather [] l = out := ⟨_, rfl⟩
      rw [hout] at HJ
      obtain ⟨ao, co, rfl, ho1, ho2⟩ : ∃ ao co, u3 = .slice ao out.length co ∧ out.length ≤ co ∧ co ≤ 9223372036854775807 := by
        obtain ⟨row, _, q, _⟩ := HJ.out
        exact own_form q
      obtain ⟨mo, hmo⟩ : ∃ mo, out.length = mo := ⟨_, rfl⟩
      rw [hmo] at HJ ho1 ⊢
      have HO := Lib.hid (And.intro hout hmo)
      have HI : Hid (J2 W wr A (.slice ao mo co) out) := Lib.hid (J1.toJ2 HJ.out)
      clear hall hout hmo HJ
      go_wp2
      go_loopw [43] (fun i wr => ∃ j : Nat, i = .int .i64 j ∧ j ≤ mo ∧ Hid (J2 W wr A (.slice ao mo co) (mapF (fuseF k) (out.take j) ++ out.drop j))) (fun i _ => mo - (intOf i).toNat)
      case atStart => exact ⟨0, rfl, Nat.zero_le _, by simpa [mapF] using HI⟩
      case round =>
        obtain ⟨j, rfl, hj, HJ⟩ := hrel
        by_cases hlt2 : j < mo
        · obtain ⟨z, hz⟩ : ∃ z, out[j]? = some z := ⟨_, getE (by rw [HO.out.2]; exact hlt2)⟩
          obtain ⟨q1, q2, q3⟩ := half_get (fuseF k) out j z hz
          rw [HO.out.2] at q2
          obtain ⟨g, u, rfl, e1, z1, hgl, hvb⟩ := HJ.out.get q2 q1
          have hsz : szB 1 z.body < k ∧ szB 1 z.body ≤ 2097152 := by
            have h1 := gather_bound l l.length
            rw [List.take_length, HO.out.1] at h1
            have h2 := szA_mem 1 (List.mem_of_getElem? hz)
            have h3 := HK.out
            omega
          have hf := IH.out z.body wr _ u hsz.1 hsz.2 hvb
          obtain ⟨au, cu, rfl, _, _⟩ := hvb.any
          obtain ⟨nz, hnz⟩ : ∃ nz, z.body.length = nz := ⟨_, rfl⟩
          rw [hnz] at e1 hf
          have HQ := Lib.hid (And.intro q1 (And.intro q2 q3))
          have HGL := Lib.hid hgl
          clear hz q1 q2 q3 hsz hnz hvb hgl
          go_wp2_with (first
            | (go_at_call 13
               (with_reducible refine hf.mono ?_)
               rintro e w1 ⟨v1, rfl, hv1, hb1⟩
               obtain ⟨a1, c1, rfl, _, _⟩ := hv1.any
               have e2 := (World.cell?_of_block (a := ⟨g, j * 2 + 1, none⟩) (hb1.block g HGL.out)).trans e1
               have z2 := (World.frozen?_of_block (a := ⟨g, j * 2 + 1, none⟩) (hb1.block g HGL.out)).trans z1
               have HV1 := Lib.hid hv1
               have HB1 := Lib.hid hb1
               clear hv1 hb1))
          go_roundw
          case rel =>
            refine ⟨j + 1, by simp, by omega, Lib.hid ?_⟩
            rw [← HQ.out.2.2]
            exact HJ.out.step HQ.out.2.1 HQ.out.1 HB1.out HV1.out
          case measure => simp [intOf]; omega
        · go_wp2
          go_ret
          have hj2 := HJ.out
          rw [List.take_of_length_le (by rw [HO.out.2]; omega), List.drop_of_length_le (by rw [HO.out.2]; omega), List.append_nil] at hj2
          obtain ⟨row, q1, q2, q3⟩ := hj2
          refine ⟨_, rfl, ?_, q1⟩
          unfold join
          rw [HO.out.1]
          exact VA.own q2 (by simp [mapF, HO.out.2]) (fun g hg => Or.inr (q2.lt g hg).1) (EA.stay (Stay.weaken _ (fun b _ hb => hb.1)) _ _ q3)
end
end Go.Proofs.Ytnbinejghkhcjaa.Fu
