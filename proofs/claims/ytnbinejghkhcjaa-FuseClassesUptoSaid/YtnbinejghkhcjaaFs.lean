/- What Fuse's loop keeps true. -/
import Derived.Test.YtnbinejghkhcjaaFf
import Derived.Deep.MidRow
namespace Go.Proofs.Ytnbinejghkhcjaa.Fu
open Go.RowKit
set_option linter.unusedVariables false
set_option linter.unusedSimpArgs false
set_option maxHeartbeats 4000000

/-- The forms of what a statement bears. -/
theorem HdOk.forms {w : World} {A : Nat → Prop} {h : Hd} (o : HdOk w A h) : ∃ a2 n2 c2 i a9 n9 c9 x0 x1 x2 a7 n7 c7 a8 n8 c8, h.names = .slice a2 n2 c2 ∧ h.inst = .int .i64 i ∧ h.e0 = .int .i64 x0 ∧ h.e1 = .string x1 ∧ h.e2 = .int .i64 x2 ∧ h.e3 = .slice a7 n7 c7 ∧ h.e4 = .slice a8 n8 c8 ∧ h.args = .slice a9 n9 c9 := by
  obtain ⟨h1, ⟨n, h2⟩, ⟨e, h3⟩, ⟨es, row, h4, _⟩⟩ := o
  obtain ⟨a, cap, e1, _⟩ := Row.any h1
  obtain ⟨a', cap', e2, _⟩ := Row.any h4
  obtain ⟨op, name, m, cons, kids⟩ := e
  simp only [XE] at h3
  obtain ⟨vc, vk, he, q1, row', q2, _⟩ := h3
  obtain ⟨b, cb, e3, _⟩ := Row.any q1
  obtain ⟨b', cb', e4, _⟩ := Row.any q2
  simp only [List.cons.injEq, and_true] at he
  obtain ⟨r0, r1, r2, r3, r4⟩ := he
  exact ⟨_, _, _, _, _, _, _, _, _, _, _, _, _, _, _, _, e1, h2, r0, r1, r2, r3.trans e3, r4.trans e4, e2⟩
/-- The world under a new name, with what is known of it. -/
theorem gen_world {P : Program} {c : Code} {Q : Exit → Act → World → Prop} {a : Act} {w : World} (S : World → Prop) (hS : S w) (h : ∀ w3, S w3 → Code.wp P c Q a w3) : Code.wp P c Q a w := h w hS
theorem gen_world' {E : Exit → Act → World → Prop} {x : Exit} {a : Act} {w : World} (S : World → Prop) (hS : S w) (h : ∀ w3, S w3 → E x a w3) : E x a w := h w hS
theorem J2.va {W wr : World} {A : Nat → Prop} {v : Value} {out : List Arm} (h : J2 W wr A v out) : VA wr (fun b => A b ∨ W.heap.size ≤ b) v out := by
  obtain ⟨row, h1, h2, h3⟩ := h
  exact VA.own h2 rfl (fun g hg => Or.inr (h2.lt g hg).1) (EA.stay (Stay.weaken _ (fun b _ hb => hb.1)) _ _ h3)
theorem below_drewN (n : Nat) : ∀ (B : Nat) (w : World), Below B w (w.drewN n) := by
  induction n with
  | zero => exact fun B w => Below.refl _ _
  | succ n ih => intro B w; rw [← World.drew_drewN]; exact (ih B w).drew
theorem last_get {out : List Stm} {nn : Nat} {t : Stm} (hn : out.length = nn + 1) (ht : out[nn]? = some t) : out.getLast? = some t := by
  rw [List.getLast?_eq_getElem?, hn]; exact ht
theorem fstep_false (F : List Stm → List Stm) (out : List Stm) (s : Stm) (nn : Nat) (t : Stm) (hn : out.length = nn + 1) (ht : out[nn]? = some t) (hg : tog t (.mk s.hd (mapF F s.arms)) = false) : fstep F out s = out ++ [.mk s.hd (mapF F s.arms)] := by
  unfold fstep
  rw [last_get hn ht]
  show (if tog t (.mk s.hd (mapF F s.arms)) = true then _ else _) = _
  rw [if_neg (by rw [hg]; decide)]
theorem fstep_true (F : List Stm → List Stm) (out : List Stm) (s : Stm) (nn : Nat) (t : Stm) (hn : out.length = nn + 1) (ht : out[nn]? = some t) (hg : tog t (.mk s.hd (mapF F s.arms)) = true) : fstep F out s = out.set nn (.mk (caseHd s.name) (join F (t.arms ++ mapF F s.arms))) := by
  unfold fstep
  rw [last_get hn ht]
  show (if tog t (.mk s.hd (mapF F s.arms)) = true then _ else _) = _
  rw [if_pos hg]
  have hs := split_last (last_get hn ht)
  have hl : out.dropLast.length = nn := by simp [hn]
  conv => rhs; rw [hs]
  rw [List.set_append_right _ _ (by omega), hl]
  simp
/-- What Fuse's loop has made. -/
def FO (W wr : World) (A : Nat → Prop) (v : Value) (out : List Stm) : Prop := ∃ row, Below W.heap.size W wr ∧ wr.ownsRow W.heap.size 38 11 v out.length row ∧ EB wr (fun b => (A b ∨ W.heap.size ≤ b) ∧ v.ownBlock ≠ some b) out row
section
variable {W : World} {A : Nat → Prop} {v : Value} {k : Nat}
theorem FO.nil (W : World) (A : Nat → Prop) : FO W W A (.slice none 0 0) [] := ⟨[], Below.refl _ _, World.ownsRow_nil _ _ _ _, by simp [EB]⟩
theorem FO.below {wr wr' : World} {out : List Stm} (h : FO W wr A v out) (hb : Below wr.heap.size wr wr') : FO W wr' A v out := by
  obtain ⟨row, h1, h2, h3⟩ := h
  exact ⟨row, h1.trans (hb.mono h1.size), own_keep h2 (fun g hg => hb.block g (h2.lt g hg).2), EB.stay (Stay.below hb) _ _ h3⟩
/-- The same, with an eye on a block that was laid behind it all. -/
def FP (W wr : World) (A : Nat → Prop) (v : Value) (out : List Stm) (p : Nat) : Prop := ∃ row, Below W.heap.size W wr ∧ wr.ownsRow W.heap.size 38 11 v out.length row ∧ EB wr (fun b => ((A b ∨ W.heap.size ≤ b) ∧ v.ownBlock ≠ some b) ∧ b < p) out row ∧ ∀ g, v.ownBlock = some g → g < p
theorem FO.toFP {wr : World} {out : List Stm} {p : Nat} (h : FO W wr A v out) (hp : wr.heap.size = p) : FP W wr A v out p := by
  subst hp
  obtain ⟨row, h1, h2, h3⟩ := h
  exact ⟨row, h1, h2, EB.stay (Stay.weaken _ (fun b hb hA => ⟨hA, hb⟩)) _ _ h3, fun g e => (h2.lt g e).2⟩
theorem FP.below {wr wr' : World} {out : List Stm} {p : Nat} (h : FP W wr A v out p) (hb : Below wr.heap.size wr wr') : FP W wr' A v out p := by
  obtain ⟨row, h1, h2, h3, h4⟩ := h
  exact ⟨row, h1.trans (hb.mono h1.size), own_keep h2 (fun g hg => hb.block g (h2.lt g hg).2), EB.stay (Stay.below hb) _ _ h3, h4⟩
theorem FP.setp {wr : World} {out : List Stm} {p i : Nat} {u : Value} (h : FP W wr A v out p) (hp : W.heap.size ≤ p) : FP W (wr.setCell ⟨p, i, none⟩ u) A v out p := by
  obtain ⟨row, h1, h2, h3, h4⟩ := h
  have hk : ∀ b, b < p → (wr.setCell ⟨p, i, none⟩ u).heap[b]? = wr.heap[b]? := fun b hb => Below.heap_setCell wr ⟨p, i, none⟩ u b (by show b ≠ p; omega)
  exact ⟨row, h1.setCell hp _, own_keep h2 (fun g hg => hk g (h4 g hg)), EB.stay ⟨by simp [World.setCell], fun b _ hA => ⟨hA, hk b hA.2⟩⟩ _ _ h3, h4⟩
theorem J2.nil (W : World) (A : Nat → Prop) : J2 W W A (.slice none 0 0) [] := ⟨[], Below.refl _ _, World.ownsRow_nil _ _ _ _, by simp [EA]⟩
theorem J2.below {wr wr' : World} {out : List Arm} (h : J2 W wr A v out) (hb : Below wr.heap.size wr wr') : J2 W wr' A v out := by
  obtain ⟨row, h1, h2, h3⟩ := h
  exact ⟨row, h1.trans (hb.mono h1.size), own_keep h2 (fun g hg => hb.block g (h2.lt g hg).2), EA.stay (Stay.below hb) _ _ h3⟩
/-- An arm behind the others, its body fused. -/
theorem J2.snoc {wr w2 w3 : World} {L : List Arm} {row : List Value} {con : ByteArray} {body' : List Stm} {v1 v3 : Value} {nl : Nat} {o : Obj} (hA : ∀ b, A b → b < W.heap.size)
    (hbW : Below W.heap.size W wr) (hown : wr.ownsRow W.heap.size 49 2 v nl row) (hnl : L.length = nl) (hea : EA wr (fun b => (A b ∨ W.heap.size ≤ b) ∧ v.ownBlock ≠ some b) L row)
    (hb : Below wr.heap.size wr w2) (hv : VB w2 (fun b => A b ∨ wr.heap.size ≤ b) v1 body') (hown3 : w3.ownsRow W.heap.size 49 2 v3 (nl + 1) (row ++ [.string con, v1])) (hgrow : (w2.alloc o).grownBy w3 v.ownBlock)
    (hat : v3.ownBlock = v.ownBlock ∨ ∀ g, v3.ownBlock = some g → w2.heap.size < g) : J2 W w3 A v3 (L ++ [.mk con body']) := by
  subst hnl
  have hsz : w2.heap.size ≤ w3.heap.size := by have := hgrow.size; simp at this; omega
  have hne : ∀ b, b < w2.heap.size → v.ownBlock ≠ some b → v3.ownBlock ≠ some b := fun b hbl q e => by
    rcases hat with r | r
    · exact q (by rw [← r]; exact e)
    · have := r b e; omega
  have hk : ∀ b, b < w2.heap.size → v.ownBlock ≠ some b → w3.heap[b]? = w2.heap[b]? := fun b hbl q => by
    rw [hgrow.block b (by simp; omega) (fun e => q e.symm), Below.heap_alloc w2 o b hbl]
  refine ⟨row ++ [.string con, v1], ?_, by simpa using hown3, EA_append (EA.stay ⟨Nat.le_trans hb.size hsz, fun b hbl hA' => ?_⟩ _ _ hea) ?_⟩
  · exact ((hbW.trans (hb.mono hbW.size)).alloc (Nat.le_trans hbW.size hb.size) o).grown hgrow (by simp; exact Nat.le_trans hbW.size (Nat.le_trans hb.size (Nat.le_succ _))) (fun g hg => (hown.lt g hg).1)
  · have hbl2 := Nat.lt_of_lt_of_le hbl hb.size
    exact ⟨⟨hA'.1, hne b hbl2 hA'.2⟩, (hk b hbl2 hA'.2).trans (hb.block b hbl)⟩
  · simp only [EA]
    refine ⟨[.string con, v1], [], by simp, (ER_iff _ _).mpr ⟨v1, rfl, VB.stay hv ⟨hsz, fun b hbl hA' => ?_⟩⟩, rfl⟩
    have hvb : v.ownBlock ≠ some b := fun e => by
      have h1 := hown.lt b e
      rcases hA' with q | q
      · have := hA b q; omega
      · omega
    refine ⟨⟨?_, hne b hbl hvb⟩, hk b hbl hvb⟩
    rcases hA' with q | q
    · exact Or.inl q
    · exact Or.inr (Nat.le_trans hbW.size q)
/-- A statement behind the others. -/
theorem FO.snoc {w2 w3 : World} {out : List Stm} {row : List Value} {u v3 : Value} {hd : Hd} {arms : List Arm} {no p q : Nat} {o : Obj} (hb : Below W.heap.size W w2) (hown : w2.ownsRow W.heap.size 38 11 v no row) (hno : out.length = no)
    (hea : EB w2 (fun b => ((A b ∨ W.heap.size ≤ b) ∧ v.ownBlock ≠ some b) ∧ b < p) out row) (hvp : ∀ g, v.ownBlock = some g → g < p) (hA : ∀ b, A b → b < W.heap.size) (hho : HdOk w2 A hd) (hva : VA w2 (fun b => A b ∨ q ≤ b) u arms) (hpq : p < q) (hWp : W.heap.size ≤ p)
    (hown3 : w3.ownsRow W.heap.size 38 11 v3 (no + 1) (row ++ rawS hd u)) (hgrow : (w2.alloc o).grownBy w3 v.ownBlock) (hat : v3.ownBlock = v.ownBlock ∨ ∀ g, v3.ownBlock = some g → w2.heap.size < g) : FO W w3 A v3 (out ++ [.mk hd arms]) := by
  subst hno
  have hsz : w2.heap.size ≤ w3.heap.size := by have := hgrow.size; simp at this; omega
  have hne : ∀ b, b < w2.heap.size → v.ownBlock ≠ some b → v3.ownBlock ≠ some b := fun b hbl q e => by
    rcases hat with r | r
    · exact q (by rw [← r]; exact e)
    · have := r b e; omega
  have hk : ∀ b, b < w2.heap.size → v.ownBlock ≠ some b → w3.heap[b]? = w2.heap[b]? := fun b hbl q => by
    rw [hgrow.block b (by simp; omega) (fun e => q e.symm), Below.heap_alloc w2 o b hbl]
  have hst : Stay w2 (fun b => A b ∨ q ≤ b) w3 (fun b => (A b ∨ W.heap.size ≤ b) ∧ v3.ownBlock ≠ some b) := ⟨hsz, fun b hbl hA' => by
    have hvb : v.ownBlock ≠ some b := fun e => by
      have h1 := (hown.lt b e).1
      have h2 := hvp b e
      rcases hA' with r | r
      · have := hA b r; omega
      · omega
    refine ⟨⟨?_, hne b hbl hvb⟩, hk b hbl hvb⟩
    rcases hA' with r | r
    · exact Or.inl r
    · exact Or.inr (by omega)⟩
  refine ⟨row ++ rawS hd u, ?_, by simpa using hown3, EB_append (EB.stay ⟨hsz, fun b hbl hA' => ⟨⟨hA'.1.1, hne b hbl hA'.1.2⟩, hk b hbl hA'.1.2⟩⟩ _ _ hea) ?_⟩
  · exact (hb.alloc hb.size o).grown hgrow (by simp; exact Nat.le_trans hb.size (Nat.le_succ _)) (fun g hg => (hown.lt g hg).1)
  · simp only [EB]
    exact ⟨rawS hd u, [], by simp, (ES_iff _ _).mpr ⟨u, rfl, hho.stay (Stay.trans (Stay.weaken w2 (fun b _ h => Or.inl h)) hst), hva.stay hst⟩, rfl⟩
theorem below_many {B g : Nat} {a : World} (hg : B ≤ g) : ∀ (vs : List Value) (o : Nat) (w : World), Below B a w → Below B a (w.setCells g o vs)
  | [], _, _, h => h
  | v :: r, o, w, h => below_many hg r (o + 1) _ (h.setCell (by exact hg) v)
theorem size_many {g : Nat} : ∀ (vs : List Value) (o : Nat) (w : World), (w.setCells g o vs).heap.size = w.heap.size
  | [], _, _ => rfl
  | v :: r, o, w => by rw [World.setCells, size_many r]; simp [World.setCell]
theorem heap_many {g b : Nat} (hb : b ≠ g) : ∀ (vs : List Value) (o : Nat) (w : World), (w.setCells g o vs).heap[b]? = w.heap[b]?
  | [], _, _ => rfl
  | v :: r, o, w => by rw [World.setCells, heap_many hb r]; exact Below.heap_setCell w ⟨g, o, none⟩ v b hb
theorem own_many {base e size g n cap : Nat} : ∀ (vs c0 c1 : List Value) (w : World), c1.length = vs.length → w.ownsRow base e size (.slice (some ⟨g, 0, none⟩) n cap) n (c0 ++ c1) →
    (w.setCells g c0.length vs).ownsRow base e size (.slice (some ⟨g, 0, none⟩) n cap) n (c0 ++ vs)
  | [], c0, c1, w, hl, h => by
    have : c1 = [] := List.eq_nil_of_length_eq_zero (by simpa using hl)
    subst this; exact h
  | v :: r, c0, [], w, hl, h => by simp at hl
  | v :: r, c0, y :: c1, w, hl, h => by
    have h1 := (h.stored c0.length v).1
    rw [show (c0 ++ y :: c1).set c0.length v = (c0 ++ [v]) ++ c1 by rw [List.set_append_right _ _ (Nat.le_refl _)]; simp] at h1
    have h2 := own_many r (c0 ++ [v]) c1 _ (by simpa using hl) h1
    rw [World.setCells]
    simpa using h2
theorem fold_bound (k : Nat) (l : List Stm) (m : Nat) (s : Stm) (h : l[m]? = some s) : szB 1 ((l.take m).foldl (fstep (fuseF k)) []) + szS 1 s ≤ szB 1 l := by
  have h1 := szB_fold 1 (szB_fuse 1 k) (l.take m) []
  have hml := (List.getElem?_eq_some_iff.1 h).1
  have h2 := szB_append 1 (l.take m) (l.drop m)
  rw [List.take_append_drop, List.drop_eq_getElem_cons hml, (List.getElem?_eq_some_iff.1 h).2] at h2
  simp only [szB] at h1 h2
  omega
theorem caseHd_ok (w : World) (A : Nat → Prop) (nm : ByteArray) : HdOk w A (caseHd nm) :=
  ⟨Row.nil w A 1, ⟨0, rfl⟩, ⟨.mk 0 ⟨#[]⟩ 0 [] [], by simp only [XE, caseHd]; exact ⟨_, _, rfl, Row.nil w A 1, [], Row.nil w A 5, by simp [XL]⟩⟩, ⟨[], [], Row.nil w A 5, by simp [XL]⟩⟩
/-- The last statement is turned. -/
theorem FO.turn {w3 w5 : World} {out : List Stm} {g nn co p : Nat} {v5 : Value} {name : ByteArray} {arms' : List Arm} (hF : FP W w3 A (.slice (some ⟨g, 0, none⟩) (nn + 1) co) out p) (hno : out.length = nn + 1)
    (hb5 : Below w3.heap.size w3 w5) (hva : VA w5 (fun b => (A b ∨ W.heap.size ≤ b) ∧ (Value.slice (some ⟨g, 0, none⟩) (nn + 1) co).ownBlock ≠ some b) v5 arms') :
    FO W (w5.setCells g (nn * 11) (rawS (caseHd name) v5)) A (.slice (some ⟨g, 0, none⟩) (nn + 1) co) (out.set nn (.mk (caseHd name) arms')) := by
  obtain ⟨row, hb, hown, hea, hp⟩ := hF
  rw [hno] at hown
  obtain ⟨hg1, hg2, cur, hg3⟩ := own_block hown (g := g) rfl
  obtain ⟨t, ht⟩ : ∃ t, out[nn]? = some t := ⟨_, getE (by omega)⟩
  obtain ⟨c0, c1, c2, hrow, e0, q0, q1, q2⟩ := EB_split nn t hea ht
  have hd : out.drop (nn + 1) = [] := List.drop_eq_nil_of_le (by omega)
  rw [hd] at q2
  simp only [EB] at q2
  subst q2
  rw [List.append_nil] at hrow
  subst hrow
  have hs : out.set nn (.mk (caseHd name) arms') = out.take nn ++ [.mk (caseHd name) arms'] := by
    conv => lhs; rw [show out = out.take nn ++ out.drop nn by simp]
    rw [List.set_append_right _ _ (by simp; omega)]
    congr 1
    rw [List.drop_eq_getElem_cons (by omega), hd]
    simp [show min nn out.length = nn by omega]
  have hown5 : w5.ownsRow W.heap.size 38 11 (.slice (some ⟨g, 0, none⟩) (nn + 1) co) (nn + 1) (c0 ++ c1) := own_keep hown (fun g' e => by simp [Value.ownBlock] at e; subst e; exact hb5.block _ hg2)
  have hown' := own_many (rawS (caseHd name) v5) c0 c1 w5 (by rw [q1.len]; rfl) hown5
  rw [e0] at hown'
  have hk : ∀ b, (Value.slice (some ⟨g, 0, none⟩) (nn + 1) co).ownBlock ≠ some b → (w5.setCells g (nn * 11) (rawS (caseHd name) v5)).heap[b]? = w5.heap[b]? := fun b hb => heap_many (fun e => hb (by rw [e]; rfl)) _ _ _
  refine ⟨c0 ++ rawS (caseHd name) v5, below_many hg1 _ _ _ (hb.trans (hb5.mono hb.size)), by rw [hs]; simpa [show min nn out.length = nn by omega] using hown', ?_⟩
  rw [hs]
  refine EB_append (EB.stay ⟨by rw [size_many]; exact hb5.size, fun b hbl hA => ⟨hA.1, (hk b hA.1.2).trans (hb5.block b hbl)⟩⟩ _ _ q0) ?_
  simp only [EB]
  exact ⟨rawS (caseHd name) v5, [], by simp, (ES_iff _ _).mpr ⟨v5, rfl, caseHd_ok _ _ _, hva.stay ⟨by rw [size_many]; exact Nat.le_refl _, fun b hbl hA => ⟨hA, hk b hA.2⟩⟩⟩, rfl⟩
end
end Go.Proofs.Ytnbinejghkhcjaa.Fu
