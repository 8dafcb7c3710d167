/- The walk of the law FuseSame, and how facts that came in read. -/
import Derived.Test.YtnbinejghkhcjaaFy
import Derived.Test.YtnbinejghkhcjaaGc
import Derived.Test.YtnbinejghkhcjaaFw
namespace Go.Proofs.Ytnbinejghkhcjaa.Fu
open Go.RowKit Go.ChangeShapes Go.WideShapes Go.Deep
set_option linter.unusedVariables false
set_option linter.unusedSimpArgs false
set_option maxHeartbeats 4000000

theorem cells63 : Try.prog.cellsOf 63 = 2 := by kernel_rfl
/-- Facts that came in. -/
theorem open_facts {H : Type} {enc : TypeId × Value → H} {w : World} {base : Nat} {spare : Nat → Bool} {held : Bool} {v : Value} {d : DataW H} {p : List MemPlace} (h : DataW.Trod enc Try.prog w base spare held 23 v d p) (hv : v.cells.toList = [v]) : ∃ fs, Facts w AnyB v fs := by
  obtain ⟨fuel, hf⟩ := h
  rw [hv] at hf
  obtain ⟨len, n, f, D, hr, hb, hi⟩ := open_row Try.underlying23 cells63 (by decide) hf
  obtain ⟨l, h1, h2, _⟩ := flat_rows (α := ByteArray × ByteArray) (R := fun s c => c = [.string s.1, .string s.2]) (RL := fun l c => c = l.flatMap fun x => [.string x.1, .string x.2]) rfl (fun l x c1 c2 e1 e2 => by rw [e1, e2]; simp) (fun _ => 0) f (fun _ => 0) len (fun i hil => by
    obtain ⟨hlen, ht⟩ := hi i hil
    obtain ⟨xs, m, _, _, _, hxl, hff⟩ := DataW.trod_struct Try.underlying63 ht
    match xs, hxl with
    | [x0, x1], _ =>
      match hc : f i, hlen with
      | [c0, c1], _ =>
        rw [hc] at hff
        have t0 : DataW.trod enc Try.prog w base spare held m 9 [c0] = some x0 := by
          have q : DataW.trod enc Try.prog w base spare held m 9 (List.take (Try.prog.cellsOf 9) (List.drop 0 [c0, c1])) = some x0 := hff 0 _ rfl
          rw [cells9] at q
          exact q
        have t1 : DataW.trod enc Try.prog w base spare held m 9 [c1] = some x1 := by
          have q : DataW.trod enc Try.prog w base spare held m 9 (List.take (Try.prog.cellsOf 9) (List.drop 1 [c0, c1])) = some x1 := hff 1 _ rfl
          rw [cells9] at q
          exact q
        obtain ⟨s0, e0, _⟩ := DataW.trod_string Try.underlying9 t0
        obtain ⟨s1, e1, _⟩ := DataW.trod_string Try.underlying9 t1
        simp at e0 e1
        subst e0; subst e1
        exact ⟨(s0, s1), rfl, Nat.le_refl _⟩)
  subst h1
  rw [h2] at hr
  exact ⟨l, hr⟩
theorem same_law {w : World} {A : Nat → Prop} {v vf : Value} {l : List Stm} {fs : List (ByteArray × ByteArray)} (h : VB w A v l) (hf : Facts w A vf fs) (hs : szB 1 l ≤ 1048576) :
    Calls Try.prog 3 #[v, vf] w fun e w' => e = .returned (.bool true) ∧ Below w.heap.size w w' := by
  obtain ⟨a, cap, rfl, h2, h3⟩ := h.any
  obtain ⟨af, capf, rfl, _, _⟩ := Row.any hf
  obtain ⟨n, hn⟩ : ∃ n, l.length = n := ⟨_, rfl⟩
  obtain ⟨nf, hnf⟩ : ∃ nf, fs.length = nf := ⟨_, rfl⟩
  rw [hn] at h ⊢
  rw [hnf] at hf ⊢
  have HV := Lib.hid h
  have HFa := Lib.hid hf
  have HS := Lib.hid hs
  obtain ⟨F, hF⟩ : ∃ F, fuseF (szB 1 l + 1) l = F := ⟨_, rfl⟩
  have HF := Lib.hid hF
  have h1 := szB_fuse 1 (szB 1 l + 1) l
  have hdo := doneB_fuse fs (szB 1 l + 1) l
  rw [hF] at h1 hdo
  have H1 := Lib.hid h1
  obtain ⟨s, hss⟩ : ∃ s, sgb l = s := ⟨_, rfl⟩
  cases s with
  | false =>
    have HX := Lib.hid hss
    clear h hs hF h1 hn h2 hss hdo hf hnf
    go_enter Try.func3, Try.ntmps3
    go_wp2_with (first
      | (go_at_call 9
         with_reducible refine (lives_any _).mono ?_
         rintro e w1 ⟨rfl, hb1⟩
         have HV1 := Lib.hid (HV.out.stay (Stay.below hb1))
         replace hb1 := Lib.hid hb1)
      | (go_at_call 10
         with_reducible refine (single_any HV1.out (Nat.le_trans HS.out (by decide))).mono ?_
         rw [HX.out]
         rintro e w3 ⟨rfl, hb3⟩
         replace hb3 := Lib.hid (hb1.out.trans (hb3.mono hb1.out.size))))
    go_ret
    exact ⟨rfl, hb3.out⟩
  | true =>
    have HX := Lib.hid hss
    have HD := Lib.hid (hdo ((sgb_iff l).mp hss))
    clear h hs hF h1 hn h2 hss hdo hf hnf
    go_enter Try.func3, Try.ntmps3
    go_wp2_with (first
      | (go_at_call 9
         with_reducible refine (lives_any _).mono ?_
         rintro e w1 ⟨rfl, hb1⟩
         have HV1 := Lib.hid (HV.out.stay (Stay.below hb1))
         have HG1 := Lib.hid (HFa.out.stay (Stay.below hb1))
         replace hb1 := Lib.hid hb1)
      | (go_at_call 10
         with_reducible refine (single_any HV1.out (Nat.le_trans HS.out (by decide))).mono ?_
         rw [HX.out]
         rintro e w2 ⟨rfl, hb2⟩
         have HV2 := Lib.hid (HV1.out.stay (Stay.below hb2))
         have HG2 := Lib.hid (HG1.out.stay (Stay.below hb2))
         replace hb2 := Lib.hid (hb1.out.trans (hb2.mono hb1.out.size)))
      | (go_at_call 13
         with_reducible refine (fuse_any HV2.out (Nat.le_trans HS.out (by decide)) _ (Nat.lt_succ_self _)).mono ?_
         rintro e w3 ⟨v3, rfl, hv3, hb3⟩
         rw [HF.out] at hv3
         obtain ⟨a3, cap3, rfl, _, _⟩ := hv3.any
         have HV3 := Lib.hid (HV2.out.stay (Stay.below hb3))
         have HG3 := Lib.hid (HG2.out.stay (Stay.below hb3))
         have HW3 := Lib.hid (And.intro hv3 (HG3.out.stay (A' := fun b => A b ∨ w2.heap.size ≤ b) (Stay.weaken w3 (fun b _ h => Or.inl h))))
         clear hv3
         replace hb3 := Lib.hid (hb2.out.trans (hb3.mono hb2.out.size)))
      | (go_at_call 12
         with_reducible refine (done_any HW3.out.1 HW3.out.2 (Nat.le_trans H1.out (Nat.le_trans HS.out (by decide)))).mono ?_
         rintro e w4 ⟨v4, rfl, hv4, hb4⟩
         rw [HD.out] at hv4
         obtain ⟨a4, cap4, rfl, _, _⟩ := hv4.any
         have HV4 := Lib.hid (HV3.out.stay (Stay.below hb4))
         have HG4 := Lib.hid (HG3.out.stay (Stay.below hb4))
         have HW4 := Lib.hid hv4
         clear hv4
         replace hb4 := Lib.hid (hb3.out.trans (hb4.mono hb3.out.size)))
      | (go_at_call 12
         with_reducible refine (done_any HV4.out HG4.out (Nat.le_trans HS.out (by decide))).mono ?_
         rintro e w5 ⟨v5, rfl, hv5, hb5⟩
         obtain ⟨a5, cap5, rfl, _, _⟩ := hv5.any
         have HW5 := Lib.hid (And.intro (HW4.out.stay (Stay.below hb5)) hv5)
         clear hv5
         replace hb5 := Lib.hid (hb4.out.trans (hb5.mono hb4.out.size)))
      | (go_at_call 11
         with_reducible refine (same_any HW5.out.1 HW5.out.2).mono ?_
         rintro e w6 ⟨rfl, hb6⟩
         replace hb6 := Lib.hid (hb5.out.trans (hb6.mono hb5.out.size))))
    go_ret
    exact ⟨rfl, hb6.out⟩
end Go.Proofs.Ytnbinejghkhcjaa.Fu
