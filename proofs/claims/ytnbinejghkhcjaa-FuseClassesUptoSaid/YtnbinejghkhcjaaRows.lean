/-
  NARROWER THAN 'FOR EVERY INPUT', by the rows' own cells (each row's printed sentence says how): FuseSame: loops · FuseOnce: loops · FuseLeft: loops · FuseLess: loops · FusePlain: loops · FuseClasses: loops.
  DERIVED. THE GIVEN ROWS OF THIS SEAT. 6 by the template 'for every input the law returns true; each argument reads behind the call as it read before'; 0 by the template 'total and deterministic' (their statements: YtnbinejghkhcjaaTotals.lean).
  GIVEN WITH THE SEED: the statements are not yours to turn. If you find one false, say at which input.
  Laid BY PROGRAM, IN A SANDBOX (cutbox-rows.mjs): the forced cells as the released guide's own fill.sh prints them over the translation 6d746328ee8cf726… (all of the seat's roots in one cut). By AI agents, Wed Nov 11 2026. No macro, syntax, notation, axiom, sorry.
-/
import Derived.Test.YtnbinejghkhcjaaChecked
import GoSem.Claim
import GoSem.ClaimJoined
import GoSem.ClaimMapViews
import Derived.JoinedTies
import Derived.KernelRfl
namespace Go.Proofs.Ytnbinejghkhcjaa
/- THE CELL 'sum', in the pinned program and in every row, IS THE sha256 OF THE DUMP (.gsa) THAT YtnbinejghkhcjaaProg.lean LOADS. Nothing in Lean hashes anything: it is a label: what it is worth is what the hold of that sum in a sandbox is worth. -/
noncomputable def Try.pinned : Pinned := { name := "ytnbinejghkhcjaa", sum := "6d746328ee8cf7267ef099687eafed77016c21f5519e2cc32a0008e04c95c49b", checked := Try.checked }
namespace Rows
def none {H : Type} : Left H := { results := [], args := [] }

/-- 'pendulelaw17.FuseSame': WHATEVER THE INPUT: true; the input reads as it did. -/
def fuseSameSpec : ChangeSpec := { name := "fuseSame", fn := fun _ => fun
  | [d1, d2] => { results := [.lit (.bool true)], args := [d1, d2] }
  | _ => none }
def fuseSameRow : OpenClaim := { program := "ytnbinejghkhcjaa", sum := "6d746328ee8cf7267ef099687eafed77016c21f5519e2cc32a0008e04c95c49b", func := "pendule/pendulelaw17.FuseSame", spec := "fuseSame", unfollowed := true, recurses := true, loops := true, apart := false }
def FuseSameSaid : Prop := fuseSameRow.holds Try.pinned (OpenSpec.ofChange fuseSameSpec)

/-- ITS FALSE NEIGHBOUR: 'it returns false'. Refute it at one input. -/
def fuseSameWrong : ChangeSpec := { name := "fuseSame", fn := fun _ => fun
  | [d1, d2] => { results := [.lit (.bool false)], args := [d1, d2] }
  | _ => none }
def FuseSameWrongFalsely : Prop := fuseSameRow.holds Try.pinned (OpenSpec.ofChange fuseSameWrong)

/-- 'pendulelaw17.FuseOnce': WHATEVER THE INPUT: true; the input reads as it did. -/
def fuseOnceSpec : ChangeSpec := { name := "fuseOnce", fn := fun _ => fun
  | [d] => { results := [.lit (.bool true)], args := [d] }
  | _ => none }
def fuseOnceRow : OpenClaim := { program := "ytnbinejghkhcjaa", sum := "6d746328ee8cf7267ef099687eafed77016c21f5519e2cc32a0008e04c95c49b", func := "pendule/pendulelaw17.FuseOnce", spec := "fuseOnce", unfollowed := true, recurses := true, loops := true, apart := false }
def FuseOnceSaid : Prop := fuseOnceRow.holds Try.pinned (OpenSpec.ofChange fuseOnceSpec)

/-- ITS FALSE NEIGHBOUR: 'it returns false'. Refute it at one input. -/
def fuseOnceWrong : ChangeSpec := { name := "fuseOnce", fn := fun _ => fun
  | [d] => { results := [.lit (.bool false)], args := [d] }
  | _ => none }
def FuseOnceWrongFalsely : Prop := fuseOnceRow.holds Try.pinned (OpenSpec.ofChange fuseOnceWrong)

/-- 'pendulelaw17.FuseLeft': WHATEVER THE INPUT: true; the input reads as it did. -/
def fuseLeftSpec : ChangeSpec := { name := "fuseLeft", fn := fun _ => fun
  | [d] => { results := [.lit (.bool true)], args := [d] }
  | _ => none }
def fuseLeftRow : OpenClaim := { program := "ytnbinejghkhcjaa", sum := "6d746328ee8cf7267ef099687eafed77016c21f5519e2cc32a0008e04c95c49b", func := "pendule/pendulelaw17.FuseLeft", spec := "fuseLeft", unfollowed := true, recurses := true, loops := true, apart := false }
def FuseLeftSaid : Prop := fuseLeftRow.holds Try.pinned (OpenSpec.ofChange fuseLeftSpec)

/-- ITS FALSE NEIGHBOUR: 'it returns false'. Refute it at one input. -/
def fuseLeftWrong : ChangeSpec := { name := "fuseLeft", fn := fun _ => fun
  | [d] => { results := [.lit (.bool false)], args := [d] }
  | _ => none }
def FuseLeftWrongFalsely : Prop := fuseLeftRow.holds Try.pinned (OpenSpec.ofChange fuseLeftWrong)

/-- 'pendulelaw17.FuseLess': WHATEVER THE INPUT: true; the input reads as it did. -/
def fuseLessSpec : ChangeSpec := { name := "fuseLess", fn := fun _ => fun
  | [d1, d2] => { results := [.lit (.bool true)], args := [d1, d2] }
  | _ => none }
def fuseLessRow : OpenClaim := { program := "ytnbinejghkhcjaa", sum := "6d746328ee8cf7267ef099687eafed77016c21f5519e2cc32a0008e04c95c49b", func := "pendule/pendulelaw17.FuseLess", spec := "fuseLess", unfollowed := true, recurses := true, loops := true, apart := false }
def FuseLessSaid : Prop := fuseLessRow.holds Try.pinned (OpenSpec.ofChange fuseLessSpec)

/-- ITS FALSE NEIGHBOUR: 'it returns false'. Refute it at one input. -/
def fuseLessWrong : ChangeSpec := { name := "fuseLess", fn := fun _ => fun
  | [d1, d2] => { results := [.lit (.bool false)], args := [d1, d2] }
  | _ => none }
def FuseLessWrongFalsely : Prop := fuseLessRow.holds Try.pinned (OpenSpec.ofChange fuseLessWrong)

/-- 'pendulelaw17.FusePlain': WHATEVER THE INPUT: true; the input reads as it did. -/
def fusePlainSpec : ChangeSpec := { name := "fusePlain", fn := fun _ => fun
  | [d] => { results := [.lit (.bool true)], args := [d] }
  | _ => none }
def fusePlainRow : OpenClaim := { program := "ytnbinejghkhcjaa", sum := "6d746328ee8cf7267ef099687eafed77016c21f5519e2cc32a0008e04c95c49b", func := "pendule/pendulelaw17.FusePlain", spec := "fusePlain", unfollowed := true, recurses := true, loops := true, apart := false }
def FusePlainSaid : Prop := fusePlainRow.holds Try.pinned (OpenSpec.ofChange fusePlainSpec)

/-- ITS FALSE NEIGHBOUR: 'it returns false'. Refute it at one input. -/
def fusePlainWrong : ChangeSpec := { name := "fusePlain", fn := fun _ => fun
  | [d] => { results := [.lit (.bool false)], args := [d] }
  | _ => none }
def FusePlainWrongFalsely : Prop := fusePlainRow.holds Try.pinned (OpenSpec.ofChange fusePlainWrong)

/-- 'pendulelaw17.FuseClasses': WHATEVER THE INPUT: true; the input reads as it did. -/
def fuseClassesSpec : ChangeSpec := { name := "fuseClasses", fn := fun _ => fun
  | [d] => { results := [.lit (.bool true)], args := [d] }
  | _ => none }
def fuseClassesRow : OpenClaim := { program := "ytnbinejghkhcjaa", sum := "6d746328ee8cf7267ef099687eafed77016c21f5519e2cc32a0008e04c95c49b", func := "pendule/pendulelaw17.FuseClasses", spec := "fuseClasses", unfollowed := true, recurses := true, loops := true, apart := false }
def FuseClassesSaid : Prop := fuseClassesRow.holds Try.pinned (OpenSpec.ofChange fuseClassesSpec)

/-- ITS FALSE NEIGHBOUR: 'it returns false'. Refute it at one input. -/
def fuseClassesWrong : ChangeSpec := { name := "fuseClasses", fn := fun _ => fun
  | [d] => { results := [.lit (.bool false)], args := [d] }
  | _ => none }
def FuseClassesWrongFalsely : Prop := fuseClassesRow.holds Try.pinned (OpenSpec.ofChange fuseClassesWrong)

/- THE SECOND FORM. 'bulk': how many values and letters a reading holds, each counted each time it is reached (what is shared counts as often as it is met; a slice's spare places count too). A statement '..UptoSaid' is the law's where the arguments, and the package variables that the reading takes, are together of bulk at most 1048576: NARROWER than '..Said'. Prove '..Said' where nothing that the law and all that it calls make is longer than what came in: it says more and counts as full. Else prove '..UptoSaid'. A law counts once. -/
mutual
def uptoBulk {H : Type} : DataW H → Nat
  | .lit (.string bytes) => bytes.length + 1
  | .lit _ => 1
  | .nil => 1
  | .ptr d => uptoBulk d + 1
  | .slice elems spare => uptoBulkAll elems + uptoBulkAll spare + 1
  | .agg parts => uptoBulkAll parts + 1
  | .iface _ d => uptoBulk d + 1
  | .map entries => uptoBulkEntries entries + 1
  | .held _ => 1
def uptoBulkAll {H : Type} : List (DataW H) → Nat
  | [] => 0
  | d :: r => uptoBulk d + uptoBulkAll r
def uptoBulkEntries {H : Type} : List (Lit × DataW H) → Nat
  | [] => 0
  | x :: r => uptoBulkEntry x + uptoBulkEntries r
def uptoBulkEntry {H : Type} : Lit × DataW H → Nat
  | (.string bytes, d) => bytes.length + uptoBulk d + 1
  | (_, d) => uptoBulk d + 1
 end
def uptoSmall : (H : Type) → List (DataW H) → Bool := fun _ ds => decide (uptoBulkAll ds ≤ 1048576)
def OpenSpec.upto (s : _root_.Go.ChangeSpec) : _root_.Go.OpenSpec := { _root_.Go.OpenSpec.ofChange s with cond := some uptoSmall }

/-- 'pendulelaw17.FuseSame', WHERE WHAT IT READS IS OF BULK AT MOST 1048576: true; the input reads as it did. -/
def fuseSameUptoRow : OpenClaim := { program := "ytnbinejghkhcjaa", sum := "6d746328ee8cf7267ef099687eafed77016c21f5519e2cc32a0008e04c95c49b", func := "pendule/pendulelaw17.FuseSame", spec := "fuseSame", unfollowed := true, recurses := true, loops := true, apart := false, narrowed := true }
def FuseSameUptoSaid : Prop := fuseSameUptoRow.holds Try.pinned (OpenSpec.upto fuseSameSpec)

/-- 'pendulelaw17.FuseOnce', WHERE WHAT IT READS IS OF BULK AT MOST 1048576: true; the input reads as it did. -/
def fuseOnceUptoRow : OpenClaim := { program := "ytnbinejghkhcjaa", sum := "6d746328ee8cf7267ef099687eafed77016c21f5519e2cc32a0008e04c95c49b", func := "pendule/pendulelaw17.FuseOnce", spec := "fuseOnce", unfollowed := true, recurses := true, loops := true, apart := false, narrowed := true }
def FuseOnceUptoSaid : Prop := fuseOnceUptoRow.holds Try.pinned (OpenSpec.upto fuseOnceSpec)

/-- 'pendulelaw17.FuseLeft', WHERE WHAT IT READS IS OF BULK AT MOST 1048576: true; the input reads as it did. -/
def fuseLeftUptoRow : OpenClaim := { program := "ytnbinejghkhcjaa", sum := "6d746328ee8cf7267ef099687eafed77016c21f5519e2cc32a0008e04c95c49b", func := "pendule/pendulelaw17.FuseLeft", spec := "fuseLeft", unfollowed := true, recurses := true, loops := true, apart := false, narrowed := true }
def FuseLeftUptoSaid : Prop := fuseLeftUptoRow.holds Try.pinned (OpenSpec.upto fuseLeftSpec)

/-- 'pendulelaw17.FuseLess', WHERE WHAT IT READS IS OF BULK AT MOST 1048576: true; the input reads as it did. -/
def fuseLessUptoRow : OpenClaim := { program := "ytnbinejghkhcjaa", sum := "6d746328ee8cf7267ef099687eafed77016c21f5519e2cc32a0008e04c95c49b", func := "pendule/pendulelaw17.FuseLess", spec := "fuseLess", unfollowed := true, recurses := true, loops := true, apart := false, narrowed := true }
def FuseLessUptoSaid : Prop := fuseLessUptoRow.holds Try.pinned (OpenSpec.upto fuseLessSpec)

/-- 'pendulelaw17.FusePlain', WHERE WHAT IT READS IS OF BULK AT MOST 1048576: true; the input reads as it did. -/
def fusePlainUptoRow : OpenClaim := { program := "ytnbinejghkhcjaa", sum := "6d746328ee8cf7267ef099687eafed77016c21f5519e2cc32a0008e04c95c49b", func := "pendule/pendulelaw17.FusePlain", spec := "fusePlain", unfollowed := true, recurses := true, loops := true, apart := false, narrowed := true }
def FusePlainUptoSaid : Prop := fusePlainUptoRow.holds Try.pinned (OpenSpec.upto fusePlainSpec)

/-- 'pendulelaw17.FuseClasses', WHERE WHAT IT READS IS OF BULK AT MOST 1048576: true; the input reads as it did. -/
def fuseClassesUptoRow : OpenClaim := { program := "ytnbinejghkhcjaa", sum := "6d746328ee8cf7267ef099687eafed77016c21f5519e2cc32a0008e04c95c49b", func := "pendule/pendulelaw17.FuseClasses", spec := "fuseClasses", unfollowed := true, recurses := true, loops := true, apart := false, narrowed := true }
def FuseClassesUptoSaid : Prop := fuseClassesUptoRow.holds Try.pinned (OpenSpec.upto fuseClassesSpec)

end Rows
end Go.Proofs.Ytnbinejghkhcjaa
