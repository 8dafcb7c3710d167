/-
  No cell of these rows narrows 'for every input' (looked for: loops, veiled, ifaces, maps, wideKeys, modest, calm, conditions, laid).
  DERIVED. THE GIVEN ROWS OF THIS SEAT. 6 by the template 'for every input the law returns true; each argument reads behind the call as it read before'; 0 by the template 'total and deterministic' (their statements: YtghncpmepaohiaaTotals.lean).
  GIVEN WITH THE SEED: the statements are not yours to turn. If you find one false, say at which input.
  Laid BY PROGRAM, IN A SANDBOX (cutbox-rows.mjs): the forced cells as the released guide's own fill.sh prints them over the translation 9dfe08fa44ec6d95… (all of the seat's roots in one cut). By AI agents, Wed Nov 11 2026. No macro, syntax, notation, axiom, sorry.
-/
import Derived.Test.YtghncpmepaohiaaChecked
import GoSem.Claim
import GoSem.ClaimJoined
import GoSem.ClaimMapViews
import Derived.JoinedTies
import Derived.KernelRfl
namespace Go.Proofs.Ytghncpmepaohiaa
/- THE CELL 'sum', in the pinned program and in every row, IS THE sha256 OF THE DUMP (.gsa) THAT YtghncpmepaohiaaProg.lean LOADS. Nothing in Lean hashes anything: it is a label: what it is worth is what the hold of that sum in a sandbox is worth. -/
noncomputable def Try.pinned : Pinned := { name := "ytghncpmepaohiaa", sum := "9dfe08fa44ec6d9539d29bea432b47f4eca63cd8cbb61dfe81b75882ab925ed9", checked := Try.checked }
namespace Rows
def none {H : Type} : Left H := { results := [], args := [] }

/-- 'pendulelaw04.WordBin': WHATEVER THE INPUT: true; the input reads as it did. -/
def wordBinSpec : ChangeSpec := { name := "wordBin", fn := fun _ => fun
  | [d1, d2, d3] => { results := [.lit (.bool true)], args := [d1, d2, d3] }
  | _ => none }
def wordBinRow : OpenClaim := { program := "ytghncpmepaohiaa", sum := "9dfe08fa44ec6d9539d29bea432b47f4eca63cd8cbb61dfe81b75882ab925ed9", func := "pendule/pendulelaw04.WordBin", spec := "wordBin", unfollowed := true, recurses := true, apart := false }
def WordBinSaid : Prop := wordBinRow.holds Try.pinned (OpenSpec.ofChange wordBinSpec)

/-- ITS FALSE NEIGHBOUR: 'it returns false'. Refute it at one input. -/
def wordBinWrong : ChangeSpec := { name := "wordBin", fn := fun _ => fun
  | [d1, d2, d3] => { results := [.lit (.bool false)], args := [d1, d2, d3] }
  | _ => none }
def WordBinWrongFalsely : Prop := wordBinRow.holds Try.pinned (OpenSpec.ofChange wordBinWrong)

/-- 'pendulelaw04.WordDivides': WHATEVER THE INPUT: true; the input reads as it did. -/
def wordDividesSpec : ChangeSpec := { name := "wordDivides", fn := fun _ => fun
  | [d1, d2] => { results := [.lit (.bool true)], args := [d1, d2] }
  | _ => none }
def wordDividesRow : OpenClaim := { program := "ytghncpmepaohiaa", sum := "9dfe08fa44ec6d9539d29bea432b47f4eca63cd8cbb61dfe81b75882ab925ed9", func := "pendule/pendulelaw04.WordDivides", spec := "wordDivides", unfollowed := true, recurses := true, apart := false }
def WordDividesSaid : Prop := wordDividesRow.holds Try.pinned (OpenSpec.ofChange wordDividesSpec)

/-- ITS FALSE NEIGHBOUR: 'it returns false'. Refute it at one input. -/
def wordDividesWrong : ChangeSpec := { name := "wordDivides", fn := fun _ => fun
  | [d1, d2] => { results := [.lit (.bool false)], args := [d1, d2] }
  | _ => none }
def WordDividesWrongFalsely : Prop := wordDividesRow.holds Try.pinned (OpenSpec.ofChange wordDividesWrong)

/-- 'pendulelaw04.WordUn': WHATEVER THE INPUT: true; the input reads as it did. -/
def wordUnSpec : ChangeSpec := { name := "wordUn", fn := fun _ => fun
  | [d1, d2] => { results := [.lit (.bool true)], args := [d1, d2] }
  | _ => none }
def wordUnRow : OpenClaim := { program := "ytghncpmepaohiaa", sum := "9dfe08fa44ec6d9539d29bea432b47f4eca63cd8cbb61dfe81b75882ab925ed9", func := "pendule/pendulelaw04.WordUn", spec := "wordUn", unfollowed := true, recurses := true, apart := false }
def WordUnSaid : Prop := wordUnRow.holds Try.pinned (OpenSpec.ofChange wordUnSpec)

/-- ITS FALSE NEIGHBOUR: 'it returns false'. Refute it at one input. -/
def wordUnWrong : ChangeSpec := { name := "wordUn", fn := fun _ => fun
  | [d1, d2] => { results := [.lit (.bool false)], args := [d1, d2] }
  | _ => none }
def WordUnWrongFalsely : Prop := wordUnRow.holds Try.pinned (OpenSpec.ofChange wordUnWrong)

/-- 'pendulelaw04.WordRing': WHATEVER THE INPUT: true; the input reads as it did. -/
def wordRingSpec : ChangeSpec := { name := "wordRing", fn := fun _ => fun
  | [d1, d2, d3] => { results := [.lit (.bool true)], args := [d1, d2, d3] }
  | _ => none }
def wordRingRow : OpenClaim := { program := "ytghncpmepaohiaa", sum := "9dfe08fa44ec6d9539d29bea432b47f4eca63cd8cbb61dfe81b75882ab925ed9", func := "pendule/pendulelaw04.WordRing", spec := "wordRing", unfollowed := true, recurses := true, apart := false }
def WordRingSaid : Prop := wordRingRow.holds Try.pinned (OpenSpec.ofChange wordRingSpec)

/-- ITS FALSE NEIGHBOUR: 'it returns false'. Refute it at one input. -/
def wordRingWrong : ChangeSpec := { name := "wordRing", fn := fun _ => fun
  | [d1, d2, d3] => { results := [.lit (.bool false)], args := [d1, d2, d3] }
  | _ => none }
def WordRingWrongFalsely : Prop := wordRingRow.holds Try.pinned (OpenSpec.ofChange wordRingWrong)

/-- 'pendulelaw04.WordOrder': WHATEVER THE INPUT: true; the input reads as it did. -/
def wordOrderSpec : ChangeSpec := { name := "wordOrder", fn := fun _ => fun
  | [d1, d2] => { results := [.lit (.bool true)], args := [d1, d2] }
  | _ => none }
def wordOrderRow : OpenClaim := { program := "ytghncpmepaohiaa", sum := "9dfe08fa44ec6d9539d29bea432b47f4eca63cd8cbb61dfe81b75882ab925ed9", func := "pendule/pendulelaw04.WordOrder", spec := "wordOrder", unfollowed := true, recurses := true, apart := false }
def WordOrderSaid : Prop := wordOrderRow.holds Try.pinned (OpenSpec.ofChange wordOrderSpec)

/-- ITS FALSE NEIGHBOUR: 'it returns false'. Refute it at one input. -/
def wordOrderWrong : ChangeSpec := { name := "wordOrder", fn := fun _ => fun
  | [d1, d2] => { results := [.lit (.bool false)], args := [d1, d2] }
  | _ => none }
def WordOrderWrongFalsely : Prop := wordOrderRow.holds Try.pinned (OpenSpec.ofChange wordOrderWrong)

/-- 'pendulelaw04.WordTakes': WHATEVER THE INPUT: true; the input reads as it did. -/
def wordTakesSpec : ChangeSpec := { name := "wordTakes", fn := fun _ => fun
  | [d1, d2] => { results := [.lit (.bool true)], args := [d1, d2] }
  | _ => none }
def wordTakesRow : OpenClaim := { program := "ytghncpmepaohiaa", sum := "9dfe08fa44ec6d9539d29bea432b47f4eca63cd8cbb61dfe81b75882ab925ed9", func := "pendule/pendulelaw04.WordTakes", spec := "wordTakes", unfollowed := true, recurses := true, apart := false }
def WordTakesSaid : Prop := wordTakesRow.holds Try.pinned (OpenSpec.ofChange wordTakesSpec)

/-- ITS FALSE NEIGHBOUR: 'it returns false'. Refute it at one input. -/
def wordTakesWrong : ChangeSpec := { name := "wordTakes", fn := fun _ => fun
  | [d1, d2] => { results := [.lit (.bool false)], args := [d1, d2] }
  | _ => none }
def WordTakesWrongFalsely : Prop := wordTakesRow.holds Try.pinned (OpenSpec.ofChange wordTakesWrong)

/- THE SECOND FORM. 'bulk': how many values and letters a reading holds, each counted each time it is reached (what is shared counts as often as it is met; a slice's spare places count too). A statement '..UptoSaid' is the law's where the arguments, and the package variables that the reading takes, are together of bulk at most 1048576: NARROWER than '..Said'. Prove '..Said' where nothing that the law and all that it calls make is longer than what came in: it says more and counts as full. Else prove '..UptoSaid'. A law counts once. -/
mutual
def uptoBulk {H : Type} : DataW H → Nat
  | .lit (.string bytes) => bytes.length + 1
  | .lit _ => 1
  | .nil => 1
  | .ptr d => uptoBulk d + 1
  | .slice elems spare => uptoBulkAll elems + uptoBulkAll spare + 1
  | .agg parts => uptoBulkAll parts + 1
  | .iface _ d => uptoBulk d + 1
  | .map entries => uptoBulkEntries entries + 1
  | .held _ => 1
def uptoBulkAll {H : Type} : List (DataW H) → Nat
  | [] => 0
  | d :: r => uptoBulk d + uptoBulkAll r
def uptoBulkEntries {H : Type} : List (Lit × DataW H) → Nat
  | [] => 0
  | x :: r => uptoBulkEntry x + uptoBulkEntries r
def uptoBulkEntry {H : Type} : Lit × DataW H → Nat
  | (.string bytes, d) => bytes.length + uptoBulk d + 1
  | (_, d) => uptoBulk d + 1
 end
def uptoSmall : (H : Type) → List (DataW H) → Bool := fun _ ds => decide (uptoBulkAll ds ≤ 1048576)
def OpenSpec.upto (s : _root_.Go.ChangeSpec) : _root_.Go.OpenSpec := { _root_.Go.OpenSpec.ofChange s with cond := some uptoSmall }

/-- 'pendulelaw04.WordBin', WHERE WHAT IT READS IS OF BULK AT MOST 1048576: true; the input reads as it did. -/
def wordBinUptoRow : OpenClaim := { program := "ytghncpmepaohiaa", sum := "9dfe08fa44ec6d9539d29bea432b47f4eca63cd8cbb61dfe81b75882ab925ed9", func := "pendule/pendulelaw04.WordBin", spec := "wordBin", unfollowed := true, recurses := true, apart := false, narrowed := true }
def WordBinUptoSaid : Prop := wordBinUptoRow.holds Try.pinned (OpenSpec.upto wordBinSpec)

/-- 'pendulelaw04.WordDivides', WHERE WHAT IT READS IS OF BULK AT MOST 1048576: true; the input reads as it did. -/
def wordDividesUptoRow : OpenClaim := { program := "ytghncpmepaohiaa", sum := "9dfe08fa44ec6d9539d29bea432b47f4eca63cd8cbb61dfe81b75882ab925ed9", func := "pendule/pendulelaw04.WordDivides", spec := "wordDivides", unfollowed := true, recurses := true, apart := false, narrowed := true }
def WordDividesUptoSaid : Prop := wordDividesUptoRow.holds Try.pinned (OpenSpec.upto wordDividesSpec)

/-- 'pendulelaw04.WordUn', WHERE WHAT IT READS IS OF BULK AT MOST 1048576: true; the input reads as it did. -/
def wordUnUptoRow : OpenClaim := { program := "ytghncpmepaohiaa", sum := "9dfe08fa44ec6d9539d29bea432b47f4eca63cd8cbb61dfe81b75882ab925ed9", func := "pendule/pendulelaw04.WordUn", spec := "wordUn", unfollowed := true, recurses := true, apart := false, narrowed := true }
def WordUnUptoSaid : Prop := wordUnUptoRow.holds Try.pinned (OpenSpec.upto wordUnSpec)

/-- 'pendulelaw04.WordRing', WHERE WHAT IT READS IS OF BULK AT MOST 1048576: true; the input reads as it did. -/
def wordRingUptoRow : OpenClaim := { program := "ytghncpmepaohiaa", sum := "9dfe08fa44ec6d9539d29bea432b47f4eca63cd8cbb61dfe81b75882ab925ed9", func := "pendule/pendulelaw04.WordRing", spec := "wordRing", unfollowed := true, recurses := true, apart := false, narrowed := true }
def WordRingUptoSaid : Prop := wordRingUptoRow.holds Try.pinned (OpenSpec.upto wordRingSpec)

/-- 'pendulelaw04.WordOrder', WHERE WHAT IT READS IS OF BULK AT MOST 1048576: true; the input reads as it did. -/
def wordOrderUptoRow : OpenClaim := { program := "ytghncpmepaohiaa", sum := "9dfe08fa44ec6d9539d29bea432b47f4eca63cd8cbb61dfe81b75882ab925ed9", func := "pendule/pendulelaw04.WordOrder", spec := "wordOrder", unfollowed := true, recurses := true, apart := false, narrowed := true }
def WordOrderUptoSaid : Prop := wordOrderUptoRow.holds Try.pinned (OpenSpec.upto wordOrderSpec)

/-- 'pendulelaw04.WordTakes', WHERE WHAT IT READS IS OF BULK AT MOST 1048576: true; the input reads as it did. -/
def wordTakesUptoRow : OpenClaim := { program := "ytghncpmepaohiaa", sum := "9dfe08fa44ec6d9539d29bea432b47f4eca63cd8cbb61dfe81b75882ab925ed9", func := "pendule/pendulelaw04.WordTakes", spec := "wordTakes", unfollowed := true, recurses := true, apart := false, narrowed := true }
def WordTakesUptoSaid : Prop := wordTakesUptoRow.holds Try.pinned (OpenSpec.upto wordTakesSpec)

end Rows
end Go.Proofs.Ytghncpmepaohiaa
