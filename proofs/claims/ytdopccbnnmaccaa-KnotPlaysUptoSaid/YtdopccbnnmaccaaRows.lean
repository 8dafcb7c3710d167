/-
  No cell of these rows narrows 'for every input' (looked for: loops, veiled, ifaces, maps, wideKeys, modest, calm, conditions, laid).
  DERIVED. THE GIVEN ROWS OF THIS SEAT. 5 by the template 'for every input the law returns true; each argument reads behind the call as it read before'; 0 by the template 'total and deterministic' (their statements: YtdopccbnnmaccaaTotals.lean).
  GIVEN WITH THE SEED: the statements are not yours to turn. If you find one false, say at which input.
  Laid BY PROGRAM, IN A SANDBOX (cutbox-rows.mjs): the forced cells as the released guide's own fill.sh prints them over the translation 1cf98ebcbd015e6a… (all of the seat's roots in one cut). By AI agents, Wed Nov 11 2026. No macro, syntax, notation, axiom, sorry.
-/
import Derived.Test.YtdopccbnnmaccaaChecked
import GoSem.Claim
import GoSem.ClaimJoined
import GoSem.ClaimMapViews
import Derived.JoinedTies
import Derived.KernelRfl
namespace Go.Proofs.Ytdopccbnnmaccaa
/- THE CELL 'sum', in the pinned program and in every row, IS THE sha256 OF THE DUMP (.gsa) THAT YtdopccbnnmaccaaProg.lean LOADS. Nothing in Lean hashes anything: it is a label: what it is worth is what the hold of that sum in a sandbox is worth. -/
noncomputable def Try.pinned : Pinned := { name := "ytdopccbnnmaccaa", sum := "1cf98ebcbd015e6a76c8d5ce468d32057622a41c0cee9b377ff5d30665bac3bf", checked := Try.checked }
namespace Rows
def none {H : Type} : Left H := { results := [], args := [] }

/-- 'pendulelaw07.KnotRefuses': WHATEVER THE INPUT: true; the input reads as it did. -/
def knotRefusesSpec : ChangeSpec := { name := "knotRefuses", fn := fun _ => fun
  | [d] => { results := [.lit (.bool true)], args := [d] }
  | _ => none }
def knotRefusesRow : OpenClaim := { program := "ytdopccbnnmaccaa", sum := "1cf98ebcbd015e6a76c8d5ce468d32057622a41c0cee9b377ff5d30665bac3bf", func := "pendule/pendulelaw07.KnotRefuses", spec := "knotRefuses", apart := false }
def KnotRefusesSaid : Prop := knotRefusesRow.holds Try.pinned (OpenSpec.ofChange knotRefusesSpec)

/-- ITS FALSE NEIGHBOUR: 'it returns false'. Refute it at one input. -/
def knotRefusesWrong : ChangeSpec := { name := "knotRefuses", fn := fun _ => fun
  | [d] => { results := [.lit (.bool false)], args := [d] }
  | _ => none }
def KnotRefusesWrongFalsely : Prop := knotRefusesRow.holds Try.pinned (OpenSpec.ofChange knotRefusesWrong)

/-- 'pendulelaw07.KnotPlays': WHATEVER THE INPUT: true; the input reads as it did. -/
def knotPlaysSpec : ChangeSpec := { name := "knotPlays", fn := fun _ => fun
  | [d] => { results := [.lit (.bool true)], args := [d] }
  | _ => none }
def knotPlaysRow : OpenClaim := { program := "ytdopccbnnmaccaa", sum := "1cf98ebcbd015e6a76c8d5ce468d32057622a41c0cee9b377ff5d30665bac3bf", func := "pendule/pendulelaw07.KnotPlays", spec := "knotPlays", apart := false }
def KnotPlaysSaid : Prop := knotPlaysRow.holds Try.pinned (OpenSpec.ofChange knotPlaysSpec)

/-- ITS FALSE NEIGHBOUR: 'it returns false'. Refute it at one input. -/
def knotPlaysWrong : ChangeSpec := { name := "knotPlays", fn := fun _ => fun
  | [d] => { results := [.lit (.bool false)], args := [d] }
  | _ => none }
def KnotPlaysWrongFalsely : Prop := knotPlaysRow.holds Try.pinned (OpenSpec.ofChange knotPlaysWrong)

/-- 'pendulelaw07.KnotAlike': WHATEVER THE INPUT: true; the input reads as it did. -/
def knotAlikeSpec : ChangeSpec := { name := "knotAlike", fn := fun _ => fun
  | [d] => { results := [.lit (.bool true)], args := [d] }
  | _ => none }
def knotAlikeRow : OpenClaim := { program := "ytdopccbnnmaccaa", sum := "1cf98ebcbd015e6a76c8d5ce468d32057622a41c0cee9b377ff5d30665bac3bf", func := "pendule/pendulelaw07.KnotAlike", spec := "knotAlike", apart := false }
def KnotAlikeSaid : Prop := knotAlikeRow.holds Try.pinned (OpenSpec.ofChange knotAlikeSpec)

/-- ITS FALSE NEIGHBOUR: 'it returns false'. Refute it at one input. -/
def knotAlikeWrong : ChangeSpec := { name := "knotAlike", fn := fun _ => fun
  | [d] => { results := [.lit (.bool false)], args := [d] }
  | _ => none }
def KnotAlikeWrongFalsely : Prop := knotAlikeRow.holds Try.pinned (OpenSpec.ofChange knotAlikeWrong)

/-- 'pendulelaw07.KnotOrder': WHATEVER THE INPUT: true; the input reads as it did. -/
def knotOrderSpec : ChangeSpec := { name := "knotOrder", fn := fun _ => fun
  | [d1, d2, d3] => { results := [.lit (.bool true)], args := [d1, d2, d3] }
  | _ => none }
def knotOrderRow : OpenClaim := { program := "ytdopccbnnmaccaa", sum := "1cf98ebcbd015e6a76c8d5ce468d32057622a41c0cee9b377ff5d30665bac3bf", func := "pendule/pendulelaw07.KnotOrder", spec := "knotOrder", apart := false }
def KnotOrderSaid : Prop := knotOrderRow.holds Try.pinned (OpenSpec.ofChange knotOrderSpec)

/-- ITS FALSE NEIGHBOUR: 'it returns false'. Refute it at one input. -/
def knotOrderWrong : ChangeSpec := { name := "knotOrder", fn := fun _ => fun
  | [d1, d2, d3] => { results := [.lit (.bool false)], args := [d1, d2, d3] }
  | _ => none }
def KnotOrderWrongFalsely : Prop := knotOrderRow.holds Try.pinned (OpenSpec.ofChange knotOrderWrong)

/-- 'pendulelaw07.KnotNil': WHATEVER THE INPUT: true; the input reads as it did. -/
def knotNilSpec : ChangeSpec := { name := "knotNil", fn := fun _ => fun
  | [d1, d2] => { results := [.lit (.bool true)], args := [d1, d2] }
  | _ => none }
def knotNilRow : OpenClaim := { program := "ytdopccbnnmaccaa", sum := "1cf98ebcbd015e6a76c8d5ce468d32057622a41c0cee9b377ff5d30665bac3bf", func := "pendule/pendulelaw07.KnotNil", spec := "knotNil", apart := false }
def KnotNilSaid : Prop := knotNilRow.holds Try.pinned (OpenSpec.ofChange knotNilSpec)

/-- ITS FALSE NEIGHBOUR: 'it returns false'. Refute it at one input. -/
def knotNilWrong : ChangeSpec := { name := "knotNil", fn := fun _ => fun
  | [d1, d2] => { results := [.lit (.bool false)], args := [d1, d2] }
  | _ => none }
def KnotNilWrongFalsely : Prop := knotNilRow.holds Try.pinned (OpenSpec.ofChange knotNilWrong)

/- THE SECOND FORM. 'bulk': how many values and letters a reading holds, each counted each time it is reached (what is shared counts as often as it is met; a slice's spare places count too). A statement '..UptoSaid' is the law's where the arguments, and the package variables that the reading takes, are together of bulk at most 1048576: NARROWER than '..Said'. Prove '..Said' where nothing that the law and all that it calls make is longer than what came in: it says more and counts as full. Else prove '..UptoSaid'. A law counts once. -/
mutual
def uptoBulk {H : Type} : DataW H → Nat
  | .lit (.string bytes) => bytes.length + 1
  | .lit _ => 1
  | .nil => 1
  | .ptr d => uptoBulk d + 1
  | .slice elems spare => uptoBulkAll elems + uptoBulkAll spare + 1
  | .agg parts => uptoBulkAll parts + 1
  | .iface _ d => uptoBulk d + 1
  | .map entries => uptoBulkEntries entries + 1
  | .held _ => 1
def uptoBulkAll {H : Type} : List (DataW H) → Nat
  | [] => 0
  | d :: r => uptoBulk d + uptoBulkAll r
def uptoBulkEntries {H : Type} : List (Lit × DataW H) → Nat
  | [] => 0
  | x :: r => uptoBulkEntry x + uptoBulkEntries r
def uptoBulkEntry {H : Type} : Lit × DataW H → Nat
  | (.string bytes, d) => bytes.length + uptoBulk d + 1
  | (_, d) => uptoBulk d + 1
 end
def uptoSmall : (H : Type) → List (DataW H) → Bool := fun _ ds => decide (uptoBulkAll ds ≤ 1048576)
def OpenSpec.upto (s : _root_.Go.ChangeSpec) : _root_.Go.OpenSpec := { _root_.Go.OpenSpec.ofChange s with cond := some uptoSmall }

/-- 'pendulelaw07.KnotRefuses', WHERE WHAT IT READS IS OF BULK AT MOST 1048576: true; the input reads as it did. -/
def knotRefusesUptoRow : OpenClaim := { program := "ytdopccbnnmaccaa", sum := "1cf98ebcbd015e6a76c8d5ce468d32057622a41c0cee9b377ff5d30665bac3bf", func := "pendule/pendulelaw07.KnotRefuses", spec := "knotRefuses", apart := false, narrowed := true }
def KnotRefusesUptoSaid : Prop := knotRefusesUptoRow.holds Try.pinned (OpenSpec.upto knotRefusesSpec)

/-- 'pendulelaw07.KnotPlays', WHERE WHAT IT READS IS OF BULK AT MOST 1048576: true; the input reads as it did. -/
def knotPlaysUptoRow : OpenClaim := { program := "ytdopccbnnmaccaa", sum := "1cf98ebcbd015e6a76c8d5ce468d32057622a41c0cee9b377ff5d30665bac3bf", func := "pendule/pendulelaw07.KnotPlays", spec := "knotPlays", apart := false, narrowed := true }
def KnotPlaysUptoSaid : Prop := knotPlaysUptoRow.holds Try.pinned (OpenSpec.upto knotPlaysSpec)

/-- 'pendulelaw07.KnotAlike', WHERE WHAT IT READS IS OF BULK AT MOST 1048576: true; the input reads as it did. -/
def knotAlikeUptoRow : OpenClaim := { program := "ytdopccbnnmaccaa", sum := "1cf98ebcbd015e6a76c8d5ce468d32057622a41c0cee9b377ff5d30665bac3bf", func := "pendule/pendulelaw07.KnotAlike", spec := "knotAlike", apart := false, narrowed := true }
def KnotAlikeUptoSaid : Prop := knotAlikeUptoRow.holds Try.pinned (OpenSpec.upto knotAlikeSpec)

/-- 'pendulelaw07.KnotOrder', WHERE WHAT IT READS IS OF BULK AT MOST 1048576: true; the input reads as it did. -/
def knotOrderUptoRow : OpenClaim := { program := "ytdopccbnnmaccaa", sum := "1cf98ebcbd015e6a76c8d5ce468d32057622a41c0cee9b377ff5d30665bac3bf", func := "pendule/pendulelaw07.KnotOrder", spec := "knotOrder", apart := false, narrowed := true }
def KnotOrderUptoSaid : Prop := knotOrderUptoRow.holds Try.pinned (OpenSpec.upto knotOrderSpec)

/-- 'pendulelaw07.KnotNil', WHERE WHAT IT READS IS OF BULK AT MOST 1048576: true; the input reads as it did. -/
def knotNilUptoRow : OpenClaim := { program := "ytdopccbnnmaccaa", sum := "1cf98ebcbd015e6a76c8d5ce468d32057622a41c0cee9b377ff5d30665bac3bf", func := "pendule/pendulelaw07.KnotNil", spec := "knotNil", apart := false, narrowed := true }
def KnotNilUptoSaid : Prop := knotNilUptoRow.holds Try.pinned (OpenSpec.upto knotNilSpec)

end Rows
end Go.Proofs.Ytdopccbnnmaccaa
