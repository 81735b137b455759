/-
  No cell of these rows narrows 'for every input' (looked for: loops, veiled, ifaces, maps, wideKeys, modest, calm, conditions, laid).
  DERIVED. THE GIVEN ROWS OF THIS SEAT. 9 by the template 'for every input the law returns true; each argument reads behind the call as it read before'; 0 by the template 'total and deterministic' (their statements: YtkdhfbdecmfhcaaTotals.lean).
  GIVEN WITH THE SEED: the statements are not yours to turn. If you find one false, say at which input.
  Laid BY PROGRAM, IN A SANDBOX (cutbox-rows.mjs): the forced cells as the released guide's own fill.sh prints them over the translation b98628595e9efd63… (all of the seat's roots in one cut). By AI agents, Wed Nov 11 2026. No macro, syntax, notation, axiom, sorry.
-/
import Derived.Test.YtkdhfbdecmfhcaaChecked
import GoSem.Claim
import GoSem.ClaimJoined
import GoSem.ClaimMapViews
import Derived.JoinedTies
import Derived.KernelRfl
namespace Go.Proofs.Ytkdhfbdecmfhcaa
/- THE CELL 'sum', in the pinned program and in every row, IS THE sha256 OF THE DUMP (.gsa) THAT YtkdhfbdecmfhcaaProg.lean LOADS. Nothing in Lean hashes anything: it is a label: what it is worth is what the hold of that sum in a sandbox is worth. -/
noncomputable def Try.pinned : Pinned := { name := "ytkdhfbdecmfhcaa", sum := "b98628595e9efd63b71ed6a9f0160867c6ca131735341c4c93134e6925ed2777", checked := Try.checked }
namespace Rows
def none {H : Type} : Left H := { results := [], args := [] }

/-- 'platenlaw12.FillCosts': WHATEVER THE INPUT: true; the input reads as it did. -/
def fillCostsSpec : ChangeSpec := { name := "fillCosts", fn := fun _ => fun
  | [d1, d2] => { results := [.lit (.bool true)], args := [d1, d2] }
  | _ => none }
def fillCostsRow : OpenClaim := { program := "ytkdhfbdecmfhcaa", sum := "b98628595e9efd63b71ed6a9f0160867c6ca131735341c4c93134e6925ed2777", func := "platen/platenlaw12.FillCosts", spec := "fillCosts", apart := false }
def FillCostsSaid : Prop := fillCostsRow.holds Try.pinned (OpenSpec.ofChange fillCostsSpec)

/-- ITS FALSE NEIGHBOUR: 'it returns false'. Refute it at one input. -/
def fillCostsWrong : ChangeSpec := { name := "fillCosts", fn := fun _ => fun
  | [d1, d2] => { results := [.lit (.bool false)], args := [d1, d2] }
  | _ => none }
def FillCostsWrongFalsely : Prop := fillCostsRow.holds Try.pinned (OpenSpec.ofChange fillCostsWrong)

/-- 'platenlaw12.FillSums': WHATEVER THE INPUT: true; the input reads as it did. -/
def fillSumsSpec : ChangeSpec := { name := "fillSums", fn := fun _ => fun
  | [d1, d2, d3] => { results := [.lit (.bool true)], args := [d1, d2, d3] }
  | _ => none }
def fillSumsRow : OpenClaim := { program := "ytkdhfbdecmfhcaa", sum := "b98628595e9efd63b71ed6a9f0160867c6ca131735341c4c93134e6925ed2777", func := "platen/platenlaw12.FillSums", spec := "fillSums", apart := false }
def FillSumsSaid : Prop := fillSumsRow.holds Try.pinned (OpenSpec.ofChange fillSumsSpec)

/-- ITS FALSE NEIGHBOUR: 'it returns false'. Refute it at one input. -/
def fillSumsWrong : ChangeSpec := { name := "fillSums", fn := fun _ => fun
  | [d1, d2, d3] => { results := [.lit (.bool false)], args := [d1, d2, d3] }
  | _ => none }
def FillSumsWrongFalsely : Prop := fillSumsRow.holds Try.pinned (OpenSpec.ofChange fillSumsWrong)

/-- 'platenlaw12.FillLines': WHATEVER THE INPUT: true; the input reads as it did. -/
def fillLinesSpec : ChangeSpec := { name := "fillLines", fn := fun _ => fun
  | [d1, d2] => { results := [.lit (.bool true)], args := [d1, d2] }
  | _ => none }
def fillLinesRow : OpenClaim := { program := "ytkdhfbdecmfhcaa", sum := "b98628595e9efd63b71ed6a9f0160867c6ca131735341c4c93134e6925ed2777", func := "platen/platenlaw12.FillLines", spec := "fillLines", apart := false }
def FillLinesSaid : Prop := fillLinesRow.holds Try.pinned (OpenSpec.ofChange fillLinesSpec)

/-- ITS FALSE NEIGHBOUR: 'it returns false'. Refute it at one input. -/
def fillLinesWrong : ChangeSpec := { name := "fillLines", fn := fun _ => fun
  | [d1, d2] => { results := [.lit (.bool false)], args := [d1, d2] }
  | _ => none }
def FillLinesWrongFalsely : Prop := fillLinesRow.holds Try.pinned (OpenSpec.ofChange fillLinesWrong)

/-- 'platenlaw12.FillLeast': WHATEVER THE INPUT: true; the input reads as it did. -/
def fillLeastSpec : ChangeSpec := { name := "fillLeast", fn := fun _ => fun
  | [d1, d2, d3] => { results := [.lit (.bool true)], args := [d1, d2, d3] }
  | _ => none }
def fillLeastRow : OpenClaim := { program := "ytkdhfbdecmfhcaa", sum := "b98628595e9efd63b71ed6a9f0160867c6ca131735341c4c93134e6925ed2777", func := "platen/platenlaw12.FillLeast", spec := "fillLeast", apart := false }
def FillLeastSaid : Prop := fillLeastRow.holds Try.pinned (OpenSpec.ofChange fillLeastSpec)

/-- ITS FALSE NEIGHBOUR: 'it returns false'. Refute it at one input. -/
def fillLeastWrong : ChangeSpec := { name := "fillLeast", fn := fun _ => fun
  | [d1, d2, d3] => { results := [.lit (.bool false)], args := [d1, d2, d3] }
  | _ => none }
def FillLeastWrongFalsely : Prop := fillLeastRow.holds Try.pinned (OpenSpec.ofChange fillLeastWrong)

/-- 'platenlaw12.FillFirst': WHATEVER THE INPUT: true; the input reads as it did. -/
def fillFirstSpec : ChangeSpec := { name := "fillFirst", fn := fun _ => fun
  | [d1, d2, d3] => { results := [.lit (.bool true)], args := [d1, d2, d3] }
  | _ => none }
def fillFirstRow : OpenClaim := { program := "ytkdhfbdecmfhcaa", sum := "b98628595e9efd63b71ed6a9f0160867c6ca131735341c4c93134e6925ed2777", func := "platen/platenlaw12.FillFirst", spec := "fillFirst", apart := false }
def FillFirstSaid : Prop := fillFirstRow.holds Try.pinned (OpenSpec.ofChange fillFirstSpec)

/-- ITS FALSE NEIGHBOUR: 'it returns false'. Refute it at one input. -/
def fillFirstWrong : ChangeSpec := { name := "fillFirst", fn := fun _ => fun
  | [d1, d2, d3] => { results := [.lit (.bool false)], args := [d1, d2, d3] }
  | _ => none }
def FillFirstWrongFalsely : Prop := fillFirstRow.holds Try.pinned (OpenSpec.ofChange fillFirstWrong)

/-- 'platenlaw12.FillOver': WHATEVER THE INPUT: true; the input reads as it did. -/
def fillOverSpec : ChangeSpec := { name := "fillOver", fn := fun _ => fun
  | [d1, d2] => { results := [.lit (.bool true)], args := [d1, d2] }
  | _ => none }
def fillOverRow : OpenClaim := { program := "ytkdhfbdecmfhcaa", sum := "b98628595e9efd63b71ed6a9f0160867c6ca131735341c4c93134e6925ed2777", func := "platen/platenlaw12.FillOver", spec := "fillOver", apart := false }
def FillOverSaid : Prop := fillOverRow.holds Try.pinned (OpenSpec.ofChange fillOverSpec)

/-- ITS FALSE NEIGHBOUR: 'it returns false'. Refute it at one input. -/
def fillOverWrong : ChangeSpec := { name := "fillOver", fn := fun _ => fun
  | [d1, d2] => { results := [.lit (.bool false)], args := [d1, d2] }
  | _ => none }
def FillOverWrongFalsely : Prop := fillOverRow.holds Try.pinned (OpenSpec.ofChange fillOverWrong)

/-- 'platenlaw12.FillOne': WHATEVER THE INPUT: true; the input reads as it did. -/
def fillOneSpec : ChangeSpec := { name := "fillOne", fn := fun _ => fun
  | [d1, d2] => { results := [.lit (.bool true)], args := [d1, d2] }
  | _ => none }
def fillOneRow : OpenClaim := { program := "ytkdhfbdecmfhcaa", sum := "b98628595e9efd63b71ed6a9f0160867c6ca131735341c4c93134e6925ed2777", func := "platen/platenlaw12.FillOne", spec := "fillOne", apart := false }
def FillOneSaid : Prop := fillOneRow.holds Try.pinned (OpenSpec.ofChange fillOneSpec)

/-- ITS FALSE NEIGHBOUR: 'it returns false'. Refute it at one input. -/
def fillOneWrong : ChangeSpec := { name := "fillOne", fn := fun _ => fun
  | [d1, d2] => { results := [.lit (.bool false)], args := [d1, d2] }
  | _ => none }
def FillOneWrongFalsely : Prop := fillOneRow.holds Try.pinned (OpenSpec.ofChange fillOneWrong)

/-- 'platenlaw12.FillRest': WHATEVER THE INPUT: true; the input reads as it did. -/
def fillRestSpec : ChangeSpec := { name := "fillRest", fn := fun _ => fun
  | [d1, d2] => { results := [.lit (.bool true)], args := [d1, d2] }
  | _ => none }
def fillRestRow : OpenClaim := { program := "ytkdhfbdecmfhcaa", sum := "b98628595e9efd63b71ed6a9f0160867c6ca131735341c4c93134e6925ed2777", func := "platen/platenlaw12.FillRest", spec := "fillRest", apart := false }
def FillRestSaid : Prop := fillRestRow.holds Try.pinned (OpenSpec.ofChange fillRestSpec)

/-- ITS FALSE NEIGHBOUR: 'it returns false'. Refute it at one input. -/
def fillRestWrong : ChangeSpec := { name := "fillRest", fn := fun _ => fun
  | [d1, d2] => { results := [.lit (.bool false)], args := [d1, d2] }
  | _ => none }
def FillRestWrongFalsely : Prop := fillRestRow.holds Try.pinned (OpenSpec.ofChange fillRestWrong)

/-- 'platenlaw12.FillWide': WHATEVER THE INPUT: true; the input reads as it did. -/
def fillWideSpec : ChangeSpec := { name := "fillWide", fn := fun _ => fun
  | [d1, d2, d3] => { results := [.lit (.bool true)], args := [d1, d2, d3] }
  | _ => none }
def fillWideRow : OpenClaim := { program := "ytkdhfbdecmfhcaa", sum := "b98628595e9efd63b71ed6a9f0160867c6ca131735341c4c93134e6925ed2777", func := "platen/platenlaw12.FillWide", spec := "fillWide", apart := false }
def FillWideSaid : Prop := fillWideRow.holds Try.pinned (OpenSpec.ofChange fillWideSpec)

/-- ITS FALSE NEIGHBOUR: 'it returns false'. Refute it at one input. -/
def fillWideWrong : ChangeSpec := { name := "fillWide", fn := fun _ => fun
  | [d1, d2, d3] => { results := [.lit (.bool false)], args := [d1, d2, d3] }
  | _ => none }
def FillWideWrongFalsely : Prop := fillWideRow.holds Try.pinned (OpenSpec.ofChange fillWideWrong)

/- THE SECOND FORM. 'bulk': how many values and letters a reading holds, each counted each time it is reached (what is shared counts as often as it is met; a slice's spare places count too). A statement '..UptoSaid' is the law's where the arguments, and the package variables that the reading takes, are together of bulk at most 1048576: NARROWER than '..Said'. Prove '..Said' where nothing that the law and all that it calls make is longer than what came in: it says more and counts as full. Else prove '..UptoSaid'. A law counts once. -/
mutual
def uptoBulk {H : Type} : DataW H → Nat
  | .lit (.string bytes) => bytes.length + 1
  | .lit _ => 1
  | .nil => 1
  | .ptr d => uptoBulk d + 1
  | .slice elems spare => uptoBulkAll elems + uptoBulkAll spare + 1
  | .agg parts => uptoBulkAll parts + 1
  | .iface _ d => uptoBulk d + 1
  | .map entries => uptoBulkEntries entries + 1
  | .held _ => 1
def uptoBulkAll {H : Type} : List (DataW H) → Nat
  | [] => 0
  | d :: r => uptoBulk d + uptoBulkAll r
def uptoBulkEntries {H : Type} : List (Lit × DataW H) → Nat
  | [] => 0
  | x :: r => uptoBulkEntry x + uptoBulkEntries r
def uptoBulkEntry {H : Type} : Lit × DataW H → Nat
  | (.string bytes, d) => bytes.length + uptoBulk d + 1
  | (_, d) => uptoBulk d + 1
 end
def uptoSmall : (H : Type) → List (DataW H) → Bool := fun _ ds => decide (uptoBulkAll ds ≤ 1048576)
def OpenSpec.upto (s : _root_.Go.ChangeSpec) : _root_.Go.OpenSpec := { _root_.Go.OpenSpec.ofChange s with cond := some uptoSmall }

/-- 'platenlaw12.FillCosts', WHERE WHAT IT READS IS OF BULK AT MOST 1048576: true; the input reads as it did. -/
def fillCostsUptoRow : OpenClaim := { program := "ytkdhfbdecmfhcaa", sum := "b98628595e9efd63b71ed6a9f0160867c6ca131735341c4c93134e6925ed2777", func := "platen/platenlaw12.FillCosts", spec := "fillCosts", apart := false, narrowed := true }
def FillCostsUptoSaid : Prop := fillCostsUptoRow.holds Try.pinned (OpenSpec.upto fillCostsSpec)

/-- 'platenlaw12.FillSums', WHERE WHAT IT READS IS OF BULK AT MOST 1048576: true; the input reads as it did. -/
def fillSumsUptoRow : OpenClaim := { program := "ytkdhfbdecmfhcaa", sum := "b98628595e9efd63b71ed6a9f0160867c6ca131735341c4c93134e6925ed2777", func := "platen/platenlaw12.FillSums", spec := "fillSums", apart := false, narrowed := true }
def FillSumsUptoSaid : Prop := fillSumsUptoRow.holds Try.pinned (OpenSpec.upto fillSumsSpec)

/-- 'platenlaw12.FillLines', WHERE WHAT IT READS IS OF BULK AT MOST 1048576: true; the input reads as it did. -/
def fillLinesUptoRow : OpenClaim := { program := "ytkdhfbdecmfhcaa", sum := "b98628595e9efd63b71ed6a9f0160867c6ca131735341c4c93134e6925ed2777", func := "platen/platenlaw12.FillLines", spec := "fillLines", apart := false, narrowed := true }
def FillLinesUptoSaid : Prop := fillLinesUptoRow.holds Try.pinned (OpenSpec.upto fillLinesSpec)

/-- 'platenlaw12.FillLeast', WHERE WHAT IT READS IS OF BULK AT MOST 1048576: true; the input reads as it did. -/
def fillLeastUptoRow : OpenClaim := { program := "ytkdhfbdecmfhcaa", sum := "b98628595e9efd63b71ed6a9f0160867c6ca131735341c4c93134e6925ed2777", func := "platen/platenlaw12.FillLeast", spec := "fillLeast", apart := false, narrowed := true }
def FillLeastUptoSaid : Prop := fillLeastUptoRow.holds Try.pinned (OpenSpec.upto fillLeastSpec)

/-- 'platenlaw12.FillFirst', WHERE WHAT IT READS IS OF BULK AT MOST 1048576: true; the input reads as it did. -/
def fillFirstUptoRow : OpenClaim := { program := "ytkdhfbdecmfhcaa", sum := "b98628595e9efd63b71ed6a9f0160867c6ca131735341c4c93134e6925ed2777", func := "platen/platenlaw12.FillFirst", spec := "fillFirst", apart := false, narrowed := true }
def FillFirstUptoSaid : Prop := fillFirstUptoRow.holds Try.pinned (OpenSpec.upto fillFirstSpec)

/-- 'platenlaw12.FillOver', WHERE WHAT IT READS IS OF BULK AT MOST 1048576: true; the input reads as it did. -/
def fillOverUptoRow : OpenClaim := { program := "ytkdhfbdecmfhcaa", sum := "b98628595e9efd63b71ed6a9f0160867c6ca131735341c4c93134e6925ed2777", func := "platen/platenlaw12.FillOver", spec := "fillOver", apart := false, narrowed := true }
def FillOverUptoSaid : Prop := fillOverUptoRow.holds Try.pinned (OpenSpec.upto fillOverSpec)

/-- 'platenlaw12.FillOne', WHERE WHAT IT READS IS OF BULK AT MOST 1048576: true; the input reads as it did. -/
def fillOneUptoRow : OpenClaim := { program := "ytkdhfbdecmfhcaa", sum := "b98628595e9efd63b71ed6a9f0160867c6ca131735341c4c93134e6925ed2777", func := "platen/platenlaw12.FillOne", spec := "fillOne", apart := false, narrowed := true }
def FillOneUptoSaid : Prop := fillOneUptoRow.holds Try.pinned (OpenSpec.upto fillOneSpec)

/-- 'platenlaw12.FillRest', WHERE WHAT IT READS IS OF BULK AT MOST 1048576: true; the input reads as it did. -/
def fillRestUptoRow : OpenClaim := { program := "ytkdhfbdecmfhcaa", sum := "b98628595e9efd63b71ed6a9f0160867c6ca131735341c4c93134e6925ed2777", func := "platen/platenlaw12.FillRest", spec := "fillRest", apart := false, narrowed := true }
def FillRestUptoSaid : Prop := fillRestUptoRow.holds Try.pinned (OpenSpec.upto fillRestSpec)

/-- 'platenlaw12.FillWide', WHERE WHAT IT READS IS OF BULK AT MOST 1048576: true; the input reads as it did. -/
def fillWideUptoRow : OpenClaim := { program := "ytkdhfbdecmfhcaa", sum := "b98628595e9efd63b71ed6a9f0160867c6ca131735341c4c93134e6925ed2777", func := "platen/platenlaw12.FillWide", spec := "fillWide", apart := false, narrowed := true }
def FillWideUptoSaid : Prop := fillWideUptoRow.holds Try.pinned (OpenSpec.upto fillWideSpec)

end Rows
end Go.Proofs.Ytkdhfbdecmfhcaa
