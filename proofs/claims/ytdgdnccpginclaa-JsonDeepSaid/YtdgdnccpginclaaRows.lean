/-
  No cell of these rows narrows 'for every input' (looked for: loops, veiled, ifaces, maps, wideKeys, modest, calm, conditions, laid).
  DERIVED. THE GIVEN ROWS OF THIS SEAT. 7 by the template 'for every input the law returns true; each argument reads behind the call as it read before'; 0 by the template 'total and deterministic' (their statements: YtdgdnccpginclaaTotals.lean).
  GIVEN WITH THE SEED: the statements are not yours to turn. If you find one false, say at which input.
  Laid BY PROGRAM, IN A SANDBOX (cutbox-rows.mjs): the forced cells as the released guide's own fill.sh prints them over the translation 6abac4705ba73721… (all of the seat's roots in one cut). By AI agents, Wed Nov 11 2026. No macro, syntax, notation, axiom, sorry.
-/
import Derived.Test.YtdgdnccpginclaaChecked
import GoSem.Claim
import GoSem.ClaimJoined
import GoSem.ClaimMapViews
import Derived.JoinedTies
import Derived.KernelRfl
namespace Go.Proofs.Ytdgdnccpginclaa
/- THE CELL 'sum', in the pinned program and in every row, IS THE sha256 OF THE DUMP (.gsa) THAT YtdgdnccpginclaaProg.lean LOADS. Nothing in Lean hashes anything: it is a label: what it is worth is what the hold of that sum in a sandbox is worth. -/
noncomputable def Try.pinned : Pinned := { name := "ytdgdnccpginclaa", sum := "6abac4705ba737214af8629b9d3bd6aa545ff596456491e64b312fd8ad14252f", checked := Try.checked }
namespace Rows
def none {H : Type} : Left H := { results := [], args := [] }

/-- 'platenlaw08.JsonReads': WHATEVER THE INPUT: true; the input reads as it did. -/
def jsonReadsSpec : ChangeSpec := { name := "jsonReads", fn := fun _ => fun
  | [d] => { results := [.lit (.bool true)], args := [d] }
  | _ => none }
def jsonReadsRow : OpenClaim := { program := "ytdgdnccpginclaa", sum := "6abac4705ba737214af8629b9d3bd6aa545ff596456491e64b312fd8ad14252f", func := "platen/platenlaw08.JsonReads", spec := "jsonReads", inPlace := ["internal/bytealg.IndexByteString"], unfollowed := true, recurses := true, apart := false }
def JsonReadsSaid : Prop := jsonReadsRow.holds Try.pinned (OpenSpec.ofChange jsonReadsSpec)

/-- ITS FALSE NEIGHBOUR: 'it returns false'. Refute it at one input. -/
def jsonReadsWrong : ChangeSpec := { name := "jsonReads", fn := fun _ => fun
  | [d] => { results := [.lit (.bool false)], args := [d] }
  | _ => none }
def JsonReadsWrongFalsely : Prop := jsonReadsRow.holds Try.pinned (OpenSpec.ofChange jsonReadsWrong)

/-- 'platenlaw08.JsonWords': WHATEVER THE INPUT: true; the input reads as it did. -/
def jsonWordsSpec : ChangeSpec := { name := "jsonWords", fn := fun _ => fun
  | [d] => { results := [.lit (.bool true)], args := [d] }
  | _ => none }
def jsonWordsRow : OpenClaim := { program := "ytdgdnccpginclaa", sum := "6abac4705ba737214af8629b9d3bd6aa545ff596456491e64b312fd8ad14252f", func := "platen/platenlaw08.JsonWords", spec := "jsonWords", inPlace := ["internal/bytealg.IndexByteString"], unfollowed := true, recurses := true, apart := false }
def JsonWordsSaid : Prop := jsonWordsRow.holds Try.pinned (OpenSpec.ofChange jsonWordsSpec)

/-- ITS FALSE NEIGHBOUR: 'it returns false'. Refute it at one input. -/
def jsonWordsWrong : ChangeSpec := { name := "jsonWords", fn := fun _ => fun
  | [d] => { results := [.lit (.bool false)], args := [d] }
  | _ => none }
def JsonWordsWrongFalsely : Prop := jsonWordsRow.holds Try.pinned (OpenSpec.ofChange jsonWordsWrong)

/-- 'platenlaw08.JsonDeep': WHATEVER THE INPUT: true; the input reads as it did. -/
def jsonDeepSpec : ChangeSpec := { name := "jsonDeep", fn := fun _ => fun
  | [d1, d2, d3] => { results := [.lit (.bool true)], args := [d1, d2, d3] }
  | _ => none }
def jsonDeepRow : OpenClaim := { program := "ytdgdnccpginclaa", sum := "6abac4705ba737214af8629b9d3bd6aa545ff596456491e64b312fd8ad14252f", func := "platen/platenlaw08.JsonDeep", spec := "jsonDeep", inPlace := ["internal/bytealg.IndexByteString"], unfollowed := true, recurses := true, apart := false }
def JsonDeepSaid : Prop := jsonDeepRow.holds Try.pinned (OpenSpec.ofChange jsonDeepSpec)

/-- ITS FALSE NEIGHBOUR: 'it returns false'. Refute it at one input. -/
def jsonDeepWrong : ChangeSpec := { name := "jsonDeep", fn := fun _ => fun
  | [d1, d2, d3] => { results := [.lit (.bool false)], args := [d1, d2, d3] }
  | _ => none }
def JsonDeepWrongFalsely : Prop := jsonDeepRow.holds Try.pinned (OpenSpec.ofChange jsonDeepWrong)

/-- 'platenlaw08.JsonTokens': WHATEVER THE INPUT: true; the input reads as it did. -/
def jsonTokensSpec : ChangeSpec := { name := "jsonTokens", fn := fun _ => fun
  | [d] => { results := [.lit (.bool true)], args := [d] }
  | _ => none }
def jsonTokensRow : OpenClaim := { program := "ytdgdnccpginclaa", sum := "6abac4705ba737214af8629b9d3bd6aa545ff596456491e64b312fd8ad14252f", func := "platen/platenlaw08.JsonTokens", spec := "jsonTokens", inPlace := ["internal/bytealg.IndexByteString"], unfollowed := true, recurses := true, apart := false }
def JsonTokensSaid : Prop := jsonTokensRow.holds Try.pinned (OpenSpec.ofChange jsonTokensSpec)

/-- ITS FALSE NEIGHBOUR: 'it returns false'. Refute it at one input. -/
def jsonTokensWrong : ChangeSpec := { name := "jsonTokens", fn := fun _ => fun
  | [d] => { results := [.lit (.bool false)], args := [d] }
  | _ => none }
def JsonTokensWrongFalsely : Prop := jsonTokensRow.holds Try.pinned (OpenSpec.ofChange jsonTokensWrong)

/-- 'platenlaw08.JsonLeast': WHATEVER THE INPUT: true; the input reads as it did. -/
def jsonLeastSpec : ChangeSpec := { name := "jsonLeast", fn := fun _ => fun
  | [d1, d2] => { results := [.lit (.bool true)], args := [d1, d2] }
  | _ => none }
def jsonLeastRow : OpenClaim := { program := "ytdgdnccpginclaa", sum := "6abac4705ba737214af8629b9d3bd6aa545ff596456491e64b312fd8ad14252f", func := "platen/platenlaw08.JsonLeast", spec := "jsonLeast", inPlace := ["internal/bytealg.IndexByteString"], unfollowed := true, recurses := true, apart := false }
def JsonLeastSaid : Prop := jsonLeastRow.holds Try.pinned (OpenSpec.ofChange jsonLeastSpec)

/-- ITS FALSE NEIGHBOUR: 'it returns false'. Refute it at one input. -/
def jsonLeastWrong : ChangeSpec := { name := "jsonLeast", fn := fun _ => fun
  | [d1, d2] => { results := [.lit (.bool false)], args := [d1, d2] }
  | _ => none }
def JsonLeastWrongFalsely : Prop := jsonLeastRow.holds Try.pinned (OpenSpec.ofChange jsonLeastWrong)

/-- 'platenlaw08.JsonBlanks': WHATEVER THE INPUT: true; the input reads as it did. -/
def jsonBlanksSpec : ChangeSpec := { name := "jsonBlanks", fn := fun _ => fun
  | [d1, d2] => { results := [.lit (.bool true)], args := [d1, d2] }
  | _ => none }
def jsonBlanksRow : OpenClaim := { program := "ytdgdnccpginclaa", sum := "6abac4705ba737214af8629b9d3bd6aa545ff596456491e64b312fd8ad14252f", func := "platen/platenlaw08.JsonBlanks", spec := "jsonBlanks", inPlace := ["internal/bytealg.IndexByteString"], unfollowed := true, recurses := true, apart := false }
def JsonBlanksSaid : Prop := jsonBlanksRow.holds Try.pinned (OpenSpec.ofChange jsonBlanksSpec)

/-- ITS FALSE NEIGHBOUR: 'it returns false'. Refute it at one input. -/
def jsonBlanksWrong : ChangeSpec := { name := "jsonBlanks", fn := fun _ => fun
  | [d1, d2] => { results := [.lit (.bool false)], args := [d1, d2] }
  | _ => none }
def JsonBlanksWrongFalsely : Prop := jsonBlanksRow.holds Try.pinned (OpenSpec.ofChange jsonBlanksWrong)

/-- 'platenlaw08.JsonSigns': WHATEVER THE INPUT: true; the input reads as it did. -/
def jsonSignsSpec : ChangeSpec := { name := "jsonSigns", fn := fun _ => fun
  | [d] => { results := [.lit (.bool true)], args := [d] }
  | _ => none }
def jsonSignsRow : OpenClaim := { program := "ytdgdnccpginclaa", sum := "6abac4705ba737214af8629b9d3bd6aa545ff596456491e64b312fd8ad14252f", func := "platen/platenlaw08.JsonSigns", spec := "jsonSigns", inPlace := ["internal/bytealg.IndexByteString"], unfollowed := true, recurses := true, apart := false }
def JsonSignsSaid : Prop := jsonSignsRow.holds Try.pinned (OpenSpec.ofChange jsonSignsSpec)

/-- ITS FALSE NEIGHBOUR: 'it returns false'. Refute it at one input. -/
def jsonSignsWrong : ChangeSpec := { name := "jsonSigns", fn := fun _ => fun
  | [d] => { results := [.lit (.bool false)], args := [d] }
  | _ => none }
def JsonSignsWrongFalsely : Prop := jsonSignsRow.holds Try.pinned (OpenSpec.ofChange jsonSignsWrong)

/- THE SECOND FORM. 'bulk': how many values and letters a reading holds, each counted each time it is reached (what is shared counts as often as it is met; a slice's spare places count too). A statement '..UptoSaid' is the law's where the arguments, and the package variables that the reading takes, are together of bulk at most 1048576: NARROWER than '..Said'. Prove '..Said' where nothing that the law and all that it calls make is longer than what came in: it says more and counts as full. Else prove '..UptoSaid'. A law counts once. -/
mutual
def uptoBulk {H : Type} : DataW H → Nat
  | .lit (.string bytes) => bytes.length + 1
  | .lit _ => 1
  | .nil => 1
  | .ptr d => uptoBulk d + 1
  | .slice elems spare => uptoBulkAll elems + uptoBulkAll spare + 1
  | .agg parts => uptoBulkAll parts + 1
  | .iface _ d => uptoBulk d + 1
  | .map entries => uptoBulkEntries entries + 1
  | .held _ => 1
def uptoBulkAll {H : Type} : List (DataW H) → Nat
  | [] => 0
  | d :: r => uptoBulk d + uptoBulkAll r
def uptoBulkEntries {H : Type} : List (Lit × DataW H) → Nat
  | [] => 0
  | x :: r => uptoBulkEntry x + uptoBulkEntries r
def uptoBulkEntry {H : Type} : Lit × DataW H → Nat
  | (.string bytes, d) => bytes.length + uptoBulk d + 1
  | (_, d) => uptoBulk d + 1
 end
def uptoSmall : (H : Type) → List (DataW H) → Bool := fun _ ds => decide (uptoBulkAll ds ≤ 1048576)
def OpenSpec.upto (s : _root_.Go.ChangeSpec) : _root_.Go.OpenSpec := { _root_.Go.OpenSpec.ofChange s with cond := some uptoSmall }

/-- 'platenlaw08.JsonReads', WHERE WHAT IT READS IS OF BULK AT MOST 1048576: true; the input reads as it did. -/
def jsonReadsUptoRow : OpenClaim := { program := "ytdgdnccpginclaa", sum := "6abac4705ba737214af8629b9d3bd6aa545ff596456491e64b312fd8ad14252f", func := "platen/platenlaw08.JsonReads", spec := "jsonReads", inPlace := ["internal/bytealg.IndexByteString"], unfollowed := true, recurses := true, apart := false, narrowed := true }
def JsonReadsUptoSaid : Prop := jsonReadsUptoRow.holds Try.pinned (OpenSpec.upto jsonReadsSpec)

/-- 'platenlaw08.JsonWords', WHERE WHAT IT READS IS OF BULK AT MOST 1048576: true; the input reads as it did. -/
def jsonWordsUptoRow : OpenClaim := { program := "ytdgdnccpginclaa", sum := "6abac4705ba737214af8629b9d3bd6aa545ff596456491e64b312fd8ad14252f", func := "platen/platenlaw08.JsonWords", spec := "jsonWords", inPlace := ["internal/bytealg.IndexByteString"], unfollowed := true, recurses := true, apart := false, narrowed := true }
def JsonWordsUptoSaid : Prop := jsonWordsUptoRow.holds Try.pinned (OpenSpec.upto jsonWordsSpec)

/-- 'platenlaw08.JsonDeep', WHERE WHAT IT READS IS OF BULK AT MOST 1048576: true; the input reads as it did. -/
def jsonDeepUptoRow : OpenClaim := { program := "ytdgdnccpginclaa", sum := "6abac4705ba737214af8629b9d3bd6aa545ff596456491e64b312fd8ad14252f", func := "platen/platenlaw08.JsonDeep", spec := "jsonDeep", inPlace := ["internal/bytealg.IndexByteString"], unfollowed := true, recurses := true, apart := false, narrowed := true }
def JsonDeepUptoSaid : Prop := jsonDeepUptoRow.holds Try.pinned (OpenSpec.upto jsonDeepSpec)

/-- 'platenlaw08.JsonTokens', WHERE WHAT IT READS IS OF BULK AT MOST 1048576: true; the input reads as it did. -/
def jsonTokensUptoRow : OpenClaim := { program := "ytdgdnccpginclaa", sum := "6abac4705ba737214af8629b9d3bd6aa545ff596456491e64b312fd8ad14252f", func := "platen/platenlaw08.JsonTokens", spec := "jsonTokens", inPlace := ["internal/bytealg.IndexByteString"], unfollowed := true, recurses := true, apart := false, narrowed := true }
def JsonTokensUptoSaid : Prop := jsonTokensUptoRow.holds Try.pinned (OpenSpec.upto jsonTokensSpec)

/-- 'platenlaw08.JsonLeast', WHERE WHAT IT READS IS OF BULK AT MOST 1048576: true; the input reads as it did. -/
def jsonLeastUptoRow : OpenClaim := { program := "ytdgdnccpginclaa", sum := "6abac4705ba737214af8629b9d3bd6aa545ff596456491e64b312fd8ad14252f", func := "platen/platenlaw08.JsonLeast", spec := "jsonLeast", inPlace := ["internal/bytealg.IndexByteString"], unfollowed := true, recurses := true, apart := false, narrowed := true }
def JsonLeastUptoSaid : Prop := jsonLeastUptoRow.holds Try.pinned (OpenSpec.upto jsonLeastSpec)

/-- 'platenlaw08.JsonBlanks', WHERE WHAT IT READS IS OF BULK AT MOST 1048576: true; the input reads as it did. -/
def jsonBlanksUptoRow : OpenClaim := { program := "ytdgdnccpginclaa", sum := "6abac4705ba737214af8629b9d3bd6aa545ff596456491e64b312fd8ad14252f", func := "platen/platenlaw08.JsonBlanks", spec := "jsonBlanks", inPlace := ["internal/bytealg.IndexByteString"], unfollowed := true, recurses := true, apart := false, narrowed := true }
def JsonBlanksUptoSaid : Prop := jsonBlanksUptoRow.holds Try.pinned (OpenSpec.upto jsonBlanksSpec)

/-- 'platenlaw08.JsonSigns', WHERE WHAT IT READS IS OF BULK AT MOST 1048576: true; the input reads as it did. -/
def jsonSignsUptoRow : OpenClaim := { program := "ytdgdnccpginclaa", sum := "6abac4705ba737214af8629b9d3bd6aa545ff596456491e64b312fd8ad14252f", func := "platen/platenlaw08.JsonSigns", spec := "jsonSigns", inPlace := ["internal/bytealg.IndexByteString"], unfollowed := true, recurses := true, apart := false, narrowed := true }
def JsonSignsUptoSaid : Prop := jsonSignsUptoRow.holds Try.pinned (OpenSpec.upto jsonSignsSpec)

end Rows
end Go.Proofs.Ytdgdnccpginclaa
