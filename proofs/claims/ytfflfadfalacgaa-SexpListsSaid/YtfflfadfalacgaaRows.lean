/-
  No cell of these rows narrows 'for every input' (looked for: loops, veiled, ifaces, maps, wideKeys, modest, calm, conditions, laid).
  DERIVED. THE GIVEN ROWS OF THIS SEAT. 7 by the template 'for every input the law returns true; each argument reads behind the call as it read before'; 0 by the template 'total and deterministic' (their statements: YtfflfadfalacgaaTotals.lean).
  GIVEN WITH THE SEED: the statements are not yours to turn. If you find one false, say at which input.
  Laid BY PROGRAM, IN A SANDBOX (cutbox-rows.mjs): the forced cells as the released guide's own fill.sh prints them over the translation c19dc7560f743557… (all of the seat's roots in one cut). By AI agents, Wed Nov 11 2026. No macro, syntax, notation, axiom, sorry.
-/
import Derived.Test.YtfflfadfalacgaaChecked
import GoSem.Claim
import GoSem.ClaimJoined
import GoSem.ClaimMapViews
import Derived.JoinedTies
import Derived.KernelRfl
namespace Go.Proofs.Ytfflfadfalacgaa
/- THE CELL 'sum', in the pinned program and in every row, IS THE sha256 OF THE DUMP (.gsa) THAT YtfflfadfalacgaaProg.lean LOADS. Nothing in Lean hashes anything: it is a label: what it is worth is what the hold of that sum in a sandbox is worth. -/
noncomputable def Try.pinned : Pinned := { name := "ytfflfadfalacgaa", sum := "c19dc7560f7435575ff09954dce83ba45cd66595de84aaa599ec6e6a3866549e", checked := Try.checked }
namespace Rows
def none {H : Type} : Left H := { results := [], args := [] }

/-- 'platenlaw09.SexpReads': WHATEVER THE INPUT: true; the input reads as it did. -/
def sexpReadsSpec : ChangeSpec := { name := "sexpReads", fn := fun _ => fun
  | [d] => { results := [.lit (.bool true)], args := [d] }
  | _ => none }
def sexpReadsRow : OpenClaim := { program := "ytfflfadfalacgaa", sum := "c19dc7560f7435575ff09954dce83ba45cd66595de84aaa599ec6e6a3866549e", func := "platen/platenlaw09.SexpReads", spec := "sexpReads", inPlace := ["internal/bytealg.IndexByteString"], unfollowed := true, recurses := true, apart := false }
def SexpReadsSaid : Prop := sexpReadsRow.holds Try.pinned (OpenSpec.ofChange sexpReadsSpec)

/-- ITS FALSE NEIGHBOUR: 'it returns false'. Refute it at one input. -/
def sexpReadsWrong : ChangeSpec := { name := "sexpReads", fn := fun _ => fun
  | [d] => { results := [.lit (.bool false)], args := [d] }
  | _ => none }
def SexpReadsWrongFalsely : Prop := sexpReadsRow.holds Try.pinned (OpenSpec.ofChange sexpReadsWrong)

/-- 'platenlaw09.SexpWords': WHATEVER THE INPUT: true; the input reads as it did. -/
def sexpWordsSpec : ChangeSpec := { name := "sexpWords", fn := fun _ => fun
  | [d] => { results := [.lit (.bool true)], args := [d] }
  | _ => none }
def sexpWordsRow : OpenClaim := { program := "ytfflfadfalacgaa", sum := "c19dc7560f7435575ff09954dce83ba45cd66595de84aaa599ec6e6a3866549e", func := "platen/platenlaw09.SexpWords", spec := "sexpWords", inPlace := ["internal/bytealg.IndexByteString"], unfollowed := true, recurses := true, apart := false }
def SexpWordsSaid : Prop := sexpWordsRow.holds Try.pinned (OpenSpec.ofChange sexpWordsSpec)

/-- ITS FALSE NEIGHBOUR: 'it returns false'. Refute it at one input. -/
def sexpWordsWrong : ChangeSpec := { name := "sexpWords", fn := fun _ => fun
  | [d] => { results := [.lit (.bool false)], args := [d] }
  | _ => none }
def SexpWordsWrongFalsely : Prop := sexpWordsRow.holds Try.pinned (OpenSpec.ofChange sexpWordsWrong)

/-- 'platenlaw09.SexpDeep': WHATEVER THE INPUT: true; the input reads as it did. -/
def sexpDeepSpec : ChangeSpec := { name := "sexpDeep", fn := fun _ => fun
  | [d1, d2] => { results := [.lit (.bool true)], args := [d1, d2] }
  | _ => none }
def sexpDeepRow : OpenClaim := { program := "ytfflfadfalacgaa", sum := "c19dc7560f7435575ff09954dce83ba45cd66595de84aaa599ec6e6a3866549e", func := "platen/platenlaw09.SexpDeep", spec := "sexpDeep", inPlace := ["internal/bytealg.IndexByteString"], unfollowed := true, recurses := true, apart := false }
def SexpDeepSaid : Prop := sexpDeepRow.holds Try.pinned (OpenSpec.ofChange sexpDeepSpec)

/-- ITS FALSE NEIGHBOUR: 'it returns false'. Refute it at one input. -/
def sexpDeepWrong : ChangeSpec := { name := "sexpDeep", fn := fun _ => fun
  | [d1, d2] => { results := [.lit (.bool false)], args := [d1, d2] }
  | _ => none }
def SexpDeepWrongFalsely : Prop := sexpDeepRow.holds Try.pinned (OpenSpec.ofChange sexpDeepWrong)

/-- 'platenlaw09.SexpLists': WHATEVER THE INPUT: true; the input reads as it did. -/
def sexpListsSpec : ChangeSpec := { name := "sexpLists", fn := fun _ => fun
  | [d1, d2] => { results := [.lit (.bool true)], args := [d1, d2] }
  | _ => none }
def sexpListsRow : OpenClaim := { program := "ytfflfadfalacgaa", sum := "c19dc7560f7435575ff09954dce83ba45cd66595de84aaa599ec6e6a3866549e", func := "platen/platenlaw09.SexpLists", spec := "sexpLists", inPlace := ["internal/bytealg.IndexByteString"], unfollowed := true, recurses := true, apart := false }
def SexpListsSaid : Prop := sexpListsRow.holds Try.pinned (OpenSpec.ofChange sexpListsSpec)

/-- ITS FALSE NEIGHBOUR: 'it returns false'. Refute it at one input. -/
def sexpListsWrong : ChangeSpec := { name := "sexpLists", fn := fun _ => fun
  | [d1, d2] => { results := [.lit (.bool false)], args := [d1, d2] }
  | _ => none }
def SexpListsWrongFalsely : Prop := sexpListsRow.holds Try.pinned (OpenSpec.ofChange sexpListsWrong)

/-- 'platenlaw09.SexpLeast': WHATEVER THE INPUT: true; the input reads as it did. -/
def sexpLeastSpec : ChangeSpec := { name := "sexpLeast", fn := fun _ => fun
  | [d1, d2] => { results := [.lit (.bool true)], args := [d1, d2] }
  | _ => none }
def sexpLeastRow : OpenClaim := { program := "ytfflfadfalacgaa", sum := "c19dc7560f7435575ff09954dce83ba45cd66595de84aaa599ec6e6a3866549e", func := "platen/platenlaw09.SexpLeast", spec := "sexpLeast", inPlace := ["internal/bytealg.IndexByteString"], unfollowed := true, recurses := true, apart := false }
def SexpLeastSaid : Prop := sexpLeastRow.holds Try.pinned (OpenSpec.ofChange sexpLeastSpec)

/-- ITS FALSE NEIGHBOUR: 'it returns false'. Refute it at one input. -/
def sexpLeastWrong : ChangeSpec := { name := "sexpLeast", fn := fun _ => fun
  | [d1, d2] => { results := [.lit (.bool false)], args := [d1, d2] }
  | _ => none }
def SexpLeastWrongFalsely : Prop := sexpLeastRow.holds Try.pinned (OpenSpec.ofChange sexpLeastWrong)

/-- 'platenlaw09.SexpAtoms': WHATEVER THE INPUT: true; the input reads as it did. -/
def sexpAtomsSpec : ChangeSpec := { name := "sexpAtoms", fn := fun _ => fun
  | [d] => { results := [.lit (.bool true)], args := [d] }
  | _ => none }
def sexpAtomsRow : OpenClaim := { program := "ytfflfadfalacgaa", sum := "c19dc7560f7435575ff09954dce83ba45cd66595de84aaa599ec6e6a3866549e", func := "platen/platenlaw09.SexpAtoms", spec := "sexpAtoms", inPlace := ["internal/bytealg.IndexByteString"], unfollowed := true, recurses := true, apart := false }
def SexpAtomsSaid : Prop := sexpAtomsRow.holds Try.pinned (OpenSpec.ofChange sexpAtomsSpec)

/-- ITS FALSE NEIGHBOUR: 'it returns false'. Refute it at one input. -/
def sexpAtomsWrong : ChangeSpec := { name := "sexpAtoms", fn := fun _ => fun
  | [d] => { results := [.lit (.bool false)], args := [d] }
  | _ => none }
def SexpAtomsWrongFalsely : Prop := sexpAtomsRow.holds Try.pinned (OpenSpec.ofChange sexpAtomsWrong)

/-- 'platenlaw09.SexpTexts': WHATEVER THE INPUT: true; the input reads as it did. -/
def sexpTextsSpec : ChangeSpec := { name := "sexpTexts", fn := fun _ => fun
  | [d] => { results := [.lit (.bool true)], args := [d] }
  | _ => none }
def sexpTextsRow : OpenClaim := { program := "ytfflfadfalacgaa", sum := "c19dc7560f7435575ff09954dce83ba45cd66595de84aaa599ec6e6a3866549e", func := "platen/platenlaw09.SexpTexts", spec := "sexpTexts", inPlace := ["internal/bytealg.IndexByteString"], unfollowed := true, recurses := true, apart := false }
def SexpTextsSaid : Prop := sexpTextsRow.holds Try.pinned (OpenSpec.ofChange sexpTextsSpec)

/-- ITS FALSE NEIGHBOUR: 'it returns false'. Refute it at one input. -/
def sexpTextsWrong : ChangeSpec := { name := "sexpTexts", fn := fun _ => fun
  | [d] => { results := [.lit (.bool false)], args := [d] }
  | _ => none }
def SexpTextsWrongFalsely : Prop := sexpTextsRow.holds Try.pinned (OpenSpec.ofChange sexpTextsWrong)

/- THE SECOND FORM. 'bulk': how many values and letters a reading holds, each counted each time it is reached (what is shared counts as often as it is met; a slice's spare places count too). A statement '..UptoSaid' is the law's where the arguments, and the package variables that the reading takes, are together of bulk at most 1048576: NARROWER than '..Said'. Prove '..Said' where nothing that the law and all that it calls make is longer than what came in: it says more and counts as full. Else prove '..UptoSaid'. A law counts once. -/
mutual
def uptoBulk {H : Type} : DataW H → Nat
  | .lit (.string bytes) => bytes.length + 1
  | .lit _ => 1
  | .nil => 1
  | .ptr d => uptoBulk d + 1
  | .slice elems spare => uptoBulkAll elems + uptoBulkAll spare + 1
  | .agg parts => uptoBulkAll parts + 1
  | .iface _ d => uptoBulk d + 1
  | .map entries => uptoBulkEntries entries + 1
  | .held _ => 1
def uptoBulkAll {H : Type} : List (DataW H) → Nat
  | [] => 0
  | d :: r => uptoBulk d + uptoBulkAll r
def uptoBulkEntries {H : Type} : List (Lit × DataW H) → Nat
  | [] => 0
  | x :: r => uptoBulkEntry x + uptoBulkEntries r
def uptoBulkEntry {H : Type} : Lit × DataW H → Nat
  | (.string bytes, d) => bytes.length + uptoBulk d + 1
  | (_, d) => uptoBulk d + 1
 end
def uptoSmall : (H : Type) → List (DataW H) → Bool := fun _ ds => decide (uptoBulkAll ds ≤ 1048576)
def OpenSpec.upto (s : _root_.Go.ChangeSpec) : _root_.Go.OpenSpec := { _root_.Go.OpenSpec.ofChange s with cond := some uptoSmall }

/-- 'platenlaw09.SexpReads', WHERE WHAT IT READS IS OF BULK AT MOST 1048576: true; the input reads as it did. -/
def sexpReadsUptoRow : OpenClaim := { program := "ytfflfadfalacgaa", sum := "c19dc7560f7435575ff09954dce83ba45cd66595de84aaa599ec6e6a3866549e", func := "platen/platenlaw09.SexpReads", spec := "sexpReads", inPlace := ["internal/bytealg.IndexByteString"], unfollowed := true, recurses := true, apart := false, narrowed := true }
def SexpReadsUptoSaid : Prop := sexpReadsUptoRow.holds Try.pinned (OpenSpec.upto sexpReadsSpec)

/-- 'platenlaw09.SexpWords', WHERE WHAT IT READS IS OF BULK AT MOST 1048576: true; the input reads as it did. -/
def sexpWordsUptoRow : OpenClaim := { program := "ytfflfadfalacgaa", sum := "c19dc7560f7435575ff09954dce83ba45cd66595de84aaa599ec6e6a3866549e", func := "platen/platenlaw09.SexpWords", spec := "sexpWords", inPlace := ["internal/bytealg.IndexByteString"], unfollowed := true, recurses := true, apart := false, narrowed := true }
def SexpWordsUptoSaid : Prop := sexpWordsUptoRow.holds Try.pinned (OpenSpec.upto sexpWordsSpec)

/-- 'platenlaw09.SexpDeep', WHERE WHAT IT READS IS OF BULK AT MOST 1048576: true; the input reads as it did. -/
def sexpDeepUptoRow : OpenClaim := { program := "ytfflfadfalacgaa", sum := "c19dc7560f7435575ff09954dce83ba45cd66595de84aaa599ec6e6a3866549e", func := "platen/platenlaw09.SexpDeep", spec := "sexpDeep", inPlace := ["internal/bytealg.IndexByteString"], unfollowed := true, recurses := true, apart := false, narrowed := true }
def SexpDeepUptoSaid : Prop := sexpDeepUptoRow.holds Try.pinned (OpenSpec.upto sexpDeepSpec)

/-- 'platenlaw09.SexpLists', WHERE WHAT IT READS IS OF BULK AT MOST 1048576: true; the input reads as it did. -/
def sexpListsUptoRow : OpenClaim := { program := "ytfflfadfalacgaa", sum := "c19dc7560f7435575ff09954dce83ba45cd66595de84aaa599ec6e6a3866549e", func := "platen/platenlaw09.SexpLists", spec := "sexpLists", inPlace := ["internal/bytealg.IndexByteString"], unfollowed := true, recurses := true, apart := false, narrowed := true }
def SexpListsUptoSaid : Prop := sexpListsUptoRow.holds Try.pinned (OpenSpec.upto sexpListsSpec)

/-- 'platenlaw09.SexpLeast', WHERE WHAT IT READS IS OF BULK AT MOST 1048576: true; the input reads as it did. -/
def sexpLeastUptoRow : OpenClaim := { program := "ytfflfadfalacgaa", sum := "c19dc7560f7435575ff09954dce83ba45cd66595de84aaa599ec6e6a3866549e", func := "platen/platenlaw09.SexpLeast", spec := "sexpLeast", inPlace := ["internal/bytealg.IndexByteString"], unfollowed := true, recurses := true, apart := false, narrowed := true }
def SexpLeastUptoSaid : Prop := sexpLeastUptoRow.holds Try.pinned (OpenSpec.upto sexpLeastSpec)

/-- 'platenlaw09.SexpAtoms', WHERE WHAT IT READS IS OF BULK AT MOST 1048576: true; the input reads as it did. -/
def sexpAtomsUptoRow : OpenClaim := { program := "ytfflfadfalacgaa", sum := "c19dc7560f7435575ff09954dce83ba45cd66595de84aaa599ec6e6a3866549e", func := "platen/platenlaw09.SexpAtoms", spec := "sexpAtoms", inPlace := ["internal/bytealg.IndexByteString"], unfollowed := true, recurses := true, apart := false, narrowed := true }
def SexpAtomsUptoSaid : Prop := sexpAtomsUptoRow.holds Try.pinned (OpenSpec.upto sexpAtomsSpec)

/-- 'platenlaw09.SexpTexts', WHERE WHAT IT READS IS OF BULK AT MOST 1048576: true; the input reads as it did. -/
def sexpTextsUptoRow : OpenClaim := { program := "ytfflfadfalacgaa", sum := "c19dc7560f7435575ff09954dce83ba45cd66595de84aaa599ec6e6a3866549e", func := "platen/platenlaw09.SexpTexts", spec := "sexpTexts", inPlace := ["internal/bytealg.IndexByteString"], unfollowed := true, recurses := true, apart := false, narrowed := true }
def SexpTextsUptoSaid : Prop := sexpTextsUptoRow.holds Try.pinned (OpenSpec.upto sexpTextsSpec)

end Rows
end Go.Proofs.Ytfflfadfalacgaa
