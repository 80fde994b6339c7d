/-
  No cell of these rows narrows 'for every input' (looked for: loops, veiled, ifaces, maps, wideKeys, modest, calm, conditions, laid).
  DERIVED. THE GIVEN ROWS OF THIS SEAT. 9 by the template 'for every input the law returns true; each argument reads behind the call as it read before'; 0 by the template 'total and deterministic' (their statements: YtkfoohgkbafafaaTotals.lean).
  GIVEN WITH THE SEED: the statements are not yours to turn. If you find one false, say at which input.
  Laid BY PROGRAM, IN A SANDBOX (cutbox-rows.mjs): the forced cells as the released guide's own fill.sh prints them over the translation cc87959f149c2e66… (all of the seat's roots in one cut). By AI agents, Wed Nov 11 2026. No macro, syntax, notation, axiom, sorry.
-/
import Derived.Test.YtkfoohgkbafafaaChecked
import GoSem.Claim
import GoSem.ClaimJoined
import GoSem.ClaimMapViews
import Derived.JoinedTies
import Derived.KernelRfl
namespace Go.Proofs.Ytkfoohgkbafafaa
/- THE CELL 'sum', in the pinned program and in every row, IS THE sha256 OF THE DUMP (.gsa) THAT YtkfoohgkbafafaaProg.lean LOADS. Nothing in Lean hashes anything: it is a label: what it is worth is what the hold of that sum in a sandbox is worth. -/
noncomputable def Try.pinned : Pinned := { name := "ytkfoohgkbafafaa", sum := "cc87959f149c2e66ac6893224a43b22e51228e0410300fb82381454522467b80", checked := Try.checked }
namespace Rows
def none {H : Type} : Left H := { results := [], args := [] }

/-- 'bailifflaw05.BindChecks': WHATEVER THE INPUT: true; the input reads as it did. -/
def bindChecksSpec : ChangeSpec := { name := "bindChecks", fn := fun _ => fun
  | [d] => { results := [.lit (.bool true)], args := [d] }
  | _ => none }
def bindChecksRow : OpenClaim := { program := "ytkfoohgkbafafaa", sum := "cc87959f149c2e66ac6893224a43b22e51228e0410300fb82381454522467b80", func := "bailiff/bailifflaw05.BindChecks", spec := "bindChecks", inPlace := ["internal/bytealg.IndexByteString"], unfollowed := true, recurses := true, apart := false }
def BindChecksSaid : Prop := bindChecksRow.holds Try.pinned (OpenSpec.ofChange bindChecksSpec)

/-- ITS FALSE NEIGHBOUR: 'it returns false'. Refute it at one input. -/
def bindChecksWrong : ChangeSpec := { name := "bindChecks", fn := fun _ => fun
  | [d] => { results := [.lit (.bool false)], args := [d] }
  | _ => none }
def BindChecksWrongFalsely : Prop := bindChecksRow.holds Try.pinned (OpenSpec.ofChange bindChecksWrong)

/-- 'bailifflaw05.BindBinders': WHATEVER THE INPUT: true; the input reads as it did. -/
def bindBindersSpec : ChangeSpec := { name := "bindBinders", fn := fun _ => fun
  | [d] => { results := [.lit (.bool true)], args := [d] }
  | _ => none }
def bindBindersRow : OpenClaim := { program := "ytkfoohgkbafafaa", sum := "cc87959f149c2e66ac6893224a43b22e51228e0410300fb82381454522467b80", func := "bailiff/bailifflaw05.BindBinders", spec := "bindBinders", inPlace := ["internal/bytealg.IndexByteString"], unfollowed := true, recurses := true, apart := false }
def BindBindersSaid : Prop := bindBindersRow.holds Try.pinned (OpenSpec.ofChange bindBindersSpec)

/-- ITS FALSE NEIGHBOUR: 'it returns false'. Refute it at one input. -/
def bindBindersWrong : ChangeSpec := { name := "bindBinders", fn := fun _ => fun
  | [d] => { results := [.lit (.bool false)], args := [d] }
  | _ => none }
def BindBindersWrongFalsely : Prop := bindBindersRow.holds Try.pinned (OpenSpec.ofChange bindBindersWrong)

/-- 'bailifflaw05.BindAbove': WHATEVER THE INPUT: true; the input reads as it did. -/
def bindAboveSpec : ChangeSpec := { name := "bindAbove", fn := fun _ => fun
  | [d] => { results := [.lit (.bool true)], args := [d] }
  | _ => none }
def bindAboveRow : OpenClaim := { program := "ytkfoohgkbafafaa", sum := "cc87959f149c2e66ac6893224a43b22e51228e0410300fb82381454522467b80", func := "bailiff/bailifflaw05.BindAbove", spec := "bindAbove", inPlace := ["internal/bytealg.IndexByteString"], unfollowed := true, recurses := true, apart := false }
def BindAboveSaid : Prop := bindAboveRow.holds Try.pinned (OpenSpec.ofChange bindAboveSpec)

/-- ITS FALSE NEIGHBOUR: 'it returns false'. Refute it at one input. -/
def bindAboveWrong : ChangeSpec := { name := "bindAbove", fn := fun _ => fun
  | [d] => { results := [.lit (.bool false)], args := [d] }
  | _ => none }
def BindAboveWrongFalsely : Prop := bindAboveRow.holds Try.pinned (OpenSpec.ofChange bindAboveWrong)

/-- 'bailifflaw05.BindNames': WHATEVER THE INPUT: true; the input reads as it did. -/
def bindNamesSpec : ChangeSpec := { name := "bindNames", fn := fun _ => fun
  | [d1, d2] => { results := [.lit (.bool true)], args := [d1, d2] }
  | _ => none }
def bindNamesRow : OpenClaim := { program := "ytkfoohgkbafafaa", sum := "cc87959f149c2e66ac6893224a43b22e51228e0410300fb82381454522467b80", func := "bailiff/bailifflaw05.BindNames", spec := "bindNames", inPlace := ["internal/bytealg.IndexByteString"], unfollowed := true, recurses := true, apart := false }
def BindNamesSaid : Prop := bindNamesRow.holds Try.pinned (OpenSpec.ofChange bindNamesSpec)

/-- ITS FALSE NEIGHBOUR: 'it returns false'. Refute it at one input. -/
def bindNamesWrong : ChangeSpec := { name := "bindNames", fn := fun _ => fun
  | [d1, d2] => { results := [.lit (.bool false)], args := [d1, d2] }
  | _ => none }
def BindNamesWrongFalsely : Prop := bindNamesRow.holds Try.pinned (OpenSpec.ofChange bindNamesWrong)

/-- 'bailifflaw05.BindDouble': WHATEVER THE INPUT: true; the input reads as it did. -/
def bindDoubleSpec : ChangeSpec := { name := "bindDouble", fn := fun _ => fun
  | [d] => { results := [.lit (.bool true)], args := [d] }
  | _ => none }
def bindDoubleRow : OpenClaim := { program := "ytkfoohgkbafafaa", sum := "cc87959f149c2e66ac6893224a43b22e51228e0410300fb82381454522467b80", func := "bailiff/bailifflaw05.BindDouble", spec := "bindDouble", inPlace := ["internal/bytealg.IndexByteString"], unfollowed := true, recurses := true, apart := false }
def BindDoubleSaid : Prop := bindDoubleRow.holds Try.pinned (OpenSpec.ofChange bindDoubleSpec)

/-- ITS FALSE NEIGHBOUR: 'it returns false'. Refute it at one input. -/
def bindDoubleWrong : ChangeSpec := { name := "bindDouble", fn := fun _ => fun
  | [d] => { results := [.lit (.bool false)], args := [d] }
  | _ => none }
def BindDoubleWrongFalsely : Prop := bindDoubleRow.holds Try.pinned (OpenSpec.ofChange bindDoubleWrong)

/-- 'bailifflaw04.SyntaxRights': WHATEVER THE INPUT: true; the input reads as it did. -/
def syntaxRightsSpec : ChangeSpec := { name := "syntaxRights", fn := fun _ => fun
  | [d] => { results := [.lit (.bool true)], args := [d] }
  | _ => none }
def syntaxRightsRow : OpenClaim := { program := "ytkfoohgkbafafaa", sum := "cc87959f149c2e66ac6893224a43b22e51228e0410300fb82381454522467b80", func := "bailiff/bailifflaw04.SyntaxRights", spec := "syntaxRights", inPlace := ["internal/bytealg.IndexByteString", "internal/abi.NoEscape"], unfollowed := true, recurses := true, apart := false }
def SyntaxRightsSaid : Prop := syntaxRightsRow.holds Try.pinned (OpenSpec.ofChange syntaxRightsSpec)

/-- ITS FALSE NEIGHBOUR: 'it returns false'. Refute it at one input. -/
def syntaxRightsWrong : ChangeSpec := { name := "syntaxRights", fn := fun _ => fun
  | [d] => { results := [.lit (.bool false)], args := [d] }
  | _ => none }
def SyntaxRightsWrongFalsely : Prop := syntaxRightsRow.holds Try.pinned (OpenSpec.ofChange syntaxRightsWrong)

/-- 'bailifflaw04.SyntaxPrints': WHATEVER THE INPUT: true; the input reads as it did. -/
def syntaxPrintsSpec : ChangeSpec := { name := "syntaxPrints", fn := fun _ => fun
  | [d] => { results := [.lit (.bool true)], args := [d] }
  | _ => none }
def syntaxPrintsRow : OpenClaim := { program := "ytkfoohgkbafafaa", sum := "cc87959f149c2e66ac6893224a43b22e51228e0410300fb82381454522467b80", func := "bailiff/bailifflaw04.SyntaxPrints", spec := "syntaxPrints", inPlace := ["internal/bytealg.IndexByteString", "internal/abi.NoEscape"], unfollowed := true, recurses := true, apart := false }
def SyntaxPrintsSaid : Prop := syntaxPrintsRow.holds Try.pinned (OpenSpec.ofChange syntaxPrintsSpec)

/-- ITS FALSE NEIGHBOUR: 'it returns false'. Refute it at one input. -/
def syntaxPrintsWrong : ChangeSpec := { name := "syntaxPrints", fn := fun _ => fun
  | [d] => { results := [.lit (.bool false)], args := [d] }
  | _ => none }
def SyntaxPrintsWrongFalsely : Prop := syntaxPrintsRow.holds Try.pinned (OpenSpec.ofChange syntaxPrintsWrong)

/-- 'bailifflaw04.SyntaxPairs': WHATEVER THE INPUT: true; the input reads as it did. -/
def syntaxPairsSpec : ChangeSpec := { name := "syntaxPairs", fn := fun _ => fun
  | [d1, d2, d3] => { results := [.lit (.bool true)], args := [d1, d2, d3] }
  | _ => none }
def syntaxPairsRow : OpenClaim := { program := "ytkfoohgkbafafaa", sum := "cc87959f149c2e66ac6893224a43b22e51228e0410300fb82381454522467b80", func := "bailiff/bailifflaw04.SyntaxPairs", spec := "syntaxPairs", inPlace := ["internal/bytealg.IndexByteString", "internal/abi.NoEscape"], unfollowed := true, recurses := true, apart := false }
def SyntaxPairsSaid : Prop := syntaxPairsRow.holds Try.pinned (OpenSpec.ofChange syntaxPairsSpec)

/-- ITS FALSE NEIGHBOUR: 'it returns false'. Refute it at one input. -/
def syntaxPairsWrong : ChangeSpec := { name := "syntaxPairs", fn := fun _ => fun
  | [d1, d2, d3] => { results := [.lit (.bool false)], args := [d1, d2, d3] }
  | _ => none }
def SyntaxPairsWrongFalsely : Prop := syntaxPairsRow.holds Try.pinned (OpenSpec.ofChange syntaxPairsWrong)

/-- 'bailifflaw04.SyntaxSteps': WHATEVER THE INPUT: true; the input reads as it did. -/
def syntaxStepsSpec : ChangeSpec := { name := "syntaxSteps", fn := fun _ => fun
  | [d] => { results := [.lit (.bool true)], args := [d] }
  | _ => none }
def syntaxStepsRow : OpenClaim := { program := "ytkfoohgkbafafaa", sum := "cc87959f149c2e66ac6893224a43b22e51228e0410300fb82381454522467b80", func := "bailiff/bailifflaw04.SyntaxSteps", spec := "syntaxSteps", inPlace := ["internal/bytealg.IndexByteString", "internal/abi.NoEscape"], unfollowed := true, recurses := true, apart := false }
def SyntaxStepsSaid : Prop := syntaxStepsRow.holds Try.pinned (OpenSpec.ofChange syntaxStepsSpec)

/-- ITS FALSE NEIGHBOUR: 'it returns false'. Refute it at one input. -/
def syntaxStepsWrong : ChangeSpec := { name := "syntaxSteps", fn := fun _ => fun
  | [d] => { results := [.lit (.bool false)], args := [d] }
  | _ => none }
def SyntaxStepsWrongFalsely : Prop := syntaxStepsRow.holds Try.pinned (OpenSpec.ofChange syntaxStepsWrong)

/- THE SECOND FORM. 'bulk': how many values and letters a reading holds, each counted each time it is reached (what is shared counts as often as it is met; a slice's spare places count too). A statement '..UptoSaid' is the law's where the arguments, and the package variables that the reading takes, are together of bulk at most 1048576: NARROWER than '..Said'. Prove '..Said' where nothing that the law and all that it calls make is longer than what came in: it says more and counts as full. Else prove '..UptoSaid'. A law counts once. -/
mutual
def uptoBulk {H : Type} : DataW H → Nat
  | .lit (.string bytes) => bytes.length + 1
  | .lit _ => 1
  | .nil => 1
  | .ptr d => uptoBulk d + 1
  | .slice elems spare => uptoBulkAll elems + uptoBulkAll spare + 1
  | .agg parts => uptoBulkAll parts + 1
  | .iface _ d => uptoBulk d + 1
  | .map entries => uptoBulkEntries entries + 1
  | .held _ => 1
def uptoBulkAll {H : Type} : List (DataW H) → Nat
  | [] => 0
  | d :: r => uptoBulk d + uptoBulkAll r
def uptoBulkEntries {H : Type} : List (Lit × DataW H) → Nat
  | [] => 0
  | x :: r => uptoBulkEntry x + uptoBulkEntries r
def uptoBulkEntry {H : Type} : Lit × DataW H → Nat
  | (.string bytes, d) => bytes.length + uptoBulk d + 1
  | (_, d) => uptoBulk d + 1
 end
def uptoSmall : (H : Type) → List (DataW H) → Bool := fun _ ds => decide (uptoBulkAll ds ≤ 1048576)
def OpenSpec.upto (s : _root_.Go.ChangeSpec) : _root_.Go.OpenSpec := { _root_.Go.OpenSpec.ofChange s with cond := some uptoSmall }

/-- 'bailifflaw05.BindChecks', WHERE WHAT IT READS IS OF BULK AT MOST 1048576: true; the input reads as it did. -/
def bindChecksUptoRow : OpenClaim := { program := "ytkfoohgkbafafaa", sum := "cc87959f149c2e66ac6893224a43b22e51228e0410300fb82381454522467b80", func := "bailiff/bailifflaw05.BindChecks", spec := "bindChecks", inPlace := ["internal/bytealg.IndexByteString"], unfollowed := true, recurses := true, apart := false, narrowed := true }
def BindChecksUptoSaid : Prop := bindChecksUptoRow.holds Try.pinned (OpenSpec.upto bindChecksSpec)

/-- 'bailifflaw05.BindBinders', WHERE WHAT IT READS IS OF BULK AT MOST 1048576: true; the input reads as it did. -/
def bindBindersUptoRow : OpenClaim := { program := "ytkfoohgkbafafaa", sum := "cc87959f149c2e66ac6893224a43b22e51228e0410300fb82381454522467b80", func := "bailiff/bailifflaw05.BindBinders", spec := "bindBinders", inPlace := ["internal/bytealg.IndexByteString"], unfollowed := true, recurses := true, apart := false, narrowed := true }
def BindBindersUptoSaid : Prop := bindBindersUptoRow.holds Try.pinned (OpenSpec.upto bindBindersSpec)

/-- 'bailifflaw05.BindAbove', WHERE WHAT IT READS IS OF BULK AT MOST 1048576: true; the input reads as it did. -/
def bindAboveUptoRow : OpenClaim := { program := "ytkfoohgkbafafaa", sum := "cc87959f149c2e66ac6893224a43b22e51228e0410300fb82381454522467b80", func := "bailiff/bailifflaw05.BindAbove", spec := "bindAbove", inPlace := ["internal/bytealg.IndexByteString"], unfollowed := true, recurses := true, apart := false, narrowed := true }
def BindAboveUptoSaid : Prop := bindAboveUptoRow.holds Try.pinned (OpenSpec.upto bindAboveSpec)

/-- 'bailifflaw05.BindNames', WHERE WHAT IT READS IS OF BULK AT MOST 1048576: true; the input reads as it did. -/
def bindNamesUptoRow : OpenClaim := { program := "ytkfoohgkbafafaa", sum := "cc87959f149c2e66ac6893224a43b22e51228e0410300fb82381454522467b80", func := "bailiff/bailifflaw05.BindNames", spec := "bindNames", inPlace := ["internal/bytealg.IndexByteString"], unfollowed := true, recurses := true, apart := false, narrowed := true }
def BindNamesUptoSaid : Prop := bindNamesUptoRow.holds Try.pinned (OpenSpec.upto bindNamesSpec)

/-- 'bailifflaw05.BindDouble', WHERE WHAT IT READS IS OF BULK AT MOST 1048576: true; the input reads as it did. -/
def bindDoubleUptoRow : OpenClaim := { program := "ytkfoohgkbafafaa", sum := "cc87959f149c2e66ac6893224a43b22e51228e0410300fb82381454522467b80", func := "bailiff/bailifflaw05.BindDouble", spec := "bindDouble", inPlace := ["internal/bytealg.IndexByteString"], unfollowed := true, recurses := true, apart := false, narrowed := true }
def BindDoubleUptoSaid : Prop := bindDoubleUptoRow.holds Try.pinned (OpenSpec.upto bindDoubleSpec)

/-- 'bailifflaw04.SyntaxRights', WHERE WHAT IT READS IS OF BULK AT MOST 1048576: true; the input reads as it did. -/
def syntaxRightsUptoRow : OpenClaim := { program := "ytkfoohgkbafafaa", sum := "cc87959f149c2e66ac6893224a43b22e51228e0410300fb82381454522467b80", func := "bailiff/bailifflaw04.SyntaxRights", spec := "syntaxRights", inPlace := ["internal/bytealg.IndexByteString", "internal/abi.NoEscape"], unfollowed := true, recurses := true, apart := false, narrowed := true }
def SyntaxRightsUptoSaid : Prop := syntaxRightsUptoRow.holds Try.pinned (OpenSpec.upto syntaxRightsSpec)

/-- 'bailifflaw04.SyntaxPrints', WHERE WHAT IT READS IS OF BULK AT MOST 1048576: true; the input reads as it did. -/
def syntaxPrintsUptoRow : OpenClaim := { program := "ytkfoohgkbafafaa", sum := "cc87959f149c2e66ac6893224a43b22e51228e0410300fb82381454522467b80", func := "bailiff/bailifflaw04.SyntaxPrints", spec := "syntaxPrints", inPlace := ["internal/bytealg.IndexByteString", "internal/abi.NoEscape"], unfollowed := true, recurses := true, apart := false, narrowed := true }
def SyntaxPrintsUptoSaid : Prop := syntaxPrintsUptoRow.holds Try.pinned (OpenSpec.upto syntaxPrintsSpec)

/-- 'bailifflaw04.SyntaxPairs', WHERE WHAT IT READS IS OF BULK AT MOST 1048576: true; the input reads as it did. -/
def syntaxPairsUptoRow : OpenClaim := { program := "ytkfoohgkbafafaa", sum := "cc87959f149c2e66ac6893224a43b22e51228e0410300fb82381454522467b80", func := "bailiff/bailifflaw04.SyntaxPairs", spec := "syntaxPairs", inPlace := ["internal/bytealg.IndexByteString", "internal/abi.NoEscape"], unfollowed := true, recurses := true, apart := false, narrowed := true }
def SyntaxPairsUptoSaid : Prop := syntaxPairsUptoRow.holds Try.pinned (OpenSpec.upto syntaxPairsSpec)

/-- 'bailifflaw04.SyntaxSteps', WHERE WHAT IT READS IS OF BULK AT MOST 1048576: true; the input reads as it did. -/
def syntaxStepsUptoRow : OpenClaim := { program := "ytkfoohgkbafafaa", sum := "cc87959f149c2e66ac6893224a43b22e51228e0410300fb82381454522467b80", func := "bailiff/bailifflaw04.SyntaxSteps", spec := "syntaxSteps", inPlace := ["internal/bytealg.IndexByteString", "internal/abi.NoEscape"], unfollowed := true, recurses := true, apart := false, narrowed := true }
def SyntaxStepsUptoSaid : Prop := syntaxStepsUptoRow.holds Try.pinned (OpenSpec.upto syntaxStepsSpec)

end Rows
end Go.Proofs.Ytkfoohgkbafafaa
