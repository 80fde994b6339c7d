/-
  NARROWER THAN 'FOR EVERY INPUT', by the rows' own cells (each row's printed sentence says how): ScanAll: laid · ScanPieces: laid · ScanJoins: laid · ScanNames: laid · ScanSigns: laid · ScanUpTo: laid · ScanCuts: laid.
  DERIVED. THE GIVEN ROWS OF THIS SEAT. 7 by the template 'for every input the law returns true; each argument reads behind the call as it read before'; 0 by the template 'total and deterministic' (their statements: YtdblogjcoihcmaaDoorTotals.lean).
  GIVEN WITH THE SEED: the statements are not yours to turn. If you find one false, say at which input.
  Laid BY PROGRAM, IN A SANDBOX (cutbox-rows.mjs): the forced cells as the released guide's own fill.sh prints them over the translation 6eb7b522f906e8b8… (all of the seat's roots in one cut). By AI agents, Wed Nov 11 2026. No macro, syntax, notation, axiom, sorry.
-/
import Derived.Test.YtdblogjcoihcmaaDoorChecked
import GoSem.Claim
import GoSem.ClaimJoined
import GoSem.ClaimMapViews
import Derived.JoinedTies
import Derived.KernelRfl
namespace Go.Proofs.YtdblogjcoihcmaaDoor
/- THE CELL 'sum', in the pinned program and in every row, IS THE sha256 OF THE DUMP (.gsa) THAT YtdblogjcoihcmaaDoorProg.lean LOADS. Nothing in Lean hashes anything: it is a label: what it is worth is what the hold of that sum in a sandbox is worth. -/
noncomputable def Tryd.pinned : Pinned := { name := "ytdblogjcoihcmaadoor", sum := "6eb7b522f906e8b8b54b147abfe975188fdc655c133a148c484df3d1c38e3a46", checked := Tryd.checked }
namespace Rows
def none {H : Type} : Left H := { results := [], args := [] }

/- WHAT THE LISTED PACKAGE-LEVEL VARIABLES READ AS WHEN THE CALL BEGINS. Each datum BY PROGRAM (the guide's laid-datum.mjs) off the statement by which the dump's own 'gosem.cut.vars' lays the variable. In a bare row this is a premise. The card (YtdblogjcoihcmaaDoorCards.lean) ties it to the program's text. -/
def laid_errors_errorType {H : Type} : DataW H := .iface "internal/reflectlite.rtype" (.agg [.ptr (.lit (.string [101, 114, 114, 111, 114]))])

/-- 'bailifflaw02.ScanAll': WHATEVER THE INPUT: true; the input reads as it did. -/
def scanAllSpec : ChangeSpec := { name := "scanAll", fn := fun _ => fun
  | [d] => { results := [.lit (.bool true)], args := [d] }
  | _ => none }
def scanAllRow : OpenClaim := { program := "ytdblogjcoihcmaadoor", sum := "6eb7b522f906e8b8b54b147abfe975188fdc655c133a148c484df3d1c38e3a46", func := "bailiff/bailifflaw02.ScanAll", spec := "scanAll", inPlace := ["internal/bytealg.IndexByteString", "internal/reflectlite.ValueOf", "(internal/reflectlite.Value).Type", "(internal/reflectlite.Value).IsNil", "internal/reflectlite.TypeOf", "(internal/reflectlite.Value).Elem", "(internal/reflectlite.Value).Set"], unfollowed := true, recurses := true, named := ["errors.errorType"], apart := false, laid := [("errors.errorType", laid_errors_errorType)] }
def ScanAllSaid : Prop := scanAllRow.holds Tryd.pinned (OpenSpec.ofChange scanAllSpec)

/-- ITS FALSE NEIGHBOUR: 'it returns false'. Refute it at one input. -/
def scanAllWrong : ChangeSpec := { name := "scanAll", fn := fun _ => fun
  | [d] => { results := [.lit (.bool false)], args := [d] }
  | _ => none }
def ScanAllWrongFalsely : Prop := scanAllRow.holds Tryd.pinned (OpenSpec.ofChange scanAllWrong)

/-- 'bailifflaw02.ScanPieces': WHATEVER THE INPUT: true; the input reads as it did. -/
def scanPiecesSpec : ChangeSpec := { name := "scanPieces", fn := fun _ => fun
  | [d] => { results := [.lit (.bool true)], args := [d] }
  | _ => none }
def scanPiecesRow : OpenClaim := { program := "ytdblogjcoihcmaadoor", sum := "6eb7b522f906e8b8b54b147abfe975188fdc655c133a148c484df3d1c38e3a46", func := "bailiff/bailifflaw02.ScanPieces", spec := "scanPieces", inPlace := ["internal/bytealg.IndexByteString", "internal/reflectlite.ValueOf", "(internal/reflectlite.Value).Type", "(internal/reflectlite.Value).IsNil", "internal/reflectlite.TypeOf", "(internal/reflectlite.Value).Elem", "(internal/reflectlite.Value).Set"], unfollowed := true, recurses := true, named := ["errors.errorType"], apart := false, laid := [("errors.errorType", laid_errors_errorType)] }
def ScanPiecesSaid : Prop := scanPiecesRow.holds Tryd.pinned (OpenSpec.ofChange scanPiecesSpec)

/-- ITS FALSE NEIGHBOUR: 'it returns false'. Refute it at one input. -/
def scanPiecesWrong : ChangeSpec := { name := "scanPieces", fn := fun _ => fun
  | [d] => { results := [.lit (.bool false)], args := [d] }
  | _ => none }
def ScanPiecesWrongFalsely : Prop := scanPiecesRow.holds Tryd.pinned (OpenSpec.ofChange scanPiecesWrong)

/-- 'bailifflaw02.ScanJoins': WHATEVER THE INPUT: true; the input reads as it did. -/
def scanJoinsSpec : ChangeSpec := { name := "scanJoins", fn := fun _ => fun
  | [d1, d2] => { results := [.lit (.bool true)], args := [d1, d2] }
  | _ => none }
def scanJoinsRow : OpenClaim := { program := "ytdblogjcoihcmaadoor", sum := "6eb7b522f906e8b8b54b147abfe975188fdc655c133a148c484df3d1c38e3a46", func := "bailiff/bailifflaw02.ScanJoins", spec := "scanJoins", inPlace := ["internal/bytealg.IndexByteString", "internal/reflectlite.ValueOf", "(internal/reflectlite.Value).Type", "(internal/reflectlite.Value).IsNil", "internal/reflectlite.TypeOf", "(internal/reflectlite.Value).Elem", "(internal/reflectlite.Value).Set"], unfollowed := true, recurses := true, named := ["errors.errorType"], apart := false, laid := [("errors.errorType", laid_errors_errorType)] }
def ScanJoinsSaid : Prop := scanJoinsRow.holds Tryd.pinned (OpenSpec.ofChange scanJoinsSpec)

/-- ITS FALSE NEIGHBOUR: 'it returns false'. Refute it at one input. -/
def scanJoinsWrong : ChangeSpec := { name := "scanJoins", fn := fun _ => fun
  | [d1, d2] => { results := [.lit (.bool false)], args := [d1, d2] }
  | _ => none }
def ScanJoinsWrongFalsely : Prop := scanJoinsRow.holds Tryd.pinned (OpenSpec.ofChange scanJoinsWrong)

/-- 'bailifflaw02.ScanNames': WHATEVER THE INPUT: true; the input reads as it did. -/
def scanNamesSpec : ChangeSpec := { name := "scanNames", fn := fun _ => fun
  | [d1, d2, d3] => { results := [.lit (.bool true)], args := [d1, d2, d3] }
  | _ => none }
def scanNamesRow : OpenClaim := { program := "ytdblogjcoihcmaadoor", sum := "6eb7b522f906e8b8b54b147abfe975188fdc655c133a148c484df3d1c38e3a46", func := "bailiff/bailifflaw02.ScanNames", spec := "scanNames", inPlace := ["internal/bytealg.IndexByteString", "internal/reflectlite.ValueOf", "(internal/reflectlite.Value).Type", "(internal/reflectlite.Value).IsNil", "internal/reflectlite.TypeOf", "(internal/reflectlite.Value).Elem", "(internal/reflectlite.Value).Set"], unfollowed := true, recurses := true, named := ["errors.errorType"], apart := false, laid := [("errors.errorType", laid_errors_errorType)] }
def ScanNamesSaid : Prop := scanNamesRow.holds Tryd.pinned (OpenSpec.ofChange scanNamesSpec)

/-- ITS FALSE NEIGHBOUR: 'it returns false'. Refute it at one input. -/
def scanNamesWrong : ChangeSpec := { name := "scanNames", fn := fun _ => fun
  | [d1, d2, d3] => { results := [.lit (.bool false)], args := [d1, d2, d3] }
  | _ => none }
def ScanNamesWrongFalsely : Prop := scanNamesRow.holds Tryd.pinned (OpenSpec.ofChange scanNamesWrong)

/-- 'bailifflaw02.ScanSigns': WHATEVER THE INPUT: true; the input reads as it did. -/
def scanSignsSpec : ChangeSpec := { name := "scanSigns", fn := fun _ => fun
  | [d] => { results := [.lit (.bool true)], args := [d] }
  | _ => none }
def scanSignsRow : OpenClaim := { program := "ytdblogjcoihcmaadoor", sum := "6eb7b522f906e8b8b54b147abfe975188fdc655c133a148c484df3d1c38e3a46", func := "bailiff/bailifflaw02.ScanSigns", spec := "scanSigns", inPlace := ["internal/bytealg.IndexByteString", "internal/reflectlite.ValueOf", "(internal/reflectlite.Value).Type", "(internal/reflectlite.Value).IsNil", "internal/reflectlite.TypeOf", "(internal/reflectlite.Value).Elem", "(internal/reflectlite.Value).Set"], unfollowed := true, recurses := true, named := ["errors.errorType"], apart := false, laid := [("errors.errorType", laid_errors_errorType)] }
def ScanSignsSaid : Prop := scanSignsRow.holds Tryd.pinned (OpenSpec.ofChange scanSignsSpec)

/-- ITS FALSE NEIGHBOUR: 'it returns false'. Refute it at one input. -/
def scanSignsWrong : ChangeSpec := { name := "scanSigns", fn := fun _ => fun
  | [d] => { results := [.lit (.bool false)], args := [d] }
  | _ => none }
def ScanSignsWrongFalsely : Prop := scanSignsRow.holds Tryd.pinned (OpenSpec.ofChange scanSignsWrong)

/-- 'bailifflaw02.ScanUpTo': WHATEVER THE INPUT: true; the input reads as it did. -/
def scanUpToSpec : ChangeSpec := { name := "scanUpTo", fn := fun _ => fun
  | [d] => { results := [.lit (.bool true)], args := [d] }
  | _ => none }
def scanUpToRow : OpenClaim := { program := "ytdblogjcoihcmaadoor", sum := "6eb7b522f906e8b8b54b147abfe975188fdc655c133a148c484df3d1c38e3a46", func := "bailiff/bailifflaw02.ScanUpTo", spec := "scanUpTo", inPlace := ["internal/bytealg.IndexByteString", "internal/reflectlite.ValueOf", "(internal/reflectlite.Value).Type", "(internal/reflectlite.Value).IsNil", "internal/reflectlite.TypeOf", "(internal/reflectlite.Value).Elem", "(internal/reflectlite.Value).Set"], unfollowed := true, recurses := true, named := ["errors.errorType"], apart := false, laid := [("errors.errorType", laid_errors_errorType)] }
def ScanUpToSaid : Prop := scanUpToRow.holds Tryd.pinned (OpenSpec.ofChange scanUpToSpec)

/-- ITS FALSE NEIGHBOUR: 'it returns false'. Refute it at one input. -/
def scanUpToWrong : ChangeSpec := { name := "scanUpTo", fn := fun _ => fun
  | [d] => { results := [.lit (.bool false)], args := [d] }
  | _ => none }
def ScanUpToWrongFalsely : Prop := scanUpToRow.holds Tryd.pinned (OpenSpec.ofChange scanUpToWrong)

/-- 'bailifflaw02.ScanCuts': WHATEVER THE INPUT: true; the input reads as it did. -/
def scanCutsSpec : ChangeSpec := { name := "scanCuts", fn := fun _ => fun
  | [d1, d2] => { results := [.lit (.bool true)], args := [d1, d2] }
  | _ => none }
def scanCutsRow : OpenClaim := { program := "ytdblogjcoihcmaadoor", sum := "6eb7b522f906e8b8b54b147abfe975188fdc655c133a148c484df3d1c38e3a46", func := "bailiff/bailifflaw02.ScanCuts", spec := "scanCuts", inPlace := ["internal/bytealg.IndexByteString", "internal/reflectlite.ValueOf", "(internal/reflectlite.Value).Type", "(internal/reflectlite.Value).IsNil", "internal/reflectlite.TypeOf", "(internal/reflectlite.Value).Elem", "(internal/reflectlite.Value).Set"], unfollowed := true, recurses := true, named := ["errors.errorType"], apart := false, laid := [("errors.errorType", laid_errors_errorType)] }
def ScanCutsSaid : Prop := scanCutsRow.holds Tryd.pinned (OpenSpec.ofChange scanCutsSpec)

/-- ITS FALSE NEIGHBOUR: 'it returns false'. Refute it at one input. -/
def scanCutsWrong : ChangeSpec := { name := "scanCuts", fn := fun _ => fun
  | [d1, d2] => { results := [.lit (.bool false)], args := [d1, d2] }
  | _ => none }
def ScanCutsWrongFalsely : Prop := scanCutsRow.holds Tryd.pinned (OpenSpec.ofChange scanCutsWrong)

/- THE SECOND FORM. 'bulk': how many values and letters a reading holds, each counted each time it is reached (what is shared counts as often as it is met; a slice's spare places count too). A statement '..UptoSaid' is the law's where the arguments, and the package variables that the reading takes, are together of bulk at most 1048576: NARROWER than '..Said'. Prove '..Said' where nothing that the law and all that it calls make is longer than what came in: it says more and counts as full. Else prove '..UptoSaid'. A law counts once. -/
mutual
def uptoBulk {H : Type} : DataW H → Nat
  | .lit (.string bytes) => bytes.length + 1
  | .lit _ => 1
  | .nil => 1
  | .ptr d => uptoBulk d + 1
  | .slice elems spare => uptoBulkAll elems + uptoBulkAll spare + 1
  | .agg parts => uptoBulkAll parts + 1
  | .iface _ d => uptoBulk d + 1
  | .map entries => uptoBulkEntries entries + 1
  | .held _ => 1
def uptoBulkAll {H : Type} : List (DataW H) → Nat
  | [] => 0
  | d :: r => uptoBulk d + uptoBulkAll r
def uptoBulkEntries {H : Type} : List (Lit × DataW H) → Nat
  | [] => 0
  | x :: r => uptoBulkEntry x + uptoBulkEntries r
def uptoBulkEntry {H : Type} : Lit × DataW H → Nat
  | (.string bytes, d) => bytes.length + uptoBulk d + 1
  | (_, d) => uptoBulk d + 1
 end
def uptoSmall : (H : Type) → List (DataW H) → Bool := fun _ ds => decide (uptoBulkAll ds ≤ 1048576)
def OpenSpec.upto (s : _root_.Go.ChangeSpec) : _root_.Go.OpenSpec := { _root_.Go.OpenSpec.ofChange s with cond := some uptoSmall }

/-- 'bailifflaw02.ScanAll', WHERE WHAT IT READS IS OF BULK AT MOST 1048576: true; the input reads as it did. -/
def scanAllUptoRow : OpenClaim := { program := "ytdblogjcoihcmaadoor", sum := "6eb7b522f906e8b8b54b147abfe975188fdc655c133a148c484df3d1c38e3a46", func := "bailiff/bailifflaw02.ScanAll", spec := "scanAll", inPlace := ["internal/bytealg.IndexByteString", "internal/reflectlite.ValueOf", "(internal/reflectlite.Value).Type", "(internal/reflectlite.Value).IsNil", "internal/reflectlite.TypeOf", "(internal/reflectlite.Value).Elem", "(internal/reflectlite.Value).Set"], unfollowed := true, recurses := true, named := ["errors.errorType"], apart := false, laid := [("errors.errorType", laid_errors_errorType)], narrowed := true }
def ScanAllUptoSaid : Prop := scanAllUptoRow.holds Tryd.pinned (OpenSpec.upto scanAllSpec)

/-- 'bailifflaw02.ScanPieces', WHERE WHAT IT READS IS OF BULK AT MOST 1048576: true; the input reads as it did. -/
def scanPiecesUptoRow : OpenClaim := { program := "ytdblogjcoihcmaadoor", sum := "6eb7b522f906e8b8b54b147abfe975188fdc655c133a148c484df3d1c38e3a46", func := "bailiff/bailifflaw02.ScanPieces", spec := "scanPieces", inPlace := ["internal/bytealg.IndexByteString", "internal/reflectlite.ValueOf", "(internal/reflectlite.Value).Type", "(internal/reflectlite.Value).IsNil", "internal/reflectlite.TypeOf", "(internal/reflectlite.Value).Elem", "(internal/reflectlite.Value).Set"], unfollowed := true, recurses := true, named := ["errors.errorType"], apart := false, laid := [("errors.errorType", laid_errors_errorType)], narrowed := true }
def ScanPiecesUptoSaid : Prop := scanPiecesUptoRow.holds Tryd.pinned (OpenSpec.upto scanPiecesSpec)

/-- 'bailifflaw02.ScanJoins', WHERE WHAT IT READS IS OF BULK AT MOST 1048576: true; the input reads as it did. -/
def scanJoinsUptoRow : OpenClaim := { program := "ytdblogjcoihcmaadoor", sum := "6eb7b522f906e8b8b54b147abfe975188fdc655c133a148c484df3d1c38e3a46", func := "bailiff/bailifflaw02.ScanJoins", spec := "scanJoins", inPlace := ["internal/bytealg.IndexByteString", "internal/reflectlite.ValueOf", "(internal/reflectlite.Value).Type", "(internal/reflectlite.Value).IsNil", "internal/reflectlite.TypeOf", "(internal/reflectlite.Value).Elem", "(internal/reflectlite.Value).Set"], unfollowed := true, recurses := true, named := ["errors.errorType"], apart := false, laid := [("errors.errorType", laid_errors_errorType)], narrowed := true }
def ScanJoinsUptoSaid : Prop := scanJoinsUptoRow.holds Tryd.pinned (OpenSpec.upto scanJoinsSpec)

/-- 'bailifflaw02.ScanNames', WHERE WHAT IT READS IS OF BULK AT MOST 1048576: true; the input reads as it did. -/
def scanNamesUptoRow : OpenClaim := { program := "ytdblogjcoihcmaadoor", sum := "6eb7b522f906e8b8b54b147abfe975188fdc655c133a148c484df3d1c38e3a46", func := "bailiff/bailifflaw02.ScanNames", spec := "scanNames", inPlace := ["internal/bytealg.IndexByteString", "internal/reflectlite.ValueOf", "(internal/reflectlite.Value).Type", "(internal/reflectlite.Value).IsNil", "internal/reflectlite.TypeOf", "(internal/reflectlite.Value).Elem", "(internal/reflectlite.Value).Set"], unfollowed := true, recurses := true, named := ["errors.errorType"], apart := false, laid := [("errors.errorType", laid_errors_errorType)], narrowed := true }
def ScanNamesUptoSaid : Prop := scanNamesUptoRow.holds Tryd.pinned (OpenSpec.upto scanNamesSpec)

/-- 'bailifflaw02.ScanSigns', WHERE WHAT IT READS IS OF BULK AT MOST 1048576: true; the input reads as it did. -/
def scanSignsUptoRow : OpenClaim := { program := "ytdblogjcoihcmaadoor", sum := "6eb7b522f906e8b8b54b147abfe975188fdc655c133a148c484df3d1c38e3a46", func := "bailiff/bailifflaw02.ScanSigns", spec := "scanSigns", inPlace := ["internal/bytealg.IndexByteString", "internal/reflectlite.ValueOf", "(internal/reflectlite.Value).Type", "(internal/reflectlite.Value).IsNil", "internal/reflectlite.TypeOf", "(internal/reflectlite.Value).Elem", "(internal/reflectlite.Value).Set"], unfollowed := true, recurses := true, named := ["errors.errorType"], apart := false, laid := [("errors.errorType", laid_errors_errorType)], narrowed := true }
def ScanSignsUptoSaid : Prop := scanSignsUptoRow.holds Tryd.pinned (OpenSpec.upto scanSignsSpec)

/-- 'bailifflaw02.ScanUpTo', WHERE WHAT IT READS IS OF BULK AT MOST 1048576: true; the input reads as it did. -/
def scanUpToUptoRow : OpenClaim := { program := "ytdblogjcoihcmaadoor", sum := "6eb7b522f906e8b8b54b147abfe975188fdc655c133a148c484df3d1c38e3a46", func := "bailiff/bailifflaw02.ScanUpTo", spec := "scanUpTo", inPlace := ["internal/bytealg.IndexByteString", "internal/reflectlite.ValueOf", "(internal/reflectlite.Value).Type", "(internal/reflectlite.Value).IsNil", "internal/reflectlite.TypeOf", "(internal/reflectlite.Value).Elem", "(internal/reflectlite.Value).Set"], unfollowed := true, recurses := true, named := ["errors.errorType"], apart := false, laid := [("errors.errorType", laid_errors_errorType)], narrowed := true }
def ScanUpToUptoSaid : Prop := scanUpToUptoRow.holds Tryd.pinned (OpenSpec.upto scanUpToSpec)

/-- 'bailifflaw02.ScanCuts', WHERE WHAT IT READS IS OF BULK AT MOST 1048576: true; the input reads as it did. -/
def scanCutsUptoRow : OpenClaim := { program := "ytdblogjcoihcmaadoor", sum := "6eb7b522f906e8b8b54b147abfe975188fdc655c133a148c484df3d1c38e3a46", func := "bailiff/bailifflaw02.ScanCuts", spec := "scanCuts", inPlace := ["internal/bytealg.IndexByteString", "internal/reflectlite.ValueOf", "(internal/reflectlite.Value).Type", "(internal/reflectlite.Value).IsNil", "internal/reflectlite.TypeOf", "(internal/reflectlite.Value).Elem", "(internal/reflectlite.Value).Set"], unfollowed := true, recurses := true, named := ["errors.errorType"], apart := false, laid := [("errors.errorType", laid_errors_errorType)], narrowed := true }
def ScanCutsUptoSaid : Prop := scanCutsUptoRow.holds Tryd.pinned (OpenSpec.upto scanCutsSpec)

end Rows
end Go.Proofs.YtdblogjcoihcmaaDoor
