/-
  No cell of these rows narrows 'for every input' (looked for: loops, veiled, ifaces, maps, wideKeys, modest, calm, conditions, laid).
  DERIVED. THE GIVEN ROWS OF THIS SEAT. 5 by the template 'for every input the law returns true; each argument reads behind the call as it read before'; 0 by the template 'total and deterministic' (their statements: YtmanohnlcedeaaaTotals.lean).
  GIVEN WITH THE SEED: the statements are not yours to turn. If you find one false, say at which input.
  Laid BY PROGRAM, IN A SANDBOX (cutbox-rows.mjs): the forced cells as the released guide's own fill.sh prints them over the translation db754235eb3e3146… (all of the seat's roots in one cut). By AI agents, Wed Nov 11 2026. No macro, syntax, notation, axiom, sorry.
-/
import Derived.Test.YtmanohnlcedeaaaChecked
import GoSem.Claim
import GoSem.ClaimJoined
import GoSem.ClaimMapViews
import Derived.JoinedTies
import Derived.KernelRfl
namespace Go.Proofs.Ytmanohnlcedeaaa
/- THE CELL 'sum', in the pinned program and in every row, IS THE sha256 OF THE DUMP (.gsa) THAT YtmanohnlcedeaaaProg.lean LOADS. Nothing in Lean hashes anything: it is a label: what it is worth is what the hold of that sum in a sandbox is worth. -/
noncomputable def Try.pinned : Pinned := { name := "ytmanohnlcedeaaa", sum := "db754235eb3e3146747d6dca968b7c7a889120ddb13f396ba3e0e45ff53a3ff3", checked := Try.checked }
namespace Rows
def none {H : Type} : Left H := { results := [], args := [] }

/-- 'bailifflaw06.NormNames': WHATEVER THE INPUT: true; the input reads as it did. -/
def normNamesSpec : ChangeSpec := { name := "normNames", fn := fun _ => fun
  | [d] => { results := [.lit (.bool true)], args := [d] }
  | _ => none }
def normNamesRow : OpenClaim := { program := "ytmanohnlcedeaaa", sum := "db754235eb3e3146747d6dca968b7c7a889120ddb13f396ba3e0e45ff53a3ff3", func := "bailiff/bailifflaw06.NormNames", spec := "normNames", inPlace := ["internal/bytealg.IndexByteString"], unfollowed := true, recurses := true, apart := false }
def NormNamesSaid : Prop := normNamesRow.holds Try.pinned (OpenSpec.ofChange normNamesSpec)

/-- ITS FALSE NEIGHBOUR: 'it returns false'. Refute it at one input. -/
def normNamesWrong : ChangeSpec := { name := "normNames", fn := fun _ => fun
  | [d] => { results := [.lit (.bool false)], args := [d] }
  | _ => none }
def NormNamesWrongFalsely : Prop := normNamesRow.holds Try.pinned (OpenSpec.ofChange normNamesWrong)

/-- 'bailifflaw06.NormForms': WHATEVER THE INPUT: true; the input reads as it did. -/
def normFormsSpec : ChangeSpec := { name := "normForms", fn := fun _ => fun
  | [d] => { results := [.lit (.bool true)], args := [d] }
  | _ => none }
def normFormsRow : OpenClaim := { program := "ytmanohnlcedeaaa", sum := "db754235eb3e3146747d6dca968b7c7a889120ddb13f396ba3e0e45ff53a3ff3", func := "bailiff/bailifflaw06.NormForms", spec := "normForms", inPlace := ["internal/bytealg.IndexByteString"], unfollowed := true, recurses := true, apart := false }
def NormFormsSaid : Prop := normFormsRow.holds Try.pinned (OpenSpec.ofChange normFormsSpec)

/-- ITS FALSE NEIGHBOUR: 'it returns false'. Refute it at one input. -/
def normFormsWrong : ChangeSpec := { name := "normForms", fn := fun _ => fun
  | [d] => { results := [.lit (.bool false)], args := [d] }
  | _ => none }
def NormFormsWrongFalsely : Prop := normFormsRow.holds Try.pinned (OpenSpec.ofChange normFormsWrong)

/-- 'bailifflaw06.NormTwice': WHATEVER THE INPUT: true; the input reads as it did. -/
def normTwiceSpec : ChangeSpec := { name := "normTwice", fn := fun _ => fun
  | [d] => { results := [.lit (.bool true)], args := [d] }
  | _ => none }
def normTwiceRow : OpenClaim := { program := "ytmanohnlcedeaaa", sum := "db754235eb3e3146747d6dca968b7c7a889120ddb13f396ba3e0e45ff53a3ff3", func := "bailiff/bailifflaw06.NormTwice", spec := "normTwice", inPlace := ["internal/bytealg.IndexByteString"], unfollowed := true, recurses := true, apart := false }
def NormTwiceSaid : Prop := normTwiceRow.holds Try.pinned (OpenSpec.ofChange normTwiceSpec)

/-- ITS FALSE NEIGHBOUR: 'it returns false'. Refute it at one input. -/
def normTwiceWrong : ChangeSpec := { name := "normTwice", fn := fun _ => fun
  | [d] => { results := [.lit (.bool false)], args := [d] }
  | _ => none }
def NormTwiceWrongFalsely : Prop := normTwiceRow.holds Try.pinned (OpenSpec.ofChange normTwiceWrong)

/-- 'bailifflaw06.NormNot': WHATEVER THE INPUT: true; the input reads as it did. -/
def normNotSpec : ChangeSpec := { name := "normNot", fn := fun _ => fun
  | [d] => { results := [.lit (.bool true)], args := [d] }
  | _ => none }
def normNotRow : OpenClaim := { program := "ytmanohnlcedeaaa", sum := "db754235eb3e3146747d6dca968b7c7a889120ddb13f396ba3e0e45ff53a3ff3", func := "bailiff/bailifflaw06.NormNot", spec := "normNot", inPlace := ["internal/bytealg.IndexByteString"], unfollowed := true, recurses := true, apart := false }
def NormNotSaid : Prop := normNotRow.holds Try.pinned (OpenSpec.ofChange normNotSpec)

/-- ITS FALSE NEIGHBOUR: 'it returns false'. Refute it at one input. -/
def normNotWrong : ChangeSpec := { name := "normNot", fn := fun _ => fun
  | [d] => { results := [.lit (.bool false)], args := [d] }
  | _ => none }
def NormNotWrongFalsely : Prop := normNotRow.holds Try.pinned (OpenSpec.ofChange normNotWrong)

/-- 'bailifflaw06.NormShape': WHATEVER THE INPUT: true; the input reads as it did. -/
def normShapeSpec : ChangeSpec := { name := "normShape", fn := fun _ => fun
  | [d] => { results := [.lit (.bool true)], args := [d] }
  | _ => none }
def normShapeRow : OpenClaim := { program := "ytmanohnlcedeaaa", sum := "db754235eb3e3146747d6dca968b7c7a889120ddb13f396ba3e0e45ff53a3ff3", func := "bailiff/bailifflaw06.NormShape", spec := "normShape", inPlace := ["internal/bytealg.IndexByteString"], unfollowed := true, recurses := true, apart := false }
def NormShapeSaid : Prop := normShapeRow.holds Try.pinned (OpenSpec.ofChange normShapeSpec)

/-- ITS FALSE NEIGHBOUR: 'it returns false'. Refute it at one input. -/
def normShapeWrong : ChangeSpec := { name := "normShape", fn := fun _ => fun
  | [d] => { results := [.lit (.bool false)], args := [d] }
  | _ => none }
def NormShapeWrongFalsely : Prop := normShapeRow.holds Try.pinned (OpenSpec.ofChange normShapeWrong)

/- THE SECOND FORM. 'bulk': how many values and letters a reading holds, each counted each time it is reached (what is shared counts as often as it is met; a slice's spare places count too). A statement '..UptoSaid' is the law's where the arguments, and the package variables that the reading takes, are together of bulk at most 1048576: NARROWER than '..Said'. Prove '..Said' where nothing that the law and all that it calls make is longer than what came in: it says more and counts as full. Else prove '..UptoSaid'. A law counts once. -/
mutual
def uptoBulk {H : Type} : DataW H → Nat
  | .lit (.string bytes) => bytes.length + 1
  | .lit _ => 1
  | .nil => 1
  | .ptr d => uptoBulk d + 1
  | .slice elems spare => uptoBulkAll elems + uptoBulkAll spare + 1
  | .agg parts => uptoBulkAll parts + 1
  | .iface _ d => uptoBulk d + 1
  | .map entries => uptoBulkEntries entries + 1
  | .held _ => 1
def uptoBulkAll {H : Type} : List (DataW H) → Nat
  | [] => 0
  | d :: r => uptoBulk d + uptoBulkAll r
def uptoBulkEntries {H : Type} : List (Lit × DataW H) → Nat
  | [] => 0
  | x :: r => uptoBulkEntry x + uptoBulkEntries r
def uptoBulkEntry {H : Type} : Lit × DataW H → Nat
  | (.string bytes, d) => bytes.length + uptoBulk d + 1
  | (_, d) => uptoBulk d + 1
 end
def uptoSmall : (H : Type) → List (DataW H) → Bool := fun _ ds => decide (uptoBulkAll ds ≤ 1048576)
def OpenSpec.upto (s : _root_.Go.ChangeSpec) : _root_.Go.OpenSpec := { _root_.Go.OpenSpec.ofChange s with cond := some uptoSmall }

/-- 'bailifflaw06.NormNames', WHERE WHAT IT READS IS OF BULK AT MOST 1048576: true; the input reads as it did. -/
def normNamesUptoRow : OpenClaim := { program := "ytmanohnlcedeaaa", sum := "db754235eb3e3146747d6dca968b7c7a889120ddb13f396ba3e0e45ff53a3ff3", func := "bailiff/bailifflaw06.NormNames", spec := "normNames", inPlace := ["internal/bytealg.IndexByteString"], unfollowed := true, recurses := true, apart := false, narrowed := true }
def NormNamesUptoSaid : Prop := normNamesUptoRow.holds Try.pinned (OpenSpec.upto normNamesSpec)

/-- 'bailifflaw06.NormForms', WHERE WHAT IT READS IS OF BULK AT MOST 1048576: true; the input reads as it did. -/
def normFormsUptoRow : OpenClaim := { program := "ytmanohnlcedeaaa", sum := "db754235eb3e3146747d6dca968b7c7a889120ddb13f396ba3e0e45ff53a3ff3", func := "bailiff/bailifflaw06.NormForms", spec := "normForms", inPlace := ["internal/bytealg.IndexByteString"], unfollowed := true, recurses := true, apart := false, narrowed := true }
def NormFormsUptoSaid : Prop := normFormsUptoRow.holds Try.pinned (OpenSpec.upto normFormsSpec)

/-- 'bailifflaw06.NormTwice', WHERE WHAT IT READS IS OF BULK AT MOST 1048576: true; the input reads as it did. -/
def normTwiceUptoRow : OpenClaim := { program := "ytmanohnlcedeaaa", sum := "db754235eb3e3146747d6dca968b7c7a889120ddb13f396ba3e0e45ff53a3ff3", func := "bailiff/bailifflaw06.NormTwice", spec := "normTwice", inPlace := ["internal/bytealg.IndexByteString"], unfollowed := true, recurses := true, apart := false, narrowed := true }
def NormTwiceUptoSaid : Prop := normTwiceUptoRow.holds Try.pinned (OpenSpec.upto normTwiceSpec)

/-- 'bailifflaw06.NormNot', WHERE WHAT IT READS IS OF BULK AT MOST 1048576: true; the input reads as it did. -/
def normNotUptoRow : OpenClaim := { program := "ytmanohnlcedeaaa", sum := "db754235eb3e3146747d6dca968b7c7a889120ddb13f396ba3e0e45ff53a3ff3", func := "bailiff/bailifflaw06.NormNot", spec := "normNot", inPlace := ["internal/bytealg.IndexByteString"], unfollowed := true, recurses := true, apart := false, narrowed := true }
def NormNotUptoSaid : Prop := normNotUptoRow.holds Try.pinned (OpenSpec.upto normNotSpec)

/-- 'bailifflaw06.NormShape', WHERE WHAT IT READS IS OF BULK AT MOST 1048576: true; the input reads as it did. -/
def normShapeUptoRow : OpenClaim := { program := "ytmanohnlcedeaaa", sum := "db754235eb3e3146747d6dca968b7c7a889120ddb13f396ba3e0e45ff53a3ff3", func := "bailiff/bailifflaw06.NormShape", spec := "normShape", inPlace := ["internal/bytealg.IndexByteString"], unfollowed := true, recurses := true, apart := false, narrowed := true }
def NormShapeUptoSaid : Prop := normShapeUptoRow.holds Try.pinned (OpenSpec.upto normShapeSpec)

end Rows
end Go.Proofs.Ytmanohnlcedeaaa
