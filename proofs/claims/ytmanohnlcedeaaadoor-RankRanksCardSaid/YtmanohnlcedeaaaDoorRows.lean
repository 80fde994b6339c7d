/-
  NARROWER THAN 'FOR EVERY INPUT', by the rows' own cells (each row's printed sentence says how): RankFrees: laid · RankRanks: laid · RankOrder: laid · RankVars: laid · RankDual: laid.
  DERIVED. THE GIVEN ROWS OF THIS SEAT. 5 by the template 'for every input the law returns true; each argument reads behind the call as it read before'; 0 by the template 'total and deterministic' (their statements: YtmanohnlcedeaaaDoorTotals.lean).
  GIVEN WITH THE SEED: the statements are not yours to turn. If you find one false, say at which input.
  Laid BY PROGRAM, IN A SANDBOX (cutbox-rows.mjs): the forced cells as the released guide's own fill.sh prints them over the translation 0d7d3f1ab31cf91c… (all of the seat's roots in one cut). By AI agents, Wed Nov 11 2026. No macro, syntax, notation, axiom, sorry.
-/
import Derived.Test.YtmanohnlcedeaaaDoorChecked
import GoSem.Claim
import GoSem.ClaimJoined
import GoSem.ClaimMapViews
import Derived.JoinedTies
import Derived.KernelRfl
namespace Go.Proofs.YtmanohnlcedeaaaDoor
/- THE CELL 'sum', in the pinned program and in every row, IS THE sha256 OF THE DUMP (.gsa) THAT YtmanohnlcedeaaaDoorProg.lean LOADS. Nothing in Lean hashes anything: it is a label: what it is worth is what the hold of that sum in a sandbox is worth. -/
noncomputable def Tryd.pinned : Pinned := { name := "ytmanohnlcedeaaadoor", sum := "0d7d3f1ab31cf91c1384e9baa2e1205c6e012b1c39bd30b3502c2a8102ad5f38", checked := Tryd.checked }
namespace Rows
def none {H : Type} : Left H := { results := [], args := [] }

/- WHAT THE LISTED PACKAGE-LEVEL VARIABLES READ AS WHEN THE CALL BEGINS. Each datum BY PROGRAM (the guide's laid-datum.mjs) off the statement by which the dump's own 'gosem.cut.vars' lays the variable. In a bare row this is a premise. The card (YtmanohnlcedeaaaDoorCards.lean) ties it to the program's text. -/
def laid_math_bits_deBruijn64tab {H : Type} : DataW H := .agg [.lit (.int .u8 0), .lit (.int .u8 1), .lit (.int .u8 56), .lit (.int .u8 2), .lit (.int .u8 57), .lit (.int .u8 49), .lit (.int .u8 28), .lit (.int .u8 3), .lit (.int .u8 61), .lit (.int .u8 58), .lit (.int .u8 42), .lit (.int .u8 50), .lit (.int .u8 38), .lit (.int .u8 29), .lit (.int .u8 17), .lit (.int .u8 4), .lit (.int .u8 62), .lit (.int .u8 47), .lit (.int .u8 59), .lit (.int .u8 36), .lit (.int .u8 45), .lit (.int .u8 43), .lit (.int .u8 51), .lit (.int .u8 22), .lit (.int .u8 53), .lit (.int .u8 39), .lit (.int .u8 33), .lit (.int .u8 30), .lit (.int .u8 24), .lit (.int .u8 18), .lit (.int .u8 12), .lit (.int .u8 5), .lit (.int .u8 63), .lit (.int .u8 55), .lit (.int .u8 48), .lit (.int .u8 27), .lit (.int .u8 60), .lit (.int .u8 41), .lit (.int .u8 37), .lit (.int .u8 16), .lit (.int .u8 46), .lit (.int .u8 35), .lit (.int .u8 44), .lit (.int .u8 21), .lit (.int .u8 52), .lit (.int .u8 32), .lit (.int .u8 23), .lit (.int .u8 11), .lit (.int .u8 54), .lit (.int .u8 26), .lit (.int .u8 40), .lit (.int .u8 15), .lit (.int .u8 34), .lit (.int .u8 20), .lit (.int .u8 31), .lit (.int .u8 10), .lit (.int .u8 25), .lit (.int .u8 14), .lit (.int .u8 19), .lit (.int .u8 9), .lit (.int .u8 13), .lit (.int .u8 8), .lit (.int .u8 7), .lit (.int .u8 6)]

/-- 'bailifflaw07.RankFrees': WHATEVER THE INPUT: true; the input reads as it did. -/
def rankFreesSpec : ChangeSpec := { name := "rankFrees", fn := fun _ => fun
  | [d] => { results := [.lit (.bool true)], args := [d] }
  | _ => none }
def rankFreesRow : OpenClaim := { program := "ytmanohnlcedeaaadoor", sum := "0d7d3f1ab31cf91c1384e9baa2e1205c6e012b1c39bd30b3502c2a8102ad5f38", func := "bailiff/bailifflaw07.RankFrees", spec := "rankFrees", inPlace := ["internal/bytealg.IndexByteString"], unfollowed := true, recurses := true, named := ["math/bits.deBruijn64tab"], apart := false, laid := [("math/bits.deBruijn64tab", laid_math_bits_deBruijn64tab)] }
def RankFreesSaid : Prop := rankFreesRow.holds Tryd.pinned (OpenSpec.ofChange rankFreesSpec)

/-- ITS FALSE NEIGHBOUR: 'it returns false'. Refute it at one input. -/
def rankFreesWrong : ChangeSpec := { name := "rankFrees", fn := fun _ => fun
  | [d] => { results := [.lit (.bool false)], args := [d] }
  | _ => none }
def RankFreesWrongFalsely : Prop := rankFreesRow.holds Tryd.pinned (OpenSpec.ofChange rankFreesWrong)

/-- 'bailifflaw07.RankRanks': WHATEVER THE INPUT: true; the input reads as it did. -/
def rankRanksSpec : ChangeSpec := { name := "rankRanks", fn := fun _ => fun
  | [d] => { results := [.lit (.bool true)], args := [d] }
  | _ => none }
def rankRanksRow : OpenClaim := { program := "ytmanohnlcedeaaadoor", sum := "0d7d3f1ab31cf91c1384e9baa2e1205c6e012b1c39bd30b3502c2a8102ad5f38", func := "bailiff/bailifflaw07.RankRanks", spec := "rankRanks", inPlace := ["internal/bytealg.IndexByteString"], unfollowed := true, recurses := true, named := ["math/bits.deBruijn64tab"], apart := false, laid := [("math/bits.deBruijn64tab", laid_math_bits_deBruijn64tab)] }
def RankRanksSaid : Prop := rankRanksRow.holds Tryd.pinned (OpenSpec.ofChange rankRanksSpec)

/-- ITS FALSE NEIGHBOUR: 'it returns false'. Refute it at one input. -/
def rankRanksWrong : ChangeSpec := { name := "rankRanks", fn := fun _ => fun
  | [d] => { results := [.lit (.bool false)], args := [d] }
  | _ => none }
def RankRanksWrongFalsely : Prop := rankRanksRow.holds Tryd.pinned (OpenSpec.ofChange rankRanksWrong)

/-- 'bailifflaw07.RankOrder': WHATEVER THE INPUT: true; the input reads as it did. -/
def rankOrderSpec : ChangeSpec := { name := "rankOrder", fn := fun _ => fun
  | [d] => { results := [.lit (.bool true)], args := [d] }
  | _ => none }
def rankOrderRow : OpenClaim := { program := "ytmanohnlcedeaaadoor", sum := "0d7d3f1ab31cf91c1384e9baa2e1205c6e012b1c39bd30b3502c2a8102ad5f38", func := "bailiff/bailifflaw07.RankOrder", spec := "rankOrder", inPlace := ["internal/bytealg.IndexByteString"], unfollowed := true, recurses := true, named := ["math/bits.deBruijn64tab"], apart := false, laid := [("math/bits.deBruijn64tab", laid_math_bits_deBruijn64tab)] }
def RankOrderSaid : Prop := rankOrderRow.holds Tryd.pinned (OpenSpec.ofChange rankOrderSpec)

/-- ITS FALSE NEIGHBOUR: 'it returns false'. Refute it at one input. -/
def rankOrderWrong : ChangeSpec := { name := "rankOrder", fn := fun _ => fun
  | [d] => { results := [.lit (.bool false)], args := [d] }
  | _ => none }
def RankOrderWrongFalsely : Prop := rankOrderRow.holds Tryd.pinned (OpenSpec.ofChange rankOrderWrong)

/-- 'bailifflaw07.RankVars': WHATEVER THE INPUT: true; the input reads as it did. -/
def rankVarsSpec : ChangeSpec := { name := "rankVars", fn := fun _ => fun
  | [d] => { results := [.lit (.bool true)], args := [d] }
  | _ => none }
def rankVarsRow : OpenClaim := { program := "ytmanohnlcedeaaadoor", sum := "0d7d3f1ab31cf91c1384e9baa2e1205c6e012b1c39bd30b3502c2a8102ad5f38", func := "bailiff/bailifflaw07.RankVars", spec := "rankVars", inPlace := ["internal/bytealg.IndexByteString"], unfollowed := true, recurses := true, named := ["math/bits.deBruijn64tab"], apart := false, laid := [("math/bits.deBruijn64tab", laid_math_bits_deBruijn64tab)] }
def RankVarsSaid : Prop := rankVarsRow.holds Tryd.pinned (OpenSpec.ofChange rankVarsSpec)

/-- ITS FALSE NEIGHBOUR: 'it returns false'. Refute it at one input. -/
def rankVarsWrong : ChangeSpec := { name := "rankVars", fn := fun _ => fun
  | [d] => { results := [.lit (.bool false)], args := [d] }
  | _ => none }
def RankVarsWrongFalsely : Prop := rankVarsRow.holds Tryd.pinned (OpenSpec.ofChange rankVarsWrong)

/-- 'bailifflaw07.RankDual': WHATEVER THE INPUT: true; the input reads as it did. -/
def rankDualSpec : ChangeSpec := { name := "rankDual", fn := fun _ => fun
  | [d] => { results := [.lit (.bool true)], args := [d] }
  | _ => none }
def rankDualRow : OpenClaim := { program := "ytmanohnlcedeaaadoor", sum := "0d7d3f1ab31cf91c1384e9baa2e1205c6e012b1c39bd30b3502c2a8102ad5f38", func := "bailiff/bailifflaw07.RankDual", spec := "rankDual", inPlace := ["internal/bytealg.IndexByteString"], unfollowed := true, recurses := true, named := ["math/bits.deBruijn64tab"], apart := false, laid := [("math/bits.deBruijn64tab", laid_math_bits_deBruijn64tab)] }
def RankDualSaid : Prop := rankDualRow.holds Tryd.pinned (OpenSpec.ofChange rankDualSpec)

/-- ITS FALSE NEIGHBOUR: 'it returns false'. Refute it at one input. -/
def rankDualWrong : ChangeSpec := { name := "rankDual", fn := fun _ => fun
  | [d] => { results := [.lit (.bool false)], args := [d] }
  | _ => none }
def RankDualWrongFalsely : Prop := rankDualRow.holds Tryd.pinned (OpenSpec.ofChange rankDualWrong)

/- THE SECOND FORM. 'bulk': how many values and letters a reading holds, each counted each time it is reached (what is shared counts as often as it is met; a slice's spare places count too). A statement '..UptoSaid' is the law's where the arguments, and the package variables that the reading takes, are together of bulk at most 1048576: NARROWER than '..Said'. Prove '..Said' where nothing that the law and all that it calls make is longer than what came in: it says more and counts as full. Else prove '..UptoSaid'. A law counts once. -/
mutual
def uptoBulk {H : Type} : DataW H → Nat
  | .lit (.string bytes) => bytes.length + 1
  | .lit _ => 1
  | .nil => 1
  | .ptr d => uptoBulk d + 1
  | .slice elems spare => uptoBulkAll elems + uptoBulkAll spare + 1
  | .agg parts => uptoBulkAll parts + 1
  | .iface _ d => uptoBulk d + 1
  | .map entries => uptoBulkEntries entries + 1
  | .held _ => 1
def uptoBulkAll {H : Type} : List (DataW H) → Nat
  | [] => 0
  | d :: r => uptoBulk d + uptoBulkAll r
def uptoBulkEntries {H : Type} : List (Lit × DataW H) → Nat
  | [] => 0
  | x :: r => uptoBulkEntry x + uptoBulkEntries r
def uptoBulkEntry {H : Type} : Lit × DataW H → Nat
  | (.string bytes, d) => bytes.length + uptoBulk d + 1
  | (_, d) => uptoBulk d + 1
 end
def uptoSmall : (H : Type) → List (DataW H) → Bool := fun _ ds => decide (uptoBulkAll ds ≤ 1048576)
def OpenSpec.upto (s : _root_.Go.ChangeSpec) : _root_.Go.OpenSpec := { _root_.Go.OpenSpec.ofChange s with cond := some uptoSmall }

/-- 'bailifflaw07.RankFrees', WHERE WHAT IT READS IS OF BULK AT MOST 1048576: true; the input reads as it did. -/
def rankFreesUptoRow : OpenClaim := { program := "ytmanohnlcedeaaadoor", sum := "0d7d3f1ab31cf91c1384e9baa2e1205c6e012b1c39bd30b3502c2a8102ad5f38", func := "bailiff/bailifflaw07.RankFrees", spec := "rankFrees", inPlace := ["internal/bytealg.IndexByteString"], unfollowed := true, recurses := true, named := ["math/bits.deBruijn64tab"], apart := false, laid := [("math/bits.deBruijn64tab", laid_math_bits_deBruijn64tab)], narrowed := true }
def RankFreesUptoSaid : Prop := rankFreesUptoRow.holds Tryd.pinned (OpenSpec.upto rankFreesSpec)

/-- 'bailifflaw07.RankRanks', WHERE WHAT IT READS IS OF BULK AT MOST 1048576: true; the input reads as it did. -/
def rankRanksUptoRow : OpenClaim := { program := "ytmanohnlcedeaaadoor", sum := "0d7d3f1ab31cf91c1384e9baa2e1205c6e012b1c39bd30b3502c2a8102ad5f38", func := "bailiff/bailifflaw07.RankRanks", spec := "rankRanks", inPlace := ["internal/bytealg.IndexByteString"], unfollowed := true, recurses := true, named := ["math/bits.deBruijn64tab"], apart := false, laid := [("math/bits.deBruijn64tab", laid_math_bits_deBruijn64tab)], narrowed := true }
def RankRanksUptoSaid : Prop := rankRanksUptoRow.holds Tryd.pinned (OpenSpec.upto rankRanksSpec)

/-- 'bailifflaw07.RankOrder', WHERE WHAT IT READS IS OF BULK AT MOST 1048576: true; the input reads as it did. -/
def rankOrderUptoRow : OpenClaim := { program := "ytmanohnlcedeaaadoor", sum := "0d7d3f1ab31cf91c1384e9baa2e1205c6e012b1c39bd30b3502c2a8102ad5f38", func := "bailiff/bailifflaw07.RankOrder", spec := "rankOrder", inPlace := ["internal/bytealg.IndexByteString"], unfollowed := true, recurses := true, named := ["math/bits.deBruijn64tab"], apart := false, laid := [("math/bits.deBruijn64tab", laid_math_bits_deBruijn64tab)], narrowed := true }
def RankOrderUptoSaid : Prop := rankOrderUptoRow.holds Tryd.pinned (OpenSpec.upto rankOrderSpec)

/-- 'bailifflaw07.RankVars', WHERE WHAT IT READS IS OF BULK AT MOST 1048576: true; the input reads as it did. -/
def rankVarsUptoRow : OpenClaim := { program := "ytmanohnlcedeaaadoor", sum := "0d7d3f1ab31cf91c1384e9baa2e1205c6e012b1c39bd30b3502c2a8102ad5f38", func := "bailiff/bailifflaw07.RankVars", spec := "rankVars", inPlace := ["internal/bytealg.IndexByteString"], unfollowed := true, recurses := true, named := ["math/bits.deBruijn64tab"], apart := false, laid := [("math/bits.deBruijn64tab", laid_math_bits_deBruijn64tab)], narrowed := true }
def RankVarsUptoSaid : Prop := rankVarsUptoRow.holds Tryd.pinned (OpenSpec.upto rankVarsSpec)

/-- 'bailifflaw07.RankDual', WHERE WHAT IT READS IS OF BULK AT MOST 1048576: true; the input reads as it did. -/
def rankDualUptoRow : OpenClaim := { program := "ytmanohnlcedeaaadoor", sum := "0d7d3f1ab31cf91c1384e9baa2e1205c6e012b1c39bd30b3502c2a8102ad5f38", func := "bailiff/bailifflaw07.RankDual", spec := "rankDual", inPlace := ["internal/bytealg.IndexByteString"], unfollowed := true, recurses := true, named := ["math/bits.deBruijn64tab"], apart := false, laid := [("math/bits.deBruijn64tab", laid_math_bits_deBruijn64tab)], narrowed := true }
def RankDualUptoSaid : Prop := rankDualUptoRow.holds Tryd.pinned (OpenSpec.upto rankDualSpec)

end Rows
end Go.Proofs.YtmanohnlcedeaaaDoor
