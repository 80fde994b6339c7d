/-
  DERIVED. GIVEN WITH THE SEED: THE CARDS: each row of YtdhjpnacjnkbgaaGreatDoorRows.lean that lists a variable, with what it lists TIED to the program's text (the seventh form; the later family's looks); each row that meets fmt, with fmt's text TOLD by the authors' own Lean function (tested against real Go, not proved from fmt's source: count such statements apart). THE CARD IS WHAT COUNTS. Prove the row's statement (the work); the ties are given (YtdhjpnacjnkbgaaGreatDoorTie.lean); close each card by the builder's one call (the guide's Derived/Test/ToyasCard.lean, 'card_holds'). Laid BY PROGRAM, IN A SANDBOX (cutbox-door.mjs). By AI agents, Wed Nov 11 2026. No macro, syntax, notation, axiom, sorry.
-/
import Derived.Test.YtdhjpnacjnkbgaaGreatDoorRows
import GoSem.ClaimSeven
namespace Go.Proofs.YtdhjpnacjnkbgaaGreatDoor
namespace Rows

/-- THE TIED CARD OF 'bailifftop.TopShared'. -/
def topSharedCard : Claim7 := { stood := { row := topSharedRow, standIns := [], harness := (true, "ffdf506ec1d3e0fa3ccc086d11929efb0a0e15876174439b19990c76fd95007d"), looks := true }, kinds := [], alts := [], laidByText := true, laidKinds := [.data, .handle], laidTests := true, laidLooks := .later }
def TopSharedCardSaid : Prop := Claim7.holds Tryz.pinned (.plain (OpenSpec.ofChange topSharedSpec)) topSharedCard

/-- THE TIED CARD OF 'bailifftop.TopRaised'. -/
def topRaisedCard : Claim7 := { stood := { row := topRaisedRow, standIns := [], harness := (true, "ffdf506ec1d3e0fa3ccc086d11929efb0a0e15876174439b19990c76fd95007d"), looks := true }, kinds := [], alts := [], laidByText := true, laidKinds := [.data, .handle], laidTests := true, laidLooks := .later }
def TopRaisedCardSaid : Prop := Claim7.holds Tryz.pinned (.plain (OpenSpec.ofChange topRaisedSpec)) topRaisedCard

/-- THE TIED CARD OF 'bailifftop.TopForced'. -/
def topForcedCard : Claim7 := { stood := { row := topForcedRow, standIns := [], harness := (true, "ffdf506ec1d3e0fa3ccc086d11929efb0a0e15876174439b19990c76fd95007d"), looks := true }, kinds := [], alts := [], laidByText := true, laidKinds := [.data, .handle], laidTests := true, laidLooks := .later }
def TopForcedCardSaid : Prop := Claim7.holds Tryz.pinned (.plain (OpenSpec.ofChange topForcedSpec)) topForcedCard

/-- THE TIED CARD OF 'bailifftop.TopPlayed'. -/
def topPlayedCard : Claim7 := { stood := { row := topPlayedRow, standIns := [], harness := (true, "ffdf506ec1d3e0fa3ccc086d11929efb0a0e15876174439b19990c76fd95007d"), looks := true }, kinds := [], alts := [], laidByText := true, laidKinds := [.data, .handle], laidTests := true, laidLooks := .later }
def TopPlayedCardSaid : Prop := Claim7.holds Tryz.pinned (.plain (OpenSpec.ofChange topPlayedSpec)) topPlayedCard

/-- THE TIED CARD OF 'bailifftop.TopAgain'. -/
def topAgainCard : Claim7 := { stood := { row := topAgainRow, standIns := [], harness := (true, "ffdf506ec1d3e0fa3ccc086d11929efb0a0e15876174439b19990c76fd95007d"), looks := true }, kinds := [], alts := [], laidByText := true, laidKinds := [.data, .handle], laidTests := true, laidLooks := .later }
def TopAgainCardSaid : Prop := Claim7.holds Tryz.pinned (.plain (OpenSpec.ofChange topAgainSpec)) topAgainCard

/-- THE TIED CARD OF 'bailifftop.TopEnds'. -/
def topEndsCard : Claim7 := { stood := { row := topEndsRow, standIns := [], harness := (true, "ffdf506ec1d3e0fa3ccc086d11929efb0a0e15876174439b19990c76fd95007d"), looks := true }, kinds := [], alts := [], laidByText := true, laidKinds := [.data, .handle], laidTests := true, laidLooks := .later }
def TopEndsCardSaid : Prop := Claim7.holds Tryz.pinned (.plain (OpenSpec.ofChange topEndsSpec)) topEndsCard

/-- THE TIED CARD OF 'bailifftop.TopMixed'. -/
def topMixedCard : Claim7 := { stood := { row := topMixedRow, standIns := [], harness := (true, "ffdf506ec1d3e0fa3ccc086d11929efb0a0e15876174439b19990c76fd95007d"), looks := true }, kinds := [], alts := [], laidByText := true, laidKinds := [.data, .handle], laidTests := true, laidLooks := .later }
def TopMixedCardSaid : Prop := Claim7.holds Tryz.pinned (.plain (OpenSpec.ofChange topMixedSpec)) topMixedCard

/-- THE TIED CARD OF 'bailifftop.TopEvidence'. -/
def topEvidenceCard : Claim7 := { stood := { row := topEvidenceRow, standIns := [], harness := (true, "ffdf506ec1d3e0fa3ccc086d11929efb0a0e15876174439b19990c76fd95007d"), looks := true }, kinds := [], alts := [], laidByText := true, laidKinds := [.data, .handle], laidTests := true, laidLooks := .later }
def TopEvidenceCardSaid : Prop := Claim7.holds Tryz.pinned (.plain (OpenSpec.ofChange topEvidenceSpec)) topEvidenceCard

/-- THE SECOND FORM's CARD OF 'bailifftop.TopShared'. -/
def topSharedUptoCard : Claim7 := { stood := { row := topSharedUptoRow, standIns := [], harness := (true, "ffdf506ec1d3e0fa3ccc086d11929efb0a0e15876174439b19990c76fd95007d"), looks := true }, kinds := [], alts := [], laidByText := true, laidKinds := [.data, .handle], laidTests := true, laidLooks := .later }
def TopSharedUptoCardSaid : Prop := Claim7.holds Tryz.pinned (.plain (OpenSpec.upto topSharedSpec)) topSharedUptoCard

/-- THE SECOND FORM's CARD OF 'bailifftop.TopRaised'. -/
def topRaisedUptoCard : Claim7 := { stood := { row := topRaisedUptoRow, standIns := [], harness := (true, "ffdf506ec1d3e0fa3ccc086d11929efb0a0e15876174439b19990c76fd95007d"), looks := true }, kinds := [], alts := [], laidByText := true, laidKinds := [.data, .handle], laidTests := true, laidLooks := .later }
def TopRaisedUptoCardSaid : Prop := Claim7.holds Tryz.pinned (.plain (OpenSpec.upto topRaisedSpec)) topRaisedUptoCard

/-- THE SECOND FORM's CARD OF 'bailifftop.TopForced'. -/
def topForcedUptoCard : Claim7 := { stood := { row := topForcedUptoRow, standIns := [], harness := (true, "ffdf506ec1d3e0fa3ccc086d11929efb0a0e15876174439b19990c76fd95007d"), looks := true }, kinds := [], alts := [], laidByText := true, laidKinds := [.data, .handle], laidTests := true, laidLooks := .later }
def TopForcedUptoCardSaid : Prop := Claim7.holds Tryz.pinned (.plain (OpenSpec.upto topForcedSpec)) topForcedUptoCard

/-- THE SECOND FORM's CARD OF 'bailifftop.TopPlayed'. -/
def topPlayedUptoCard : Claim7 := { stood := { row := topPlayedUptoRow, standIns := [], harness := (true, "ffdf506ec1d3e0fa3ccc086d11929efb0a0e15876174439b19990c76fd95007d"), looks := true }, kinds := [], alts := [], laidByText := true, laidKinds := [.data, .handle], laidTests := true, laidLooks := .later }
def TopPlayedUptoCardSaid : Prop := Claim7.holds Tryz.pinned (.plain (OpenSpec.upto topPlayedSpec)) topPlayedUptoCard

/-- THE SECOND FORM's CARD OF 'bailifftop.TopAgain'. -/
def topAgainUptoCard : Claim7 := { stood := { row := topAgainUptoRow, standIns := [], harness := (true, "ffdf506ec1d3e0fa3ccc086d11929efb0a0e15876174439b19990c76fd95007d"), looks := true }, kinds := [], alts := [], laidByText := true, laidKinds := [.data, .handle], laidTests := true, laidLooks := .later }
def TopAgainUptoCardSaid : Prop := Claim7.holds Tryz.pinned (.plain (OpenSpec.upto topAgainSpec)) topAgainUptoCard

/-- THE SECOND FORM's CARD OF 'bailifftop.TopEnds'. -/
def topEndsUptoCard : Claim7 := { stood := { row := topEndsUptoRow, standIns := [], harness := (true, "ffdf506ec1d3e0fa3ccc086d11929efb0a0e15876174439b19990c76fd95007d"), looks := true }, kinds := [], alts := [], laidByText := true, laidKinds := [.data, .handle], laidTests := true, laidLooks := .later }
def TopEndsUptoCardSaid : Prop := Claim7.holds Tryz.pinned (.plain (OpenSpec.upto topEndsSpec)) topEndsUptoCard

/-- THE SECOND FORM's CARD OF 'bailifftop.TopMixed'. -/
def topMixedUptoCard : Claim7 := { stood := { row := topMixedUptoRow, standIns := [], harness := (true, "ffdf506ec1d3e0fa3ccc086d11929efb0a0e15876174439b19990c76fd95007d"), looks := true }, kinds := [], alts := [], laidByText := true, laidKinds := [.data, .handle], laidTests := true, laidLooks := .later }
def TopMixedUptoCardSaid : Prop := Claim7.holds Tryz.pinned (.plain (OpenSpec.upto topMixedSpec)) topMixedUptoCard

/-- THE SECOND FORM's CARD OF 'bailifftop.TopEvidence'. -/
def topEvidenceUptoCard : Claim7 := { stood := { row := topEvidenceUptoRow, standIns := [], harness := (true, "ffdf506ec1d3e0fa3ccc086d11929efb0a0e15876174439b19990c76fd95007d"), looks := true }, kinds := [], alts := [], laidByText := true, laidKinds := [.data, .handle], laidTests := true, laidLooks := .later }
def TopEvidenceUptoCardSaid : Prop := Claim7.holds Tryz.pinned (.plain (OpenSpec.upto topEvidenceSpec)) topEvidenceUptoCard
end Rows
end Go.Proofs.YtdhjpnacjnkbgaaGreatDoor
