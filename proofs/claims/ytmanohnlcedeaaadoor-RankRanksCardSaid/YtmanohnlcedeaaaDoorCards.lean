/-
  DERIVED. GIVEN WITH THE SEED: THE CARDS: each row of YtmanohnlcedeaaaDoorRows.lean that lists a variable, with what it lists TIED to the program's text (the seventh form; the later family's looks); each row that meets fmt, with fmt's text TOLD by the authors' own Lean function (tested against real Go, not proved from fmt's source: count such statements apart). THE CARD IS WHAT COUNTS. Prove the row's statement (the work); the ties are given (YtmanohnlcedeaaaDoorTie.lean); close each card by the builder's one call (the guide's Derived/Test/ToyasCard.lean, 'card_holds'). Laid BY PROGRAM, IN A SANDBOX (cutbox-door.mjs). By AI agents, Wed Nov 11 2026. No macro, syntax, notation, axiom, sorry.
-/
import Derived.Test.YtmanohnlcedeaaaDoorRows
import GoSem.ClaimSeven
namespace Go.Proofs.YtmanohnlcedeaaaDoor
namespace Rows

/-- THE TIED CARD OF 'bailifflaw07.RankFrees'. -/
def rankFreesCard : Claim7 := { stood := { row := rankFreesRow, standIns := [], harness := (true, "30e830dc44f391bc84d66d152a8719f2f71b527b52e6e82807001d5c609bcd6e"), looks := true }, kinds := [], alts := [], laidByText := true, laidKinds := [.data], laidTests := true, laidLooks := .later }
def RankFreesCardSaid : Prop := Claim7.holds Tryd.pinned (.plain (OpenSpec.ofChange rankFreesSpec)) rankFreesCard

/-- THE TIED CARD OF 'bailifflaw07.RankRanks'. -/
def rankRanksCard : Claim7 := { stood := { row := rankRanksRow, standIns := [], harness := (true, "30e830dc44f391bc84d66d152a8719f2f71b527b52e6e82807001d5c609bcd6e"), looks := true }, kinds := [], alts := [], laidByText := true, laidKinds := [.data], laidTests := true, laidLooks := .later }
def RankRanksCardSaid : Prop := Claim7.holds Tryd.pinned (.plain (OpenSpec.ofChange rankRanksSpec)) rankRanksCard

/-- THE TIED CARD OF 'bailifflaw07.RankOrder'. -/
def rankOrderCard : Claim7 := { stood := { row := rankOrderRow, standIns := [], harness := (true, "30e830dc44f391bc84d66d152a8719f2f71b527b52e6e82807001d5c609bcd6e"), looks := true }, kinds := [], alts := [], laidByText := true, laidKinds := [.data], laidTests := true, laidLooks := .later }
def RankOrderCardSaid : Prop := Claim7.holds Tryd.pinned (.plain (OpenSpec.ofChange rankOrderSpec)) rankOrderCard

/-- THE TIED CARD OF 'bailifflaw07.RankVars'. -/
def rankVarsCard : Claim7 := { stood := { row := rankVarsRow, standIns := [], harness := (true, "30e830dc44f391bc84d66d152a8719f2f71b527b52e6e82807001d5c609bcd6e"), looks := true }, kinds := [], alts := [], laidByText := true, laidKinds := [.data], laidTests := true, laidLooks := .later }
def RankVarsCardSaid : Prop := Claim7.holds Tryd.pinned (.plain (OpenSpec.ofChange rankVarsSpec)) rankVarsCard

/-- THE TIED CARD OF 'bailifflaw07.RankDual'. -/
def rankDualCard : Claim7 := { stood := { row := rankDualRow, standIns := [], harness := (true, "30e830dc44f391bc84d66d152a8719f2f71b527b52e6e82807001d5c609bcd6e"), looks := true }, kinds := [], alts := [], laidByText := true, laidKinds := [.data], laidTests := true, laidLooks := .later }
def RankDualCardSaid : Prop := Claim7.holds Tryd.pinned (.plain (OpenSpec.ofChange rankDualSpec)) rankDualCard

/-- THE SECOND FORM's CARD OF 'bailifflaw07.RankFrees'. -/
def rankFreesUptoCard : Claim7 := { stood := { row := rankFreesUptoRow, standIns := [], harness := (true, "30e830dc44f391bc84d66d152a8719f2f71b527b52e6e82807001d5c609bcd6e"), looks := true }, kinds := [], alts := [], laidByText := true, laidKinds := [.data], laidTests := true, laidLooks := .later }
def RankFreesUptoCardSaid : Prop := Claim7.holds Tryd.pinned (.plain (OpenSpec.upto rankFreesSpec)) rankFreesUptoCard

/-- THE SECOND FORM's CARD OF 'bailifflaw07.RankRanks'. -/
def rankRanksUptoCard : Claim7 := { stood := { row := rankRanksUptoRow, standIns := [], harness := (true, "30e830dc44f391bc84d66d152a8719f2f71b527b52e6e82807001d5c609bcd6e"), looks := true }, kinds := [], alts := [], laidByText := true, laidKinds := [.data], laidTests := true, laidLooks := .later }
def RankRanksUptoCardSaid : Prop := Claim7.holds Tryd.pinned (.plain (OpenSpec.upto rankRanksSpec)) rankRanksUptoCard

/-- THE SECOND FORM's CARD OF 'bailifflaw07.RankOrder'. -/
def rankOrderUptoCard : Claim7 := { stood := { row := rankOrderUptoRow, standIns := [], harness := (true, "30e830dc44f391bc84d66d152a8719f2f71b527b52e6e82807001d5c609bcd6e"), looks := true }, kinds := [], alts := [], laidByText := true, laidKinds := [.data], laidTests := true, laidLooks := .later }
def RankOrderUptoCardSaid : Prop := Claim7.holds Tryd.pinned (.plain (OpenSpec.upto rankOrderSpec)) rankOrderUptoCard

/-- THE SECOND FORM's CARD OF 'bailifflaw07.RankVars'. -/
def rankVarsUptoCard : Claim7 := { stood := { row := rankVarsUptoRow, standIns := [], harness := (true, "30e830dc44f391bc84d66d152a8719f2f71b527b52e6e82807001d5c609bcd6e"), looks := true }, kinds := [], alts := [], laidByText := true, laidKinds := [.data], laidTests := true, laidLooks := .later }
def RankVarsUptoCardSaid : Prop := Claim7.holds Tryd.pinned (.plain (OpenSpec.upto rankVarsSpec)) rankVarsUptoCard

/-- THE SECOND FORM's CARD OF 'bailifflaw07.RankDual'. -/
def rankDualUptoCard : Claim7 := { stood := { row := rankDualUptoRow, standIns := [], harness := (true, "30e830dc44f391bc84d66d152a8719f2f71b527b52e6e82807001d5c609bcd6e"), looks := true }, kinds := [], alts := [], laidByText := true, laidKinds := [.data], laidTests := true, laidLooks := .later }
def RankDualUptoCardSaid : Prop := Claim7.holds Tryd.pinned (.plain (OpenSpec.upto rankDualSpec)) rankDualUptoCard
end Rows
end Go.Proofs.YtmanohnlcedeaaaDoor
