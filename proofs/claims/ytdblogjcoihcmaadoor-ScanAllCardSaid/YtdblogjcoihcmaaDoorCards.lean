/-
  DERIVED. GIVEN WITH THE SEED: THE CARDS: each row of YtdblogjcoihcmaaDoorRows.lean that lists a variable, with what it lists TIED to the program's text (the seventh form; the later family's looks); each row that meets fmt, with fmt's text TOLD by the authors' own Lean function (tested against real Go, not proved from fmt's source: count such statements apart). THE CARD IS WHAT COUNTS. Prove the row's statement (the work); the ties are given (YtdblogjcoihcmaaDoorTie.lean); close each card by the builder's one call (the guide's Derived/Test/ToyasCard.lean, 'card_holds'). Laid BY PROGRAM, IN A SANDBOX (cutbox-door.mjs). By AI agents, Wed Nov 11 2026. No macro, syntax, notation, axiom, sorry.
-/
import Derived.Test.YtdblogjcoihcmaaDoorRows
import GoSem.ClaimSeven
namespace Go.Proofs.YtdblogjcoihcmaaDoor
namespace Rows

/-- THE TIED CARD OF 'bailifflaw02.ScanAll'. -/
def scanAllCard : Claim7 := { stood := { row := scanAllRow, standIns := [], harness := (true, "c58e0771b7213737557dbf34e50a7d50031468eab00e0f79b6a022d2ccb45cb0"), looks := true }, kinds := [], alts := [], laidByText := true, laidKinds := [.handle], laidTests := true, laidLooks := .later }
def ScanAllCardSaid : Prop := Claim7.holds Tryd.pinned (.plain (OpenSpec.ofChange scanAllSpec)) scanAllCard

/-- THE TIED CARD OF 'bailifflaw02.ScanPieces'. -/
def scanPiecesCard : Claim7 := { stood := { row := scanPiecesRow, standIns := [], harness := (true, "c58e0771b7213737557dbf34e50a7d50031468eab00e0f79b6a022d2ccb45cb0"), looks := true }, kinds := [], alts := [], laidByText := true, laidKinds := [.handle], laidTests := true, laidLooks := .later }
def ScanPiecesCardSaid : Prop := Claim7.holds Tryd.pinned (.plain (OpenSpec.ofChange scanPiecesSpec)) scanPiecesCard

/-- THE TIED CARD OF 'bailifflaw02.ScanJoins'. -/
def scanJoinsCard : Claim7 := { stood := { row := scanJoinsRow, standIns := [], harness := (true, "c58e0771b7213737557dbf34e50a7d50031468eab00e0f79b6a022d2ccb45cb0"), looks := true }, kinds := [], alts := [], laidByText := true, laidKinds := [.handle], laidTests := true, laidLooks := .later }
def ScanJoinsCardSaid : Prop := Claim7.holds Tryd.pinned (.plain (OpenSpec.ofChange scanJoinsSpec)) scanJoinsCard

/-- THE TIED CARD OF 'bailifflaw02.ScanNames'. -/
def scanNamesCard : Claim7 := { stood := { row := scanNamesRow, standIns := [], harness := (true, "c58e0771b7213737557dbf34e50a7d50031468eab00e0f79b6a022d2ccb45cb0"), looks := true }, kinds := [], alts := [], laidByText := true, laidKinds := [.handle], laidTests := true, laidLooks := .later }
def ScanNamesCardSaid : Prop := Claim7.holds Tryd.pinned (.plain (OpenSpec.ofChange scanNamesSpec)) scanNamesCard

/-- THE TIED CARD OF 'bailifflaw02.ScanSigns'. -/
def scanSignsCard : Claim7 := { stood := { row := scanSignsRow, standIns := [], harness := (true, "c58e0771b7213737557dbf34e50a7d50031468eab00e0f79b6a022d2ccb45cb0"), looks := true }, kinds := [], alts := [], laidByText := true, laidKinds := [.handle], laidTests := true, laidLooks := .later }
def ScanSignsCardSaid : Prop := Claim7.holds Tryd.pinned (.plain (OpenSpec.ofChange scanSignsSpec)) scanSignsCard

/-- THE TIED CARD OF 'bailifflaw02.ScanUpTo'. -/
def scanUpToCard : Claim7 := { stood := { row := scanUpToRow, standIns := [], harness := (true, "c58e0771b7213737557dbf34e50a7d50031468eab00e0f79b6a022d2ccb45cb0"), looks := true }, kinds := [], alts := [], laidByText := true, laidKinds := [.handle], laidTests := true, laidLooks := .later }
def ScanUpToCardSaid : Prop := Claim7.holds Tryd.pinned (.plain (OpenSpec.ofChange scanUpToSpec)) scanUpToCard

/-- THE TIED CARD OF 'bailifflaw02.ScanCuts'. -/
def scanCutsCard : Claim7 := { stood := { row := scanCutsRow, standIns := [], harness := (true, "c58e0771b7213737557dbf34e50a7d50031468eab00e0f79b6a022d2ccb45cb0"), looks := true }, kinds := [], alts := [], laidByText := true, laidKinds := [.handle], laidTests := true, laidLooks := .later }
def ScanCutsCardSaid : Prop := Claim7.holds Tryd.pinned (.plain (OpenSpec.ofChange scanCutsSpec)) scanCutsCard

/-- THE SECOND FORM's CARD OF 'bailifflaw02.ScanAll'. -/
def scanAllUptoCard : Claim7 := { stood := { row := scanAllUptoRow, standIns := [], harness := (true, "c58e0771b7213737557dbf34e50a7d50031468eab00e0f79b6a022d2ccb45cb0"), looks := true }, kinds := [], alts := [], laidByText := true, laidKinds := [.handle], laidTests := true, laidLooks := .later }
def ScanAllUptoCardSaid : Prop := Claim7.holds Tryd.pinned (.plain (OpenSpec.upto scanAllSpec)) scanAllUptoCard

/-- THE SECOND FORM's CARD OF 'bailifflaw02.ScanPieces'. -/
def scanPiecesUptoCard : Claim7 := { stood := { row := scanPiecesUptoRow, standIns := [], harness := (true, "c58e0771b7213737557dbf34e50a7d50031468eab00e0f79b6a022d2ccb45cb0"), looks := true }, kinds := [], alts := [], laidByText := true, laidKinds := [.handle], laidTests := true, laidLooks := .later }
def ScanPiecesUptoCardSaid : Prop := Claim7.holds Tryd.pinned (.plain (OpenSpec.upto scanPiecesSpec)) scanPiecesUptoCard

/-- THE SECOND FORM's CARD OF 'bailifflaw02.ScanJoins'. -/
def scanJoinsUptoCard : Claim7 := { stood := { row := scanJoinsUptoRow, standIns := [], harness := (true, "c58e0771b7213737557dbf34e50a7d50031468eab00e0f79b6a022d2ccb45cb0"), looks := true }, kinds := [], alts := [], laidByText := true, laidKinds := [.handle], laidTests := true, laidLooks := .later }
def ScanJoinsUptoCardSaid : Prop := Claim7.holds Tryd.pinned (.plain (OpenSpec.upto scanJoinsSpec)) scanJoinsUptoCard

/-- THE SECOND FORM's CARD OF 'bailifflaw02.ScanNames'. -/
def scanNamesUptoCard : Claim7 := { stood := { row := scanNamesUptoRow, standIns := [], harness := (true, "c58e0771b7213737557dbf34e50a7d50031468eab00e0f79b6a022d2ccb45cb0"), looks := true }, kinds := [], alts := [], laidByText := true, laidKinds := [.handle], laidTests := true, laidLooks := .later }
def ScanNamesUptoCardSaid : Prop := Claim7.holds Tryd.pinned (.plain (OpenSpec.upto scanNamesSpec)) scanNamesUptoCard

/-- THE SECOND FORM's CARD OF 'bailifflaw02.ScanSigns'. -/
def scanSignsUptoCard : Claim7 := { stood := { row := scanSignsUptoRow, standIns := [], harness := (true, "c58e0771b7213737557dbf34e50a7d50031468eab00e0f79b6a022d2ccb45cb0"), looks := true }, kinds := [], alts := [], laidByText := true, laidKinds := [.handle], laidTests := true, laidLooks := .later }
def ScanSignsUptoCardSaid : Prop := Claim7.holds Tryd.pinned (.plain (OpenSpec.upto scanSignsSpec)) scanSignsUptoCard

/-- THE SECOND FORM's CARD OF 'bailifflaw02.ScanUpTo'. -/
def scanUpToUptoCard : Claim7 := { stood := { row := scanUpToUptoRow, standIns := [], harness := (true, "c58e0771b7213737557dbf34e50a7d50031468eab00e0f79b6a022d2ccb45cb0"), looks := true }, kinds := [], alts := [], laidByText := true, laidKinds := [.handle], laidTests := true, laidLooks := .later }
def ScanUpToUptoCardSaid : Prop := Claim7.holds Tryd.pinned (.plain (OpenSpec.upto scanUpToSpec)) scanUpToUptoCard

/-- THE SECOND FORM's CARD OF 'bailifflaw02.ScanCuts'. -/
def scanCutsUptoCard : Claim7 := { stood := { row := scanCutsUptoRow, standIns := [], harness := (true, "c58e0771b7213737557dbf34e50a7d50031468eab00e0f79b6a022d2ccb45cb0"), looks := true }, kinds := [], alts := [], laidByText := true, laidKinds := [.handle], laidTests := true, laidLooks := .later }
def ScanCutsUptoCardSaid : Prop := Claim7.holds Tryd.pinned (.plain (OpenSpec.upto scanCutsSpec)) scanCutsUptoCard
end Rows
end Go.Proofs.YtdblogjcoihcmaaDoor
