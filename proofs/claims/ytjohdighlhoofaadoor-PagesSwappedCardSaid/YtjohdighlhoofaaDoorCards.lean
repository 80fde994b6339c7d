/-
  DERIVED. GIVEN WITH THE SEED: THE CARDS: each row of YtjohdighlhoofaaDoorRows.lean that lists a variable, with what it lists TIED to the program's text (the seventh form; the later family's looks); each row that meets fmt, with fmt's text TOLD by the authors' own Lean function (tested against real Go, not proved from fmt's source: count such statements apart). THE CARD IS WHAT COUNTS. Prove the row's statement (the work); the ties are given (YtjohdighlhoofaaDoorTie.lean); close each card by the builder's one call (the guide's Derived/Test/ToyasCard.lean, 'card_holds'). Laid BY PROGRAM, IN A SANDBOX (cutbox-door.mjs). By AI agents, Wed Nov 11 2026. No macro, syntax, notation, axiom, sorry.
-/
import Derived.Test.YtjohdighlhoofaaDoorRows
import GoSem.ClaimSeven
namespace Go.Proofs.YtjohdighlhoofaaDoor
namespace Rows

/-- THE TIED CARD OF 'bailifflaw10.PagesPrints'. -/
def pagesPrintsCard : Claim7 := { stood := { row := pagesPrintsRow, standIns := [], harness := (true, "7b472795c2c726f51f692d275f4b594db9e9086ae0263329c2836b2db7832b9e"), looks := true }, kinds := [], alts := [], laidByText := true, laidKinds := [.data, .data, .data, .handle], laidTests := true, laidLooks := .later }
def PagesPrintsCardSaid : Prop := Claim7.holds Tryd.pinned (.plain (OpenSpec.ofChange pagesPrintsSpec)) pagesPrintsCard

/-- THE TIED CARD OF 'bailifflaw10.PagesParses'. -/
def pagesParsesCard : Claim7 := { stood := { row := pagesParsesRow, standIns := [], harness := (true, "7b472795c2c726f51f692d275f4b594db9e9086ae0263329c2836b2db7832b9e"), looks := true }, kinds := [], alts := [], laidByText := true, laidKinds := [.data, .data, .data, .handle], laidTests := true, laidLooks := .later }
def PagesParsesCardSaid : Prop := Claim7.holds Tryd.pinned (.plain (OpenSpec.ofChange pagesParsesSpec)) pagesParsesCard

/-- THE TIED CARD OF 'bailifflaw10.PagesBack'. -/
def pagesBackCard : Claim7 := { stood := { row := pagesBackRow, standIns := [], harness := (true, "7b472795c2c726f51f692d275f4b594db9e9086ae0263329c2836b2db7832b9e"), looks := true }, kinds := [], alts := [], laidByText := true, laidKinds := [.data, .data, .data, .handle], laidTests := true, laidLooks := .later }
def PagesBackCardSaid : Prop := Claim7.holds Tryd.pinned (.plain (OpenSpec.ofChange pagesBackSpec)) pagesBackCard

/-- THE TIED CARD OF 'bailifflaw10.PagesOne'. -/
def pagesOneCard : Claim7 := { stood := { row := pagesOneRow, standIns := [], harness := (true, "7b472795c2c726f51f692d275f4b594db9e9086ae0263329c2836b2db7832b9e"), looks := true }, kinds := [], alts := [], laidByText := true, laidKinds := [.data, .data, .data, .handle], laidTests := true, laidLooks := .later }
def PagesOneCardSaid : Prop := Claim7.holds Tryd.pinned (.plain (OpenSpec.ofChange pagesOneSpec)) pagesOneCard

/-- THE TIED CARD OF 'bailifflaw10.PagesUnlike'. -/
def pagesUnlikeCard : Claim7 := { stood := { row := pagesUnlikeRow, standIns := [], harness := (true, "7b472795c2c726f51f692d275f4b594db9e9086ae0263329c2836b2db7832b9e"), looks := true }, kinds := [], alts := [], laidByText := true, laidKinds := [.data, .data, .data, .handle], laidTests := true, laidLooks := .later }
def PagesUnlikeCardSaid : Prop := Claim7.holds Tryd.pinned (.plain (OpenSpec.ofChange pagesUnlikeSpec)) pagesUnlikeCard

/-- THE TIED CARD OF 'bailifflaw10.PagesCut'. -/
def pagesCutCard : Claim7 := { stood := { row := pagesCutRow, standIns := [], harness := (true, "7b472795c2c726f51f692d275f4b594db9e9086ae0263329c2836b2db7832b9e"), looks := true }, kinds := [], alts := [], laidByText := true, laidKinds := [.data, .data, .data, .handle], laidTests := true, laidLooks := .later }
def PagesCutCardSaid : Prop := Claim7.holds Tryd.pinned (.plain (OpenSpec.ofChange pagesCutSpec)) pagesCutCard

/-- THE TIED CARD OF 'bailifflaw10.PagesSwapped'. -/
def pagesSwappedCard : Claim7 := { stood := { row := pagesSwappedRow, standIns := [], harness := (true, "7b472795c2c726f51f692d275f4b594db9e9086ae0263329c2836b2db7832b9e"), looks := true }, kinds := [], alts := [], laidByText := true, laidKinds := [.data, .data, .data, .handle], laidTests := true, laidLooks := .later }
def PagesSwappedCardSaid : Prop := Claim7.holds Tryd.pinned (.plain (OpenSpec.ofChange pagesSwappedSpec)) pagesSwappedCard

/-- THE SECOND FORM's CARD OF 'bailifflaw10.PagesPrints'. -/
def pagesPrintsUptoCard : Claim7 := { stood := { row := pagesPrintsUptoRow, standIns := [], harness := (true, "7b472795c2c726f51f692d275f4b594db9e9086ae0263329c2836b2db7832b9e"), looks := true }, kinds := [], alts := [], laidByText := true, laidKinds := [.data, .data, .data, .handle], laidTests := true, laidLooks := .later }
def PagesPrintsUptoCardSaid : Prop := Claim7.holds Tryd.pinned (.plain (OpenSpec.upto pagesPrintsSpec)) pagesPrintsUptoCard

/-- THE SECOND FORM's CARD OF 'bailifflaw10.PagesParses'. -/
def pagesParsesUptoCard : Claim7 := { stood := { row := pagesParsesUptoRow, standIns := [], harness := (true, "7b472795c2c726f51f692d275f4b594db9e9086ae0263329c2836b2db7832b9e"), looks := true }, kinds := [], alts := [], laidByText := true, laidKinds := [.data, .data, .data, .handle], laidTests := true, laidLooks := .later }
def PagesParsesUptoCardSaid : Prop := Claim7.holds Tryd.pinned (.plain (OpenSpec.upto pagesParsesSpec)) pagesParsesUptoCard

/-- THE SECOND FORM's CARD OF 'bailifflaw10.PagesBack'. -/
def pagesBackUptoCard : Claim7 := { stood := { row := pagesBackUptoRow, standIns := [], harness := (true, "7b472795c2c726f51f692d275f4b594db9e9086ae0263329c2836b2db7832b9e"), looks := true }, kinds := [], alts := [], laidByText := true, laidKinds := [.data, .data, .data, .handle], laidTests := true, laidLooks := .later }
def PagesBackUptoCardSaid : Prop := Claim7.holds Tryd.pinned (.plain (OpenSpec.upto pagesBackSpec)) pagesBackUptoCard

/-- THE SECOND FORM's CARD OF 'bailifflaw10.PagesOne'. -/
def pagesOneUptoCard : Claim7 := { stood := { row := pagesOneUptoRow, standIns := [], harness := (true, "7b472795c2c726f51f692d275f4b594db9e9086ae0263329c2836b2db7832b9e"), looks := true }, kinds := [], alts := [], laidByText := true, laidKinds := [.data, .data, .data, .handle], laidTests := true, laidLooks := .later }
def PagesOneUptoCardSaid : Prop := Claim7.holds Tryd.pinned (.plain (OpenSpec.upto pagesOneSpec)) pagesOneUptoCard

/-- THE SECOND FORM's CARD OF 'bailifflaw10.PagesUnlike'. -/
def pagesUnlikeUptoCard : Claim7 := { stood := { row := pagesUnlikeUptoRow, standIns := [], harness := (true, "7b472795c2c726f51f692d275f4b594db9e9086ae0263329c2836b2db7832b9e"), looks := true }, kinds := [], alts := [], laidByText := true, laidKinds := [.data, .data, .data, .handle], laidTests := true, laidLooks := .later }
def PagesUnlikeUptoCardSaid : Prop := Claim7.holds Tryd.pinned (.plain (OpenSpec.upto pagesUnlikeSpec)) pagesUnlikeUptoCard

/-- THE SECOND FORM's CARD OF 'bailifflaw10.PagesCut'. -/
def pagesCutUptoCard : Claim7 := { stood := { row := pagesCutUptoRow, standIns := [], harness := (true, "7b472795c2c726f51f692d275f4b594db9e9086ae0263329c2836b2db7832b9e"), looks := true }, kinds := [], alts := [], laidByText := true, laidKinds := [.data, .data, .data, .handle], laidTests := true, laidLooks := .later }
def PagesCutUptoCardSaid : Prop := Claim7.holds Tryd.pinned (.plain (OpenSpec.upto pagesCutSpec)) pagesCutUptoCard

/-- THE SECOND FORM's CARD OF 'bailifflaw10.PagesSwapped'. -/
def pagesSwappedUptoCard : Claim7 := { stood := { row := pagesSwappedUptoRow, standIns := [], harness := (true, "7b472795c2c726f51f692d275f4b594db9e9086ae0263329c2836b2db7832b9e"), looks := true }, kinds := [], alts := [], laidByText := true, laidKinds := [.data, .data, .data, .handle], laidTests := true, laidLooks := .later }
def PagesSwappedUptoCardSaid : Prop := Claim7.holds Tryd.pinned (.plain (OpenSpec.upto pagesSwappedSpec)) pagesSwappedUptoCard
end Rows
end Go.Proofs.YtjohdighlhoofaaDoor
