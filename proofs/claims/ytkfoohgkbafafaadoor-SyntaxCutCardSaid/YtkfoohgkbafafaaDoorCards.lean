/-
  DERIVED. GIVEN WITH THE SEED: THE CARDS: each row of YtkfoohgkbafafaaDoorRows.lean that lists a variable, with what it lists TIED to the program's text (the seventh form; the later family's looks); each row that meets fmt, with fmt's text TOLD by the authors' own Lean function (tested against real Go, not proved from fmt's source: count such statements apart). THE CARD IS WHAT COUNTS. Prove the row's statement (the work); the ties are given (YtkfoohgkbafafaaDoorTie.lean); close each card by the builder's one call (the guide's Derived/Test/ToyasCard.lean, 'card_holds'). Laid BY PROGRAM, IN A SANDBOX (cutbox-door.mjs). By AI agents, Wed Nov 11 2026. No macro, syntax, notation, axiom, sorry.
-/
import Derived.Test.YtkfoohgkbafafaaDoorRows
import GoSem.ClaimSeven
namespace Go.Proofs.YtkfoohgkbafafaaDoor
namespace Rows

/-- THE TIED CARD OF 'bailifflaw04.SyntaxBack'. -/
def syntaxBackCard : Claim7 := { stood := { row := syntaxBackRow, standIns := [], harness := (true, "d9891ee51bacefb946f8fb07db228df7cf0b5b7c59f8733e75ccdd3ca70b1d24"), looks := true }, kinds := [], alts := [], laidByText := true, laidKinds := [.handle], laidTests := true, laidLooks := .later }
def SyntaxBackCardSaid : Prop := Claim7.holds Tryd.pinned (.plain (OpenSpec.ofChange syntaxBackSpec)) syntaxBackCard

/-- THE TIED CARD OF 'bailifflaw04.SyntaxBrackets'. -/
def syntaxBracketsCard : Claim7 := { stood := { row := syntaxBracketsRow, standIns := [], harness := (true, "d9891ee51bacefb946f8fb07db228df7cf0b5b7c59f8733e75ccdd3ca70b1d24"), looks := true }, kinds := [], alts := [], laidByText := true, laidKinds := [.handle], laidTests := true, laidLooks := .later }
def SyntaxBracketsCardSaid : Prop := Claim7.holds Tryd.pinned (.plain (OpenSpec.ofChange syntaxBracketsSpec)) syntaxBracketsCard

/-- THE TIED CARD OF 'bailifflaw04.SyntaxCut'. -/
def syntaxCutCard : Claim7 := { stood := { row := syntaxCutRow, standIns := [], harness := (true, "d9891ee51bacefb946f8fb07db228df7cf0b5b7c59f8733e75ccdd3ca70b1d24"), looks := true }, kinds := [], alts := [], laidByText := true, laidKinds := [.handle], laidTests := true, laidLooks := .later }
def SyntaxCutCardSaid : Prop := Claim7.holds Tryd.pinned (.plain (OpenSpec.ofChange syntaxCutSpec)) syntaxCutCard

/-- THE SECOND FORM's CARD OF 'bailifflaw04.SyntaxBack'. -/
def syntaxBackUptoCard : Claim7 := { stood := { row := syntaxBackUptoRow, standIns := [], harness := (true, "d9891ee51bacefb946f8fb07db228df7cf0b5b7c59f8733e75ccdd3ca70b1d24"), looks := true }, kinds := [], alts := [], laidByText := true, laidKinds := [.handle], laidTests := true, laidLooks := .later }
def SyntaxBackUptoCardSaid : Prop := Claim7.holds Tryd.pinned (.plain (OpenSpec.upto syntaxBackSpec)) syntaxBackUptoCard

/-- THE SECOND FORM's CARD OF 'bailifflaw04.SyntaxBrackets'. -/
def syntaxBracketsUptoCard : Claim7 := { stood := { row := syntaxBracketsUptoRow, standIns := [], harness := (true, "d9891ee51bacefb946f8fb07db228df7cf0b5b7c59f8733e75ccdd3ca70b1d24"), looks := true }, kinds := [], alts := [], laidByText := true, laidKinds := [.handle], laidTests := true, laidLooks := .later }
def SyntaxBracketsUptoCardSaid : Prop := Claim7.holds Tryd.pinned (.plain (OpenSpec.upto syntaxBracketsSpec)) syntaxBracketsUptoCard

/-- THE SECOND FORM's CARD OF 'bailifflaw04.SyntaxCut'. -/
def syntaxCutUptoCard : Claim7 := { stood := { row := syntaxCutUptoRow, standIns := [], harness := (true, "d9891ee51bacefb946f8fb07db228df7cf0b5b7c59f8733e75ccdd3ca70b1d24"), looks := true }, kinds := [], alts := [], laidByText := true, laidKinds := [.handle], laidTests := true, laidLooks := .later }
def SyntaxCutUptoCardSaid : Prop := Claim7.holds Tryd.pinned (.plain (OpenSpec.upto syntaxCutSpec)) syntaxCutUptoCard
end Rows
end Go.Proofs.YtkfoohgkbafafaaDoor
