/-
  DERIVED. GIVEN WITH THE SEED: THE PROGRAM's TIES (one call each: nine closed facts by the kernel) AND EACH ROW's TIE, after the 31st guide's Derived/Test/Toyas{Tie, Card}.lean. No idea stands in it: it is a product of the set-up. Laid BY PROGRAM, IN A SANDBOX (cutbox-door.mjs). By AI agents, Wed Nov 11 2026. No macro, syntax, notation, axiom, sorry.
-/
import Derived.Test.YtdhjpnacjnkbgaaGreatDoorRows
import Derived.LaidByTextLater
import Derived.SevenTiedAt
import Derived.LaidSub
import Derived.LaidOnce
namespace Go.Proofs.YtdhjpnacjnkbgaaGreatDoor
open Go
set_option maxRecDepth 100000
theorem seatTie1 : Tryz.prog.laidByTextLater [("math/bits.deBruijn64tab", Rows.laid_math_bits_deBruijn64tab), ("errors.errorType", Rows.laid_errors_errorType)] [.data, .handle] true :=
  Program.laidByTextLater_by_one 21 8 65 (by kernel_rfl) (by kernel_rfl) (by kernel_rfl) (by kernel_rfl) (by kernel_rfl) (by kernel_rfl) (fun _ _ => by kernel_rfl)
theorem noOwnUnsafe : Tryz.pinned.checked.prog.headLifts.contains "ownunsafe" = false := by kernel_rfl
theorem tie : Tryz.prog.laidByTextLater [("math/bits.deBruijn64tab", Rows.laid_math_bits_deBruijn64tab), ("errors.errorType", Rows.laid_errors_errorType)] [.data, .handle] true :=
  Program.laidByTextLater.sub seatTie1 ["math/bits.deBruijn64tab", "errors.errorType"] (by kernel_rfl) (by kernel_rfl)
theorem topShared_row_tie : Rows.topSharedRow.laidByTextAt .later Tryz.pinned [.data, .handle] true :=
  OpenClaim.laidByTextAt_later rfl rfl tie noOwnUnsafe
theorem topRaised_row_tie : Rows.topRaisedRow.laidByTextAt .later Tryz.pinned [.data, .handle] true :=
  OpenClaim.laidByTextAt_later rfl rfl tie noOwnUnsafe
theorem topForced_row_tie : Rows.topForcedRow.laidByTextAt .later Tryz.pinned [.data, .handle] true :=
  OpenClaim.laidByTextAt_later rfl rfl tie noOwnUnsafe
theorem topPlayed_row_tie : Rows.topPlayedRow.laidByTextAt .later Tryz.pinned [.data, .handle] true :=
  OpenClaim.laidByTextAt_later rfl rfl tie noOwnUnsafe
theorem topAgain_row_tie : Rows.topAgainRow.laidByTextAt .later Tryz.pinned [.data, .handle] true :=
  OpenClaim.laidByTextAt_later rfl rfl tie noOwnUnsafe
theorem topEnds_row_tie : Rows.topEndsRow.laidByTextAt .later Tryz.pinned [.data, .handle] true :=
  OpenClaim.laidByTextAt_later rfl rfl tie noOwnUnsafe
theorem topMixed_row_tie : Rows.topMixedRow.laidByTextAt .later Tryz.pinned [.data, .handle] true :=
  OpenClaim.laidByTextAt_later rfl rfl tie noOwnUnsafe
theorem topEvidence_row_tie : Rows.topEvidenceRow.laidByTextAt .later Tryz.pinned [.data, .handle] true :=
  OpenClaim.laidByTextAt_later rfl rfl tie noOwnUnsafe
theorem topSharedUpto_row_tie : Rows.topSharedUptoRow.laidByTextAt .later Tryz.pinned [.data, .handle] true :=
  OpenClaim.laidByTextAt_later rfl rfl tie noOwnUnsafe
theorem topRaisedUpto_row_tie : Rows.topRaisedUptoRow.laidByTextAt .later Tryz.pinned [.data, .handle] true :=
  OpenClaim.laidByTextAt_later rfl rfl tie noOwnUnsafe
theorem topForcedUpto_row_tie : Rows.topForcedUptoRow.laidByTextAt .later Tryz.pinned [.data, .handle] true :=
  OpenClaim.laidByTextAt_later rfl rfl tie noOwnUnsafe
theorem topPlayedUpto_row_tie : Rows.topPlayedUptoRow.laidByTextAt .later Tryz.pinned [.data, .handle] true :=
  OpenClaim.laidByTextAt_later rfl rfl tie noOwnUnsafe
theorem topAgainUpto_row_tie : Rows.topAgainUptoRow.laidByTextAt .later Tryz.pinned [.data, .handle] true :=
  OpenClaim.laidByTextAt_later rfl rfl tie noOwnUnsafe
theorem topEndsUpto_row_tie : Rows.topEndsUptoRow.laidByTextAt .later Tryz.pinned [.data, .handle] true :=
  OpenClaim.laidByTextAt_later rfl rfl tie noOwnUnsafe
theorem topMixedUpto_row_tie : Rows.topMixedUptoRow.laidByTextAt .later Tryz.pinned [.data, .handle] true :=
  OpenClaim.laidByTextAt_later rfl rfl tie noOwnUnsafe
theorem topEvidenceUpto_row_tie : Rows.topEvidenceUptoRow.laidByTextAt .later Tryz.pinned [.data, .handle] true :=
  OpenClaim.laidByTextAt_later rfl rfl tie noOwnUnsafe
end Go.Proofs.YtdhjpnacjnkbgaaGreatDoor
