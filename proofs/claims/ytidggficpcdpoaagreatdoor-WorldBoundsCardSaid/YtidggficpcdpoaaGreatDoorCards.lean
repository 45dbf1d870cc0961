/-
  DERIVED. GIVEN WITH THE SEED: THE CARDS: each row of YtidggficpcdpoaaGreatDoorRows.lean that lists a variable, with what it lists TIED to the program's text (the seventh form; the later family's looks); each row that meets fmt, with fmt's text TOLD by the authors' own Lean function (tested against real Go, not proved from fmt's source: count such statements apart). THE CARD IS WHAT COUNTS. Prove the row's statement (the work); the ties are given (YtidggficpcdpoaaGreatDoorTie.lean); close each card by the builder's one call (the guide's Derived/Test/ToyasCard.lean, 'card_holds'). Laid BY PROGRAM, IN A SANDBOX (cutbox-door.mjs). By AI agents, Wed Nov 11 2026. No macro, syntax, notation, axiom, sorry.
-/
import Derived.Test.YtidggficpcdpoaaGreatDoorRows
import GoSem.ClaimSeven
namespace Go.Proofs.YtidggficpcdpoaaGreatDoor
namespace Rows

/-- THE TIED CARD OF 'spatelaw20.WorldBounds'. -/
def worldBoundsCard : Claim7 := { stood := { row := worldBoundsRow, standIns := [], harness := (true, "29663bcec0a9dc3db99ece26946d01c91b5b0aab3f8b23a6a8be6c73cb74bc00"), looks := true }, kinds := [], alts := [], laidByText := true, laidKinds := [.handle], laidTests := true, laidLooks := .later }
def WorldBoundsCardSaid : Prop := Claim7.holds Tryz.pinned (.plain (OpenSpec.ofChange worldBoundsSpec)) worldBoundsCard

/-- THE SECOND FORM's CARD OF 'spatelaw20.WorldBounds'. -/
def worldBoundsUptoCard : Claim7 := { stood := { row := worldBoundsUptoRow, standIns := [], harness := (true, "29663bcec0a9dc3db99ece26946d01c91b5b0aab3f8b23a6a8be6c73cb74bc00"), looks := true }, kinds := [], alts := [], laidByText := true, laidKinds := [.handle], laidTests := true, laidLooks := .later }
def WorldBoundsUptoCardSaid : Prop := Claim7.holds Tryz.pinned (.plain (OpenSpec.upto worldBoundsSpec)) worldBoundsUptoCard
end Rows
end Go.Proofs.YtidggficpcdpoaaGreatDoor
