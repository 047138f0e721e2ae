/-
  DERIVED. GIVEN WITH THE SEED: THE CARDS: each row of YtilckbljealhgaaGreatDoorRows.lean that lists a variable, with what it lists TIED to the program's text (the seventh form; the later family's looks); each row that meets fmt, with fmt's text TOLD by the authors' own Lean function (tested against real Go, not proved from fmt's source: count such statements apart). THE CARD IS WHAT COUNTS. Prove the row's statement (the work); the ties are given (YtilckbljealhgaaGreatDoorTie.lean); close each card by the builder's one call (the guide's Derived/Test/ToyasCard.lean, 'card_holds'). Laid BY PROGRAM, IN A SANDBOX (cutbox-door.mjs). By AI agents, Wed Nov 11 2026. No macro, syntax, notation, axiom, sorry.
-/
import Derived.Test.YtilckbljealhgaaGreatDoorRows
import GoSem.ClaimSeven
namespace Go.Proofs.YtilckbljealhgaaGreatDoor
namespace Rows

/-- THE TIED CARD OF 'arbiterlaw11.ResolveNearest'. -/
def resolveNearestCard : Claim7 := { stood := { row := resolveNearestRow, standIns := [], harness := (true, "52d7edae6c672a1c5c3852c1a72c891e0578d67fdd9f65b270b0eb06f36dff8d"), looks := false }, kinds := [], alts := [], laidByText := true, laidKinds := [.data, .pinned], laidTests := true, laidLooks := .later }
def ResolveNearestCardSaid : Prop := Claim7.holds Tryz.pinned (.plain (OpenSpec.ofChange resolveNearestSpec)) resolveNearestCard

/-- THE SECOND FORM's CARD OF 'arbiterlaw11.ResolveNearest'. -/
def resolveNearestUptoCard : Claim7 := { stood := { row := resolveNearestUptoRow, standIns := [], harness := (true, "52d7edae6c672a1c5c3852c1a72c891e0578d67fdd9f65b270b0eb06f36dff8d"), looks := false }, kinds := [], alts := [], laidByText := true, laidKinds := [.data, .pinned], laidTests := true, laidLooks := .later }
def ResolveNearestUptoCardSaid : Prop := Claim7.holds Tryz.pinned (.plain (OpenSpec.upto resolveNearestSpec)) resolveNearestUptoCard
end Rows
end Go.Proofs.YtilckbljealhgaaGreatDoor
