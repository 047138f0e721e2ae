/-
  DERIVED. GIVEN WITH THE SEED: THE CARDS: each row of YtmenknflabohhaaGreatDoorRows.lean that lists a variable, with what it lists TIED to the program's text (the seventh form; the later family's looks); each row that meets fmt, with fmt's text TOLD by the authors' own Lean function (tested against real Go, not proved from fmt's source: count such statements apart). THE CARD IS WHAT COUNTS. Prove the row's statement (the work); the ties are given (YtmenknflabohhaaGreatDoorTie.lean); close each card by the builder's one call (the guide's Derived/Test/ToyasCard.lean, 'card_holds'). Laid BY PROGRAM, IN A SANDBOX (cutbox-door.mjs). By AI agents, Wed Nov 11 2026. No macro, syntax, notation, axiom, sorry.
-/
import Derived.Test.YtmenknflabohhaaGreatDoorRows
import GoSem.ClaimSeven
namespace Go.Proofs.YtmenknflabohhaaGreatDoor
namespace Rows

/-- THE TIED CARD OF 'arbiterlaw09.OverrideGrows'. -/
def overrideGrowsCard : Claim7 := { stood := { row := overrideGrowsRow, standIns := [], harness := (true, "6226c2ab34c28b3c65a71c7d012de31fbb86c9f235429539e29b9b83c84cc8f2"), looks := false }, kinds := [], alts := [], laidByText := true, laidKinds := [.data, .pinned], laidTests := true, laidLooks := .later }
def OverrideGrowsCardSaid : Prop := Claim7.holds Tryz.pinned (.plain (OpenSpec.ofChange overrideGrowsSpec)) overrideGrowsCard

/-- THE TIED CARD OF 'arbiterlaw09.OverrideSeen'. -/
def overrideSeenCard : Claim7 := { stood := { row := overrideSeenRow, standIns := [], harness := (true, "6226c2ab34c28b3c65a71c7d012de31fbb86c9f235429539e29b9b83c84cc8f2"), looks := false }, kinds := [], alts := [], laidByText := true, laidKinds := [.data, .pinned], laidTests := true, laidLooks := .later }
def OverrideSeenCardSaid : Prop := Claim7.holds Tryz.pinned (.plain (OpenSpec.ofChange overrideSeenSpec)) overrideSeenCard

/-- THE SECOND FORM's CARD OF 'arbiterlaw09.OverrideGrows'. -/
def overrideGrowsUptoCard : Claim7 := { stood := { row := overrideGrowsUptoRow, standIns := [], harness := (true, "6226c2ab34c28b3c65a71c7d012de31fbb86c9f235429539e29b9b83c84cc8f2"), looks := false }, kinds := [], alts := [], laidByText := true, laidKinds := [.data, .pinned], laidTests := true, laidLooks := .later }
def OverrideGrowsUptoCardSaid : Prop := Claim7.holds Tryz.pinned (.plain (OpenSpec.upto overrideGrowsSpec)) overrideGrowsUptoCard

/-- THE SECOND FORM's CARD OF 'arbiterlaw09.OverrideSeen'. -/
def overrideSeenUptoCard : Claim7 := { stood := { row := overrideSeenUptoRow, standIns := [], harness := (true, "6226c2ab34c28b3c65a71c7d012de31fbb86c9f235429539e29b9b83c84cc8f2"), looks := false }, kinds := [], alts := [], laidByText := true, laidKinds := [.data, .pinned], laidTests := true, laidLooks := .later }
def OverrideSeenUptoCardSaid : Prop := Claim7.holds Tryz.pinned (.plain (OpenSpec.upto overrideSeenSpec)) overrideSeenUptoCard
end Rows
end Go.Proofs.YtmenknflabohhaaGreatDoor
