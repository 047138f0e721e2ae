/-
  DERIVED. GIVEN WITH THE SEED: THE CARDS: each row of YtmenknflabohhaaDoorRows.lean that lists a variable, with what it lists TIED to the program's text (the seventh form; the later family's looks); each row that meets fmt, with fmt's text TOLD by the authors' own Lean function (tested against real Go, not proved from fmt's source: count such statements apart). THE CARD IS WHAT COUNTS. Prove the row's statement (the work); the ties are given (YtmenknflabohhaaDoorTie.lean); close each card by the builder's one call (the guide's Derived/Test/ToyasCard.lean, 'card_holds'). Laid BY PROGRAM, IN A SANDBOX (cutbox-door.mjs). By AI agents, Wed Nov 11 2026. No macro, syntax, notation, axiom, sorry.
-/
import Derived.Test.YtmenknflabohhaaDoorRows
import GoSem.ClaimSeven
namespace Go.Proofs.YtmenknflabohhaaDoor
namespace Rows

/-- THE TIED CARD OF 'arbiterlaw09.OverrideOrder'. -/
def overrideOrderCard : Claim7 := { stood := { row := overrideOrderRow, standIns := [], harness := (true, "647e29824d35e30f7c5b9588fdb1161ad665e949f404f23b451f7b2bbcef963d"), looks := false }, kinds := [], alts := [], laidByText := true, laidKinds := [.data, .pinned], laidTests := true, laidLooks := .later }
def OverrideOrderCardSaid : Prop := Claim7.holds Tryd.pinned (.plain (OpenSpec.ofChange overrideOrderSpec)) overrideOrderCard

/-- THE SECOND FORM's CARD OF 'arbiterlaw09.OverrideOrder'. -/
def overrideOrderUptoCard : Claim7 := { stood := { row := overrideOrderUptoRow, standIns := [], harness := (true, "647e29824d35e30f7c5b9588fdb1161ad665e949f404f23b451f7b2bbcef963d"), looks := false }, kinds := [], alts := [], laidByText := true, laidKinds := [.data, .pinned], laidTests := true, laidLooks := .later }
def OverrideOrderUptoCardSaid : Prop := Claim7.holds Tryd.pinned (.plain (OpenSpec.upto overrideOrderSpec)) overrideOrderUptoCard
end Rows
end Go.Proofs.YtmenknflabohhaaDoor
