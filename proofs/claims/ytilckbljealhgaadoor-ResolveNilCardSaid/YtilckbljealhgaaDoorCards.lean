/-
  DERIVED. GIVEN WITH THE SEED: THE CARDS: each row of YtilckbljealhgaaDoorRows.lean that lists a variable, with what it lists TIED to the program's text (the seventh form; the later family's looks); each row that meets fmt, with fmt's text TOLD by the authors' own Lean function (tested against real Go, not proved from fmt's source: count such statements apart). THE CARD IS WHAT COUNTS. Prove the row's statement (the work); the ties are given (YtilckbljealhgaaDoorTie.lean); close each card by the builder's one call (the guide's Derived/Test/ToyasCard.lean, 'card_holds'). Laid BY PROGRAM, IN A SANDBOX (cutbox-door.mjs). By AI agents, Wed Nov 11 2026. No macro, syntax, notation, axiom, sorry.
-/
import Derived.Test.YtilckbljealhgaaDoorRows
import GoSem.ClaimSeven
namespace Go.Proofs.YtilckbljealhgaaDoor
namespace Rows

/-- THE TIED CARD OF 'arbiterlaw11.ResolveNil'. -/
def resolveNilCard : Claim7 := { stood := { row := resolveNilRow, standIns := [], harness := (true, "db9bb032b75683865b9142e9a0f2c927b43020d9fcfc465b59359ceedf00dc05"), looks := false }, kinds := [], alts := [], laidByText := true, laidKinds := [.data, .pinned], laidTests := true, laidLooks := .later }
def ResolveNilCardSaid : Prop := Claim7.holds Tryd.pinned (.plain (OpenSpec.ofChange resolveNilSpec)) resolveNilCard

/-- THE SECOND FORM's CARD OF 'arbiterlaw11.ResolveNil'. -/
def resolveNilUptoCard : Claim7 := { stood := { row := resolveNilUptoRow, standIns := [], harness := (true, "db9bb032b75683865b9142e9a0f2c927b43020d9fcfc465b59359ceedf00dc05"), looks := false }, kinds := [], alts := [], laidByText := true, laidKinds := [.data, .pinned], laidTests := true, laidLooks := .later }
def ResolveNilUptoCardSaid : Prop := Claim7.holds Tryd.pinned (.plain (OpenSpec.upto resolveNilSpec)) resolveNilUptoCard
end Rows
end Go.Proofs.YtilckbljealhgaaDoor
