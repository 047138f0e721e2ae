/-
  DERIVED. GIVEN WITH THE SEED: THE CARDS: each row of YtmpkdgankficeaaDoorRows.lean that lists a variable, with what it lists TIED to the program's text (the seventh form; the later family's looks); each row that meets fmt, with fmt's text TOLD by the authors' own Lean function (tested against real Go, not proved from fmt's source: count such statements apart). THE CARD IS WHAT COUNTS. Prove the row's statement (the work); the ties are given (YtmpkdgankficeaaDoorTie.lean); close each card by the builder's one call (the guide's Derived/Test/ToyasCard.lean, 'card_holds'). Laid BY PROGRAM, IN A SANDBOX (cutbox-door.mjs). By AI agents, Wed Nov 11 2026. No macro, syntax, notation, axiom, sorry.
-/
import Derived.Test.YtmpkdgankficeaaDoorRows
import GoSem.ClaimSeven
namespace Go.Proofs.YtmpkdgankficeaaDoor
namespace Rows

/-- THE TIED CARD OF 'arbiterlaw06.HierClosure'. -/
def hierClosureCard : Claim7 := { stood := { row := hierClosureRow, standIns := [], harness := (true, "b2ad066807201e346216f07425c19eb278f9ed2ccc28df7c63efa572661c520b"), looks := false }, kinds := [], alts := [], laidByText := true, laidKinds := [.data, .pinned], laidTests := true, laidLooks := .later }
def HierClosureCardSaid : Prop := Claim7.holds Tryd.pinned (.plain (OpenSpec.ofChange hierClosureSpec)) hierClosureCard

/-- THE TIED CARD OF 'arbiterlaw06.HierGrows'. -/
def hierGrowsCard : Claim7 := { stood := { row := hierGrowsRow, standIns := [], harness := (true, "b2ad066807201e346216f07425c19eb278f9ed2ccc28df7c63efa572661c520b"), looks := false }, kinds := [], alts := [], laidByText := true, laidKinds := [.data, .pinned], laidTests := true, laidLooks := .later }
def HierGrowsCardSaid : Prop := Claim7.holds Tryd.pinned (.plain (OpenSpec.ofChange hierGrowsSpec)) hierGrowsCard

/-- THE TIED CARD OF 'arbiterlaw06.HierOrder'. -/
def hierOrderCard : Claim7 := { stood := { row := hierOrderRow, standIns := [], harness := (true, "b2ad066807201e346216f07425c19eb278f9ed2ccc28df7c63efa572661c520b"), looks := false }, kinds := [], alts := [], laidByText := true, laidKinds := [.data, .pinned], laidTests := true, laidLooks := .later }
def HierOrderCardSaid : Prop := Claim7.holds Tryd.pinned (.plain (OpenSpec.ofChange hierOrderSpec)) hierOrderCard

/-- THE TIED CARD OF 'arbiterlaw10.MaxspecMost'. -/
def maxspecMostCard : Claim7 := { stood := { row := maxspecMostRow, standIns := [], harness := (true, "b2ad066807201e346216f07425c19eb278f9ed2ccc28df7c63efa572661c520b"), looks := false }, kinds := [], alts := [], laidByText := true, laidKinds := [.data, .pinned], laidTests := true, laidLooks := .later }
def MaxspecMostCardSaid : Prop := Claim7.holds Tryd.pinned (.plain (OpenSpec.ofChange maxspecMostSpec)) maxspecMostCard

/-- THE TIED CARD OF 'arbiterlaw10.MaxspecBelow'. -/
def maxspecBelowCard : Claim7 := { stood := { row := maxspecBelowRow, standIns := [], harness := (true, "b2ad066807201e346216f07425c19eb278f9ed2ccc28df7c63efa572661c520b"), looks := false }, kinds := [], alts := [], laidByText := true, laidKinds := [.data, .pinned], laidTests := true, laidLooks := .later }
def MaxspecBelowCardSaid : Prop := Claim7.holds Tryd.pinned (.plain (OpenSpec.ofChange maxspecBelowSpec)) maxspecBelowCard

/-- THE SECOND FORM's CARD OF 'arbiterlaw06.HierClosure'. -/
def hierClosureUptoCard : Claim7 := { stood := { row := hierClosureUptoRow, standIns := [], harness := (true, "b2ad066807201e346216f07425c19eb278f9ed2ccc28df7c63efa572661c520b"), looks := false }, kinds := [], alts := [], laidByText := true, laidKinds := [.data, .pinned], laidTests := true, laidLooks := .later }
def HierClosureUptoCardSaid : Prop := Claim7.holds Tryd.pinned (.plain (OpenSpec.upto hierClosureSpec)) hierClosureUptoCard

/-- THE SECOND FORM's CARD OF 'arbiterlaw06.HierGrows'. -/
def hierGrowsUptoCard : Claim7 := { stood := { row := hierGrowsUptoRow, standIns := [], harness := (true, "b2ad066807201e346216f07425c19eb278f9ed2ccc28df7c63efa572661c520b"), looks := false }, kinds := [], alts := [], laidByText := true, laidKinds := [.data, .pinned], laidTests := true, laidLooks := .later }
def HierGrowsUptoCardSaid : Prop := Claim7.holds Tryd.pinned (.plain (OpenSpec.upto hierGrowsSpec)) hierGrowsUptoCard

/-- THE SECOND FORM's CARD OF 'arbiterlaw06.HierOrder'. -/
def hierOrderUptoCard : Claim7 := { stood := { row := hierOrderUptoRow, standIns := [], harness := (true, "b2ad066807201e346216f07425c19eb278f9ed2ccc28df7c63efa572661c520b"), looks := false }, kinds := [], alts := [], laidByText := true, laidKinds := [.data, .pinned], laidTests := true, laidLooks := .later }
def HierOrderUptoCardSaid : Prop := Claim7.holds Tryd.pinned (.plain (OpenSpec.upto hierOrderSpec)) hierOrderUptoCard

/-- THE SECOND FORM's CARD OF 'arbiterlaw10.MaxspecMost'. -/
def maxspecMostUptoCard : Claim7 := { stood := { row := maxspecMostUptoRow, standIns := [], harness := (true, "b2ad066807201e346216f07425c19eb278f9ed2ccc28df7c63efa572661c520b"), looks := false }, kinds := [], alts := [], laidByText := true, laidKinds := [.data, .pinned], laidTests := true, laidLooks := .later }
def MaxspecMostUptoCardSaid : Prop := Claim7.holds Tryd.pinned (.plain (OpenSpec.upto maxspecMostSpec)) maxspecMostUptoCard

/-- THE SECOND FORM's CARD OF 'arbiterlaw10.MaxspecBelow'. -/
def maxspecBelowUptoCard : Claim7 := { stood := { row := maxspecBelowUptoRow, standIns := [], harness := (true, "b2ad066807201e346216f07425c19eb278f9ed2ccc28df7c63efa572661c520b"), looks := false }, kinds := [], alts := [], laidByText := true, laidKinds := [.data, .pinned], laidTests := true, laidLooks := .later }
def MaxspecBelowUptoCardSaid : Prop := Claim7.holds Tryd.pinned (.plain (OpenSpec.upto maxspecBelowSpec)) maxspecBelowUptoCard
end Rows
end Go.Proofs.YtmpkdgankficeaaDoor
