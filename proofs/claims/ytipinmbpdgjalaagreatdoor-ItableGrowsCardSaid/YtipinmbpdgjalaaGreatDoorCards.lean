/-
  DERIVED. GIVEN WITH THE SEED: THE CARDS: each row of YtipinmbpdgjalaaGreatDoorRows.lean that lists a variable, with what it lists TIED to the program's text (the seventh form; the later family's looks); each row that meets fmt, with fmt's text TOLD by the authors' own Lean function (tested against real Go, not proved from fmt's source: count such statements apart). THE CARD IS WHAT COUNTS. Prove the row's statement (the work); the ties are given (YtipinmbpdgjalaaGreatDoorTie.lean); close each card by the builder's one call (the guide's Derived/Test/ToyasCard.lean, 'card_holds'). Laid BY PROGRAM, IN A SANDBOX (cutbox-door.mjs). By AI agents, Wed Nov 11 2026. No macro, syntax, notation, axiom, sorry.
-/
import Derived.Test.YtipinmbpdgjalaaGreatDoorRows
import GoSem.ClaimSeven
namespace Go.Proofs.YtipinmbpdgjalaaGreatDoor
namespace Rows

/-- THE TIED CARD OF 'arbiterlaw13.VtableGrows'. -/
def vtableGrowsCard : Claim7 := { stood := { row := vtableGrowsRow, standIns := [], harness := (true, "37f43d693f08becc5df17f293ad00f4f2b6b5e2767a360671082a90782d449c1"), looks := false }, kinds := [], alts := [], laidByText := true, laidKinds := [.data, .pinned], laidTests := true, laidLooks := .later }
def VtableGrowsCardSaid : Prop := Claim7.holds Tryz.pinned (.plain (OpenSpec.ofChange vtableGrowsSpec)) vtableGrowsCard

/-- THE TIED CARD OF 'arbiterlaw13.VtableOwn'. -/
def vtableOwnCard : Claim7 := { stood := { row := vtableOwnRow, standIns := [], harness := (true, "37f43d693f08becc5df17f293ad00f4f2b6b5e2767a360671082a90782d449c1"), looks := false }, kinds := [], alts := [], laidByText := true, laidKinds := [.data, .pinned], laidTests := true, laidLooks := .later }
def VtableOwnCardSaid : Prop := Claim7.holds Tryz.pinned (.plain (OpenSpec.ofChange vtableOwnSpec)) vtableOwnCard

/-- THE TIED CARD OF 'arbiterlaw13.VtableFirst'. -/
def vtableFirstCard : Claim7 := { stood := { row := vtableFirstRow, standIns := [], harness := (true, "37f43d693f08becc5df17f293ad00f4f2b6b5e2767a360671082a90782d449c1"), looks := false }, kinds := [], alts := [], laidByText := true, laidKinds := [.data, .pinned], laidTests := true, laidLooks := .later }
def VtableFirstCardSaid : Prop := Claim7.holds Tryz.pinned (.plain (OpenSpec.ofChange vtableFirstSpec)) vtableFirstCard

/-- THE TIED CARD OF 'arbiterlaw14.ItableDefaults'. -/
def itableDefaultsCard : Claim7 := { stood := { row := itableDefaultsRow, standIns := [], harness := (true, "37f43d693f08becc5df17f293ad00f4f2b6b5e2767a360671082a90782d449c1"), looks := false }, kinds := [], alts := [], laidByText := true, laidKinds := [.data, .pinned], laidTests := true, laidLooks := .later }
def ItableDefaultsCardSaid : Prop := Claim7.holds Tryz.pinned (.plain (OpenSpec.ofChange itableDefaultsSpec)) itableDefaultsCard

/-- THE TIED CARD OF 'arbiterlaw14.ItableGrows'. -/
def itableGrowsCard : Claim7 := { stood := { row := itableGrowsRow, standIns := [], harness := (true, "37f43d693f08becc5df17f293ad00f4f2b6b5e2767a360671082a90782d449c1"), looks := false }, kinds := [], alts := [], laidByText := true, laidKinds := [.data, .pinned], laidTests := true, laidLooks := .later }
def ItableGrowsCardSaid : Prop := Claim7.holds Tryz.pinned (.plain (OpenSpec.ofChange itableGrowsSpec)) itableGrowsCard

/-- THE TIED CARD OF 'arbiterlaw14.ItableSays'. -/
def itableSaysCard : Claim7 := { stood := { row := itableSaysRow, standIns := [], harness := (true, "37f43d693f08becc5df17f293ad00f4f2b6b5e2767a360671082a90782d449c1"), looks := false }, kinds := [], alts := [], laidByText := true, laidKinds := [.data, .pinned], laidTests := true, laidLooks := .later }
def ItableSaysCardSaid : Prop := Claim7.holds Tryz.pinned (.plain (OpenSpec.ofChange itableSaysSpec)) itableSaysCard

/-- THE SECOND FORM's CARD OF 'arbiterlaw13.VtableGrows'. -/
def vtableGrowsUptoCard : Claim7 := { stood := { row := vtableGrowsUptoRow, standIns := [], harness := (true, "37f43d693f08becc5df17f293ad00f4f2b6b5e2767a360671082a90782d449c1"), looks := false }, kinds := [], alts := [], laidByText := true, laidKinds := [.data, .pinned], laidTests := true, laidLooks := .later }
def VtableGrowsUptoCardSaid : Prop := Claim7.holds Tryz.pinned (.plain (OpenSpec.upto vtableGrowsSpec)) vtableGrowsUptoCard

/-- THE SECOND FORM's CARD OF 'arbiterlaw13.VtableOwn'. -/
def vtableOwnUptoCard : Claim7 := { stood := { row := vtableOwnUptoRow, standIns := [], harness := (true, "37f43d693f08becc5df17f293ad00f4f2b6b5e2767a360671082a90782d449c1"), looks := false }, kinds := [], alts := [], laidByText := true, laidKinds := [.data, .pinned], laidTests := true, laidLooks := .later }
def VtableOwnUptoCardSaid : Prop := Claim7.holds Tryz.pinned (.plain (OpenSpec.upto vtableOwnSpec)) vtableOwnUptoCard

/-- THE SECOND FORM's CARD OF 'arbiterlaw13.VtableFirst'. -/
def vtableFirstUptoCard : Claim7 := { stood := { row := vtableFirstUptoRow, standIns := [], harness := (true, "37f43d693f08becc5df17f293ad00f4f2b6b5e2767a360671082a90782d449c1"), looks := false }, kinds := [], alts := [], laidByText := true, laidKinds := [.data, .pinned], laidTests := true, laidLooks := .later }
def VtableFirstUptoCardSaid : Prop := Claim7.holds Tryz.pinned (.plain (OpenSpec.upto vtableFirstSpec)) vtableFirstUptoCard

/-- THE SECOND FORM's CARD OF 'arbiterlaw14.ItableDefaults'. -/
def itableDefaultsUptoCard : Claim7 := { stood := { row := itableDefaultsUptoRow, standIns := [], harness := (true, "37f43d693f08becc5df17f293ad00f4f2b6b5e2767a360671082a90782d449c1"), looks := false }, kinds := [], alts := [], laidByText := true, laidKinds := [.data, .pinned], laidTests := true, laidLooks := .later }
def ItableDefaultsUptoCardSaid : Prop := Claim7.holds Tryz.pinned (.plain (OpenSpec.upto itableDefaultsSpec)) itableDefaultsUptoCard

/-- THE SECOND FORM's CARD OF 'arbiterlaw14.ItableGrows'. -/
def itableGrowsUptoCard : Claim7 := { stood := { row := itableGrowsUptoRow, standIns := [], harness := (true, "37f43d693f08becc5df17f293ad00f4f2b6b5e2767a360671082a90782d449c1"), looks := false }, kinds := [], alts := [], laidByText := true, laidKinds := [.data, .pinned], laidTests := true, laidLooks := .later }
def ItableGrowsUptoCardSaid : Prop := Claim7.holds Tryz.pinned (.plain (OpenSpec.upto itableGrowsSpec)) itableGrowsUptoCard

/-- THE SECOND FORM's CARD OF 'arbiterlaw14.ItableSays'. -/
def itableSaysUptoCard : Claim7 := { stood := { row := itableSaysUptoRow, standIns := [], harness := (true, "37f43d693f08becc5df17f293ad00f4f2b6b5e2767a360671082a90782d449c1"), looks := false }, kinds := [], alts := [], laidByText := true, laidKinds := [.data, .pinned], laidTests := true, laidLooks := .later }
def ItableSaysUptoCardSaid : Prop := Claim7.holds Tryz.pinned (.plain (OpenSpec.upto itableSaysSpec)) itableSaysUptoCard
end Rows
end Go.Proofs.YtipinmbpdgjalaaGreatDoor
