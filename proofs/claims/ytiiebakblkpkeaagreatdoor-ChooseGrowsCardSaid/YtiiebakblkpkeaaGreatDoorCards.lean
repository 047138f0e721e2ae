/-
  DERIVED. GIVEN WITH THE SEED: THE CARDS: each row of YtiiebakblkpkeaaGreatDoorRows.lean that lists a variable, with what it lists TIED to the program's text (the seventh form; the later family's looks); each row that meets fmt, with fmt's text TOLD by the authors' own Lean function (tested against real Go, not proved from fmt's source: count such statements apart). THE CARD IS WHAT COUNTS. Prove the row's statement (the work); the ties are given (YtiiebakblkpkeaaGreatDoorTie.lean); close each card by the builder's one call (the guide's Derived/Test/ToyasCard.lean, 'card_holds'). Laid BY PROGRAM, IN A SANDBOX (cutbox-door.mjs). By AI agents, Wed Nov 11 2026. No macro, syntax, notation, axiom, sorry.
-/
import Derived.Test.YtiiebakblkpkeaaGreatDoorRows
import GoSem.ClaimSeven
namespace Go.Proofs.YtiiebakblkpkeaaGreatDoor
namespace Rows

/-- THE TIED CARD OF 'arbiterlaw12.ChooseNil'. -/
def chooseNilCard : Claim7 := { stood := { row := chooseNilRow, standIns := [], harness := (true, "4796e0a1912c2d9815085f23c358bd4ce8b0374cb884f0f9a247375e40d0ea50"), looks := false }, kinds := [], alts := [], laidByText := true, laidKinds := [.data, .pinned], laidTests := true, laidLooks := .later }
def ChooseNilCardSaid : Prop := Claim7.holds Tryz.pinned (.plain (OpenSpec.ofChange chooseNilSpec)) chooseNilCard

/-- THE TIED CARD OF 'arbiterlaw12.ChoosePrivate'. -/
def choosePrivateCard : Claim7 := { stood := { row := choosePrivateRow, standIns := [], harness := (true, "4796e0a1912c2d9815085f23c358bd4ce8b0374cb884f0f9a247375e40d0ea50"), looks := false }, kinds := [], alts := [], laidByText := true, laidKinds := [.data, .pinned], laidTests := true, laidLooks := .later }
def ChoosePrivateCardSaid : Prop := Claim7.holds Tryz.pinned (.plain (OpenSpec.ofChange choosePrivateSpec)) choosePrivateCard

/-- THE TIED CARD OF 'arbiterlaw12.ChooseSelects'. -/
def chooseSelectsCard : Claim7 := { stood := { row := chooseSelectsRow, standIns := [], harness := (true, "4796e0a1912c2d9815085f23c358bd4ce8b0374cb884f0f9a247375e40d0ea50"), looks := false }, kinds := [], alts := [], laidByText := true, laidKinds := [.data, .pinned], laidTests := true, laidLooks := .later }
def ChooseSelectsCardSaid : Prop := Claim7.holds Tryz.pinned (.plain (OpenSpec.ofChange chooseSelectsSpec)) chooseSelectsCard

/-- THE TIED CARD OF 'arbiterlaw12.ChooseAgree'. -/
def chooseAgreeCard : Claim7 := { stood := { row := chooseAgreeRow, standIns := [], harness := (true, "4796e0a1912c2d9815085f23c358bd4ce8b0374cb884f0f9a247375e40d0ea50"), looks := false }, kinds := [], alts := [], laidByText := true, laidKinds := [.data, .pinned], laidTests := true, laidLooks := .later }
def ChooseAgreeCardSaid : Prop := Claim7.holds Tryz.pinned (.plain (OpenSpec.ofChange chooseAgreeSpec)) chooseAgreeCard

/-- THE TIED CARD OF 'arbiterlaw12.ChooseWhole'. -/
def chooseWholeCard : Claim7 := { stood := { row := chooseWholeRow, standIns := [], harness := (true, "4796e0a1912c2d9815085f23c358bd4ce8b0374cb884f0f9a247375e40d0ea50"), looks := false }, kinds := [], alts := [], laidByText := true, laidKinds := [.data, .pinned], laidTests := true, laidLooks := .later }
def ChooseWholeCardSaid : Prop := Claim7.holds Tryz.pinned (.plain (OpenSpec.ofChange chooseWholeSpec)) chooseWholeCard

/-- THE TIED CARD OF 'arbiterlaw12.ChooseGrows'. -/
def chooseGrowsCard : Claim7 := { stood := { row := chooseGrowsRow, standIns := [], harness := (true, "4796e0a1912c2d9815085f23c358bd4ce8b0374cb884f0f9a247375e40d0ea50"), looks := false }, kinds := [], alts := [], laidByText := true, laidKinds := [.data, .pinned], laidTests := true, laidLooks := .later }
def ChooseGrowsCardSaid : Prop := Claim7.holds Tryz.pinned (.plain (OpenSpec.ofChange chooseGrowsSpec)) chooseGrowsCard

/-- THE SECOND FORM's CARD OF 'arbiterlaw12.ChooseNil'. -/
def chooseNilUptoCard : Claim7 := { stood := { row := chooseNilUptoRow, standIns := [], harness := (true, "4796e0a1912c2d9815085f23c358bd4ce8b0374cb884f0f9a247375e40d0ea50"), looks := false }, kinds := [], alts := [], laidByText := true, laidKinds := [.data, .pinned], laidTests := true, laidLooks := .later }
def ChooseNilUptoCardSaid : Prop := Claim7.holds Tryz.pinned (.plain (OpenSpec.upto chooseNilSpec)) chooseNilUptoCard

/-- THE SECOND FORM's CARD OF 'arbiterlaw12.ChoosePrivate'. -/
def choosePrivateUptoCard : Claim7 := { stood := { row := choosePrivateUptoRow, standIns := [], harness := (true, "4796e0a1912c2d9815085f23c358bd4ce8b0374cb884f0f9a247375e40d0ea50"), looks := false }, kinds := [], alts := [], laidByText := true, laidKinds := [.data, .pinned], laidTests := true, laidLooks := .later }
def ChoosePrivateUptoCardSaid : Prop := Claim7.holds Tryz.pinned (.plain (OpenSpec.upto choosePrivateSpec)) choosePrivateUptoCard

/-- THE SECOND FORM's CARD OF 'arbiterlaw12.ChooseSelects'. -/
def chooseSelectsUptoCard : Claim7 := { stood := { row := chooseSelectsUptoRow, standIns := [], harness := (true, "4796e0a1912c2d9815085f23c358bd4ce8b0374cb884f0f9a247375e40d0ea50"), looks := false }, kinds := [], alts := [], laidByText := true, laidKinds := [.data, .pinned], laidTests := true, laidLooks := .later }
def ChooseSelectsUptoCardSaid : Prop := Claim7.holds Tryz.pinned (.plain (OpenSpec.upto chooseSelectsSpec)) chooseSelectsUptoCard

/-- THE SECOND FORM's CARD OF 'arbiterlaw12.ChooseAgree'. -/
def chooseAgreeUptoCard : Claim7 := { stood := { row := chooseAgreeUptoRow, standIns := [], harness := (true, "4796e0a1912c2d9815085f23c358bd4ce8b0374cb884f0f9a247375e40d0ea50"), looks := false }, kinds := [], alts := [], laidByText := true, laidKinds := [.data, .pinned], laidTests := true, laidLooks := .later }
def ChooseAgreeUptoCardSaid : Prop := Claim7.holds Tryz.pinned (.plain (OpenSpec.upto chooseAgreeSpec)) chooseAgreeUptoCard

/-- THE SECOND FORM's CARD OF 'arbiterlaw12.ChooseWhole'. -/
def chooseWholeUptoCard : Claim7 := { stood := { row := chooseWholeUptoRow, standIns := [], harness := (true, "4796e0a1912c2d9815085f23c358bd4ce8b0374cb884f0f9a247375e40d0ea50"), looks := false }, kinds := [], alts := [], laidByText := true, laidKinds := [.data, .pinned], laidTests := true, laidLooks := .later }
def ChooseWholeUptoCardSaid : Prop := Claim7.holds Tryz.pinned (.plain (OpenSpec.upto chooseWholeSpec)) chooseWholeUptoCard

/-- THE SECOND FORM's CARD OF 'arbiterlaw12.ChooseGrows'. -/
def chooseGrowsUptoCard : Claim7 := { stood := { row := chooseGrowsUptoRow, standIns := [], harness := (true, "4796e0a1912c2d9815085f23c358bd4ce8b0374cb884f0f9a247375e40d0ea50"), looks := false }, kinds := [], alts := [], laidByText := true, laidKinds := [.data, .pinned], laidTests := true, laidLooks := .later }
def ChooseGrowsUptoCardSaid : Prop := Claim7.holds Tryz.pinned (.plain (OpenSpec.upto chooseGrowsSpec)) chooseGrowsUptoCard
end Rows
end Go.Proofs.YtiiebakblkpkeaaGreatDoor
