/-
  DERIVED. GIVEN WITH THE SEED: THE CARDS: each row of YtmpphhkbjmjomaaGreatDoorRows.lean that lists a variable, with what it lists TIED to the program's text (the seventh form; the later family's looks); each row that meets fmt, with fmt's text TOLD by the authors' own Lean function (tested against real Go, not proved from fmt's source: count such statements apart). THE CARD IS WHAT COUNTS. Prove the row's statement (the work); the ties are given (YtmpphhkbjmjomaaGreatDoorTie.lean); close each card by the builder's one call (the guide's Derived/Test/ToyasCard.lean, 'card_holds'). Laid BY PROGRAM, IN A SANDBOX (cutbox-door.mjs). By AI agents, Wed Nov 11 2026. No macro, syntax, notation, axiom, sorry.
-/
import Derived.Test.YtmpphhkbjmjomaaGreatDoorRows
import GoSem.ClaimSeven
namespace Go.Proofs.YtmpphhkbjmjomaaGreatDoor
namespace Rows

/-- THE TIED CARD OF 'arbiterlaw11.ResolveSound'. -/
def resolveSoundCard : Claim7 := { stood := { row := resolveSoundRow, standIns := [], harness := (true, "d9bf5cbef35f6bd6706ad9f22b91e950600e946d724bf8e2156e4ea1faf15e7c"), looks := false }, kinds := [], alts := [], laidByText := true, laidKinds := [.data, .pinned], laidTests := true, laidLooks := .later }
def ResolveSoundCardSaid : Prop := Claim7.holds Tryz.pinned (.plain (OpenSpec.ofChange resolveSoundSpec)) resolveSoundCard

/-- THE TIED CARD OF 'arbiterlaw11.ResolveGrows'. -/
def resolveGrowsCard : Claim7 := { stood := { row := resolveGrowsRow, standIns := [], harness := (true, "d9bf5cbef35f6bd6706ad9f22b91e950600e946d724bf8e2156e4ea1faf15e7c"), looks := false }, kinds := [], alts := [], laidByText := true, laidKinds := [.data, .pinned], laidTests := true, laidLooks := .later }
def ResolveGrowsCardSaid : Prop := Claim7.holds Tryz.pinned (.plain (OpenSpec.ofChange resolveGrowsSpec)) resolveGrowsCard

/-- THE TIED CARD OF 'arbiterlaw11.ResolveKin'. -/
def resolveKinCard : Claim7 := { stood := { row := resolveKinRow, standIns := [], harness := (true, "d9bf5cbef35f6bd6706ad9f22b91e950600e946d724bf8e2156e4ea1faf15e7c"), looks := false }, kinds := [], alts := [], laidByText := true, laidKinds := [.data, .pinned], laidTests := true, laidLooks := .later }
def ResolveKinCardSaid : Prop := Claim7.holds Tryz.pinned (.plain (OpenSpec.ofChange resolveKinSpec)) resolveKinCard

/-- THE SECOND FORM's CARD OF 'arbiterlaw11.ResolveSound'. -/
def resolveSoundUptoCard : Claim7 := { stood := { row := resolveSoundUptoRow, standIns := [], harness := (true, "d9bf5cbef35f6bd6706ad9f22b91e950600e946d724bf8e2156e4ea1faf15e7c"), looks := false }, kinds := [], alts := [], laidByText := true, laidKinds := [.data, .pinned], laidTests := true, laidLooks := .later }
def ResolveSoundUptoCardSaid : Prop := Claim7.holds Tryz.pinned (.plain (OpenSpec.upto resolveSoundSpec)) resolveSoundUptoCard

/-- THE SECOND FORM's CARD OF 'arbiterlaw11.ResolveGrows'. -/
def resolveGrowsUptoCard : Claim7 := { stood := { row := resolveGrowsUptoRow, standIns := [], harness := (true, "d9bf5cbef35f6bd6706ad9f22b91e950600e946d724bf8e2156e4ea1faf15e7c"), looks := false }, kinds := [], alts := [], laidByText := true, laidKinds := [.data, .pinned], laidTests := true, laidLooks := .later }
def ResolveGrowsUptoCardSaid : Prop := Claim7.holds Tryz.pinned (.plain (OpenSpec.upto resolveGrowsSpec)) resolveGrowsUptoCard

/-- THE SECOND FORM's CARD OF 'arbiterlaw11.ResolveKin'. -/
def resolveKinUptoCard : Claim7 := { stood := { row := resolveKinUptoRow, standIns := [], harness := (true, "d9bf5cbef35f6bd6706ad9f22b91e950600e946d724bf8e2156e4ea1faf15e7c"), looks := false }, kinds := [], alts := [], laidByText := true, laidKinds := [.data, .pinned], laidTests := true, laidLooks := .later }
def ResolveKinUptoCardSaid : Prop := Claim7.holds Tryz.pinned (.plain (OpenSpec.upto resolveKinSpec)) resolveKinUptoCard
end Rows
end Go.Proofs.YtmpphhkbjmjomaaGreatDoor
