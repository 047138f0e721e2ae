/-
  NARROWER THAN 'FOR EVERY INPUT', by the rows' own cells (each row's printed sentence says how): ChooseNil: laid · ChoosePrivate: laid · ChooseSelects: laid · ChooseAgree: laid · ChooseWhole: laid · ChooseGrows: laid.
  DERIVED. THE GIVEN ROWS OF THIS SEAT. 6 by the template 'for every input the law returns true; each argument reads behind the call as it read before'; 0 by the template 'total and deterministic' (their statements: YtiiebakblkpkeaaGreatDoorTotals.lean).
  GIVEN WITH THE SEED: the statements are not yours to turn. If you find one false, say at which input.
  Laid BY PROGRAM, IN A SANDBOX (cutbox-rows.mjs): the forced cells as the released guide's own fill.sh prints them over the translation 863f9a62758a24a6… (all of the seat's roots in one cut). By AI agents, Wed Nov 11 2026. No macro, syntax, notation, axiom, sorry.
-/
import Derived.Test.YtiiebakblkpkeaaGreatDoorChecked
import GoSem.PinnedTables
import GoSem.Claim
import GoSem.ClaimJoined
import GoSem.ClaimMapViews
import Derived.JoinedTies
import Derived.KernelRfl
namespace Go.Proofs.YtiiebakblkpkeaaGreatDoor
/- THE CELL 'sum', in the pinned program and in every row, IS THE sha256 OF THE DUMP (.gsa) THAT YtiiebakblkpkeaaGreatDoorProg.lean LOADS. Nothing in Lean hashes anything: it is a label: what it is worth is what the hold of that sum in a sandbox is worth. -/
noncomputable def Tryz.pinned : Pinned := { name := "ytiiebakblkpkeaagreatdoor", sum := "863f9a62758a24a67a9b5e64658345b8b6f0bf41a898bd29364457a33d8fe2dd", checked := Tryz.checked }
namespace Rows
def none {H : Type} : Left H := { results := [], args := [] }

/- WHAT THE LISTED PACKAGE-LEVEL VARIABLES READ AS WHEN THE CALL BEGINS. Each datum BY PROGRAM (the guide's laid-datum.mjs) off the statement by which the dump's own 'gosem.cut.vars' lays the variable. In a bare row this is a premise. The card (YtiiebakblkpkeaaGreatDoorCards.lean) ties it to the program's text. -/
def laid_unicode_utf8_acceptRanges {H : Type} : DataW H := .agg [.agg [.lit (.int .u8 128), .lit (.int .u8 191)], .agg [.lit (.int .u8 160), .lit (.int .u8 191)], .agg [.lit (.int .u8 128), .lit (.int .u8 159)], .agg [.lit (.int .u8 144), .lit (.int .u8 191)], .agg [.lit (.int .u8 128), .lit (.int .u8 143)], .agg [.lit (.int .u8 0), .lit (.int .u8 0)], .agg [.lit (.int .u8 0), .lit (.int .u8 0)], .agg [.lit (.int .u8 0), .lit (.int .u8 0)], .agg [.lit (.int .u8 0), .lit (.int .u8 0)], .agg [.lit (.int .u8 0), .lit (.int .u8 0)], .agg [.lit (.int .u8 0), .lit (.int .u8 0)], .agg [.lit (.int .u8 0), .lit (.int .u8 0)], .agg [.lit (.int .u8 0), .lit (.int .u8 0)], .agg [.lit (.int .u8 0), .lit (.int .u8 0)], .agg [.lit (.int .u8 0), .lit (.int .u8 0)], .agg [.lit (.int .u8 0), .lit (.int .u8 0)]]
/-- One of Go's own tables, pinned by name: the form's constant. -/
def laid_unicode_utf8_first : DataW Unit := Go.Pinned.utf8First

/-- 'arbiterlaw12.ChooseNil': WHATEVER THE INPUT: true; the input reads as it did. -/
def chooseNilSpec : ChangeSpec := { name := "chooseNil", fn := fun _ => fun
  | [] => { results := [.lit (.bool true)], args := [] }
  | _ => none }
def chooseNilRow : OpenClaim := { program := "ytiiebakblkpkeaagreatdoor", sum := "863f9a62758a24a67a9b5e64658345b8b6f0bf41a898bd29364457a33d8fe2dd", func := "arbiter/arbiterlaw12.ChooseNil", spec := "chooseNil", inPlace := ["internal/bytealg.IndexByteString", "internal/bytealg.IndexString", "internal/bytealg.CountString"], unfollowed := true, recurses := true, named := ["internal/bytealg.MaxLen", "unicode/utf8.first", "unicode/utf8.acceptRanges"], apart := false, laid := [("unicode/utf8.acceptRanges", laid_unicode_utf8_acceptRanges), ("unicode/utf8.first", laid_unicode_utf8_first)] }
def ChooseNilSaid : Prop := chooseNilRow.holds Tryz.pinned (OpenSpec.ofChange chooseNilSpec)

/-- ITS FALSE NEIGHBOUR: 'it returns false'. Refute it at one input. -/
def chooseNilWrong : ChangeSpec := { name := "chooseNil", fn := fun _ => fun
  | [] => { results := [.lit (.bool false)], args := [] }
  | _ => none }
def ChooseNilWrongFalsely : Prop := chooseNilRow.holds Tryz.pinned (OpenSpec.ofChange chooseNilWrong)

/-- 'arbiterlaw12.ChoosePrivate': WHATEVER THE INPUT: true; the input reads as it did. -/
def choosePrivateSpec : ChangeSpec := { name := "choosePrivate", fn := fun _ => fun
  | [d1, d2, d3] => { results := [.lit (.bool true)], args := [d1, d2, d3] }
  | _ => none }
def choosePrivateRow : OpenClaim := { program := "ytiiebakblkpkeaagreatdoor", sum := "863f9a62758a24a67a9b5e64658345b8b6f0bf41a898bd29364457a33d8fe2dd", func := "arbiter/arbiterlaw12.ChoosePrivate", spec := "choosePrivate", inPlace := ["internal/bytealg.CountString", "internal/bytealg.IndexByteString", "internal/bytealg.IndexString"], unfollowed := true, recurses := true, named := ["unicode/utf8.first", "unicode/utf8.acceptRanges", "internal/bytealg.MaxLen"], apart := false, laid := [("unicode/utf8.acceptRanges", laid_unicode_utf8_acceptRanges), ("unicode/utf8.first", laid_unicode_utf8_first)] }
def ChoosePrivateSaid : Prop := choosePrivateRow.holds Tryz.pinned (OpenSpec.ofChange choosePrivateSpec)

/-- ITS FALSE NEIGHBOUR: 'it returns false'. Refute it at one input. -/
def choosePrivateWrong : ChangeSpec := { name := "choosePrivate", fn := fun _ => fun
  | [d1, d2, d3] => { results := [.lit (.bool false)], args := [d1, d2, d3] }
  | _ => none }
def ChoosePrivateWrongFalsely : Prop := choosePrivateRow.holds Tryz.pinned (OpenSpec.ofChange choosePrivateWrong)

/-- 'arbiterlaw12.ChooseSelects': WHATEVER THE INPUT: true; the input reads as it did. -/
def chooseSelectsSpec : ChangeSpec := { name := "chooseSelects", fn := fun _ => fun
  | [d1, d2, d3] => { results := [.lit (.bool true)], args := [d1, d2, d3] }
  | _ => none }
def chooseSelectsRow : OpenClaim := { program := "ytiiebakblkpkeaagreatdoor", sum := "863f9a62758a24a67a9b5e64658345b8b6f0bf41a898bd29364457a33d8fe2dd", func := "arbiter/arbiterlaw12.ChooseSelects", spec := "chooseSelects", inPlace := ["internal/bytealg.CountString", "internal/bytealg.IndexByteString", "internal/bytealg.IndexString"], unfollowed := true, recurses := true, named := ["unicode/utf8.first", "unicode/utf8.acceptRanges", "internal/bytealg.MaxLen"], apart := false, laid := [("unicode/utf8.acceptRanges", laid_unicode_utf8_acceptRanges), ("unicode/utf8.first", laid_unicode_utf8_first)] }
def ChooseSelectsSaid : Prop := chooseSelectsRow.holds Tryz.pinned (OpenSpec.ofChange chooseSelectsSpec)

/-- ITS FALSE NEIGHBOUR: 'it returns false'. Refute it at one input. -/
def chooseSelectsWrong : ChangeSpec := { name := "chooseSelects", fn := fun _ => fun
  | [d1, d2, d3] => { results := [.lit (.bool false)], args := [d1, d2, d3] }
  | _ => none }
def ChooseSelectsWrongFalsely : Prop := chooseSelectsRow.holds Tryz.pinned (OpenSpec.ofChange chooseSelectsWrong)

/-- 'arbiterlaw12.ChooseAgree': WHATEVER THE INPUT: true; the input reads as it did. -/
def chooseAgreeSpec : ChangeSpec := { name := "chooseAgree", fn := fun _ => fun
  | [d1, d2, d3] => { results := [.lit (.bool true)], args := [d1, d2, d3] }
  | _ => none }
def chooseAgreeRow : OpenClaim := { program := "ytiiebakblkpkeaagreatdoor", sum := "863f9a62758a24a67a9b5e64658345b8b6f0bf41a898bd29364457a33d8fe2dd", func := "arbiter/arbiterlaw12.ChooseAgree", spec := "chooseAgree", inPlace := ["internal/bytealg.CountString", "internal/bytealg.IndexByteString", "internal/bytealg.IndexString"], unfollowed := true, recurses := true, named := ["unicode/utf8.first", "unicode/utf8.acceptRanges", "internal/bytealg.MaxLen"], apart := false, laid := [("unicode/utf8.acceptRanges", laid_unicode_utf8_acceptRanges), ("unicode/utf8.first", laid_unicode_utf8_first)] }
def ChooseAgreeSaid : Prop := chooseAgreeRow.holds Tryz.pinned (OpenSpec.ofChange chooseAgreeSpec)

/-- ITS FALSE NEIGHBOUR: 'it returns false'. Refute it at one input. -/
def chooseAgreeWrong : ChangeSpec := { name := "chooseAgree", fn := fun _ => fun
  | [d1, d2, d3] => { results := [.lit (.bool false)], args := [d1, d2, d3] }
  | _ => none }
def ChooseAgreeWrongFalsely : Prop := chooseAgreeRow.holds Tryz.pinned (OpenSpec.ofChange chooseAgreeWrong)

/-- 'arbiterlaw12.ChooseWhole': WHATEVER THE INPUT: true; the input reads as it did. -/
def chooseWholeSpec : ChangeSpec := { name := "chooseWhole", fn := fun _ => fun
  | [d1, d2, d3, d4, d5] => { results := [.lit (.bool true)], args := [d1, d2, d3, d4, d5] }
  | _ => none }
def chooseWholeRow : OpenClaim := { program := "ytiiebakblkpkeaagreatdoor", sum := "863f9a62758a24a67a9b5e64658345b8b6f0bf41a898bd29364457a33d8fe2dd", func := "arbiter/arbiterlaw12.ChooseWhole", spec := "chooseWhole", inPlace := ["internal/bytealg.CountString", "internal/bytealg.IndexByteString", "internal/bytealg.IndexString"], unfollowed := true, recurses := true, named := ["unicode/utf8.first", "unicode/utf8.acceptRanges", "internal/bytealg.MaxLen"], apart := false, laid := [("unicode/utf8.acceptRanges", laid_unicode_utf8_acceptRanges), ("unicode/utf8.first", laid_unicode_utf8_first)] }
def ChooseWholeSaid : Prop := chooseWholeRow.holds Tryz.pinned (OpenSpec.ofChange chooseWholeSpec)

/-- ITS FALSE NEIGHBOUR: 'it returns false'. Refute it at one input. -/
def chooseWholeWrong : ChangeSpec := { name := "chooseWhole", fn := fun _ => fun
  | [d1, d2, d3, d4, d5] => { results := [.lit (.bool false)], args := [d1, d2, d3, d4, d5] }
  | _ => none }
def ChooseWholeWrongFalsely : Prop := chooseWholeRow.holds Tryz.pinned (OpenSpec.ofChange chooseWholeWrong)

/-- 'arbiterlaw12.ChooseGrows': WHATEVER THE INPUT: true; the input reads as it did. -/
def chooseGrowsSpec : ChangeSpec := { name := "chooseGrows", fn := fun _ => fun
  | [d1, d2, d3, d4, d5, d6] => { results := [.lit (.bool true)], args := [d1, d2, d3, d4, d5, d6] }
  | _ => none }
def chooseGrowsRow : OpenClaim := { program := "ytiiebakblkpkeaagreatdoor", sum := "863f9a62758a24a67a9b5e64658345b8b6f0bf41a898bd29364457a33d8fe2dd", func := "arbiter/arbiterlaw12.ChooseGrows", spec := "chooseGrows", inPlace := ["internal/bytealg.CountString", "internal/bytealg.IndexByteString", "internal/bytealg.IndexString"], unfollowed := true, recurses := true, named := ["unicode/utf8.first", "unicode/utf8.acceptRanges", "internal/bytealg.MaxLen"], apart := false, laid := [("unicode/utf8.acceptRanges", laid_unicode_utf8_acceptRanges), ("unicode/utf8.first", laid_unicode_utf8_first)] }
def ChooseGrowsSaid : Prop := chooseGrowsRow.holds Tryz.pinned (OpenSpec.ofChange chooseGrowsSpec)

/-- ITS FALSE NEIGHBOUR: 'it returns false'. Refute it at one input. -/
def chooseGrowsWrong : ChangeSpec := { name := "chooseGrows", fn := fun _ => fun
  | [d1, d2, d3, d4, d5, d6] => { results := [.lit (.bool false)], args := [d1, d2, d3, d4, d5, d6] }
  | _ => none }
def ChooseGrowsWrongFalsely : Prop := chooseGrowsRow.holds Tryz.pinned (OpenSpec.ofChange chooseGrowsWrong)

/- THE SECOND FORM. 'bulk': how many values and letters a reading holds, each counted each time it is reached (what is shared counts as often as it is met; a slice's spare places count too). A statement '..UptoSaid' is the law's where the arguments, and the package variables that the reading takes, are together of bulk at most 1048576: NARROWER than '..Said'. Prove '..Said' where nothing that the law and all that it calls make is longer than what came in: it says more and counts as full. Else prove '..UptoSaid'. A law counts once. -/
mutual
def uptoBulk {H : Type} : DataW H → Nat
  | .lit (.string bytes) => bytes.length + 1
  | .lit _ => 1
  | .nil => 1
  | .ptr d => uptoBulk d + 1
  | .slice elems spare => uptoBulkAll elems + uptoBulkAll spare + 1
  | .agg parts => uptoBulkAll parts + 1
  | .iface _ d => uptoBulk d + 1
  | .map entries => uptoBulkEntries entries + 1
  | .held _ => 1
def uptoBulkAll {H : Type} : List (DataW H) → Nat
  | [] => 0
  | d :: r => uptoBulk d + uptoBulkAll r
def uptoBulkEntries {H : Type} : List (Lit × DataW H) → Nat
  | [] => 0
  | x :: r => uptoBulkEntry x + uptoBulkEntries r
def uptoBulkEntry {H : Type} : Lit × DataW H → Nat
  | (.string bytes, d) => bytes.length + uptoBulk d + 1
  | (_, d) => uptoBulk d + 1
 end
def uptoSmall : (H : Type) → List (DataW H) → Bool := fun _ ds => decide (uptoBulkAll ds ≤ 1048576)
def OpenSpec.upto (s : _root_.Go.ChangeSpec) : _root_.Go.OpenSpec := { _root_.Go.OpenSpec.ofChange s with cond := some uptoSmall }

/-- 'arbiterlaw12.ChooseNil', WHERE WHAT IT READS IS OF BULK AT MOST 1048576: true; the input reads as it did. -/
def chooseNilUptoRow : OpenClaim := { program := "ytiiebakblkpkeaagreatdoor", sum := "863f9a62758a24a67a9b5e64658345b8b6f0bf41a898bd29364457a33d8fe2dd", func := "arbiter/arbiterlaw12.ChooseNil", spec := "chooseNil", inPlace := ["internal/bytealg.IndexByteString", "internal/bytealg.IndexString", "internal/bytealg.CountString"], unfollowed := true, recurses := true, named := ["internal/bytealg.MaxLen", "unicode/utf8.first", "unicode/utf8.acceptRanges"], apart := false, laid := [("unicode/utf8.acceptRanges", laid_unicode_utf8_acceptRanges), ("unicode/utf8.first", laid_unicode_utf8_first)], narrowed := true }
def ChooseNilUptoSaid : Prop := chooseNilUptoRow.holds Tryz.pinned (OpenSpec.upto chooseNilSpec)

/-- 'arbiterlaw12.ChoosePrivate', WHERE WHAT IT READS IS OF BULK AT MOST 1048576: true; the input reads as it did. -/
def choosePrivateUptoRow : OpenClaim := { program := "ytiiebakblkpkeaagreatdoor", sum := "863f9a62758a24a67a9b5e64658345b8b6f0bf41a898bd29364457a33d8fe2dd", func := "arbiter/arbiterlaw12.ChoosePrivate", spec := "choosePrivate", inPlace := ["internal/bytealg.CountString", "internal/bytealg.IndexByteString", "internal/bytealg.IndexString"], unfollowed := true, recurses := true, named := ["unicode/utf8.first", "unicode/utf8.acceptRanges", "internal/bytealg.MaxLen"], apart := false, laid := [("unicode/utf8.acceptRanges", laid_unicode_utf8_acceptRanges), ("unicode/utf8.first", laid_unicode_utf8_first)], narrowed := true }
def ChoosePrivateUptoSaid : Prop := choosePrivateUptoRow.holds Tryz.pinned (OpenSpec.upto choosePrivateSpec)

/-- 'arbiterlaw12.ChooseSelects', WHERE WHAT IT READS IS OF BULK AT MOST 1048576: true; the input reads as it did. -/
def chooseSelectsUptoRow : OpenClaim := { program := "ytiiebakblkpkeaagreatdoor", sum := "863f9a62758a24a67a9b5e64658345b8b6f0bf41a898bd29364457a33d8fe2dd", func := "arbiter/arbiterlaw12.ChooseSelects", spec := "chooseSelects", inPlace := ["internal/bytealg.CountString", "internal/bytealg.IndexByteString", "internal/bytealg.IndexString"], unfollowed := true, recurses := true, named := ["unicode/utf8.first", "unicode/utf8.acceptRanges", "internal/bytealg.MaxLen"], apart := false, laid := [("unicode/utf8.acceptRanges", laid_unicode_utf8_acceptRanges), ("unicode/utf8.first", laid_unicode_utf8_first)], narrowed := true }
def ChooseSelectsUptoSaid : Prop := chooseSelectsUptoRow.holds Tryz.pinned (OpenSpec.upto chooseSelectsSpec)

/-- 'arbiterlaw12.ChooseAgree', WHERE WHAT IT READS IS OF BULK AT MOST 1048576: true; the input reads as it did. -/
def chooseAgreeUptoRow : OpenClaim := { program := "ytiiebakblkpkeaagreatdoor", sum := "863f9a62758a24a67a9b5e64658345b8b6f0bf41a898bd29364457a33d8fe2dd", func := "arbiter/arbiterlaw12.ChooseAgree", spec := "chooseAgree", inPlace := ["internal/bytealg.CountString", "internal/bytealg.IndexByteString", "internal/bytealg.IndexString"], unfollowed := true, recurses := true, named := ["unicode/utf8.first", "unicode/utf8.acceptRanges", "internal/bytealg.MaxLen"], apart := false, laid := [("unicode/utf8.acceptRanges", laid_unicode_utf8_acceptRanges), ("unicode/utf8.first", laid_unicode_utf8_first)], narrowed := true }
def ChooseAgreeUptoSaid : Prop := chooseAgreeUptoRow.holds Tryz.pinned (OpenSpec.upto chooseAgreeSpec)

/-- 'arbiterlaw12.ChooseWhole', WHERE WHAT IT READS IS OF BULK AT MOST 1048576: true; the input reads as it did. -/
def chooseWholeUptoRow : OpenClaim := { program := "ytiiebakblkpkeaagreatdoor", sum := "863f9a62758a24a67a9b5e64658345b8b6f0bf41a898bd29364457a33d8fe2dd", func := "arbiter/arbiterlaw12.ChooseWhole", spec := "chooseWhole", inPlace := ["internal/bytealg.CountString", "internal/bytealg.IndexByteString", "internal/bytealg.IndexString"], unfollowed := true, recurses := true, named := ["unicode/utf8.first", "unicode/utf8.acceptRanges", "internal/bytealg.MaxLen"], apart := false, laid := [("unicode/utf8.acceptRanges", laid_unicode_utf8_acceptRanges), ("unicode/utf8.first", laid_unicode_utf8_first)], narrowed := true }
def ChooseWholeUptoSaid : Prop := chooseWholeUptoRow.holds Tryz.pinned (OpenSpec.upto chooseWholeSpec)

/-- 'arbiterlaw12.ChooseGrows', WHERE WHAT IT READS IS OF BULK AT MOST 1048576: true; the input reads as it did. -/
def chooseGrowsUptoRow : OpenClaim := { program := "ytiiebakblkpkeaagreatdoor", sum := "863f9a62758a24a67a9b5e64658345b8b6f0bf41a898bd29364457a33d8fe2dd", func := "arbiter/arbiterlaw12.ChooseGrows", spec := "chooseGrows", inPlace := ["internal/bytealg.CountString", "internal/bytealg.IndexByteString", "internal/bytealg.IndexString"], unfollowed := true, recurses := true, named := ["unicode/utf8.first", "unicode/utf8.acceptRanges", "internal/bytealg.MaxLen"], apart := false, laid := [("unicode/utf8.acceptRanges", laid_unicode_utf8_acceptRanges), ("unicode/utf8.first", laid_unicode_utf8_first)], narrowed := true }
def ChooseGrowsUptoSaid : Prop := chooseGrowsUptoRow.holds Tryz.pinned (OpenSpec.upto chooseGrowsSpec)

end Rows
end Go.Proofs.YtiiebakblkpkeaaGreatDoor
