/-
  NARROWER THAN 'FOR EVERY INPUT', by the rows' own cells (each row's printed sentence says how): HierClosure: laid · HierGrows: laid · HierOrder: laid · MaxspecMost: laid · MaxspecBelow: laid.
  DERIVED. THE GIVEN ROWS OF THIS SEAT. 5 by the template 'for every input the law returns true; each argument reads behind the call as it read before'; 0 by the template 'total and deterministic' (their statements: YtmpkdgankficeaaDoorTotals.lean).
  GIVEN WITH THE SEED: the statements are not yours to turn. If you find one false, say at which input.
  Laid BY PROGRAM, IN A SANDBOX (cutbox-rows.mjs): the forced cells as the released guide's own fill.sh prints them over the translation 0fedd886cc950cf0… (all of the seat's roots in one cut). By AI agents, Wed Nov 11 2026. No macro, syntax, notation, axiom, sorry.
-/
import Derived.Test.YtmpkdgankficeaaDoorChecked
import GoSem.PinnedTables
import GoSem.Claim
import GoSem.ClaimJoined
import GoSem.ClaimMapViews
import Derived.JoinedTies
import Derived.KernelRfl
namespace Go.Proofs.YtmpkdgankficeaaDoor
/- THE CELL 'sum', in the pinned program and in every row, IS THE sha256 OF THE DUMP (.gsa) THAT YtmpkdgankficeaaDoorProg.lean LOADS. Nothing in Lean hashes anything: it is a label: what it is worth is what the hold of that sum in a sandbox is worth. -/
noncomputable def Tryd.pinned : Pinned := { name := "ytmpkdgankficeaadoor", sum := "0fedd886cc950cf0428ce2223f4d759003232fdd96cc22a1943c4728d25bbeb7", checked := Tryd.checked }
namespace Rows
def none {H : Type} : Left H := { results := [], args := [] }

/- WHAT THE LISTED PACKAGE-LEVEL VARIABLES READ AS WHEN THE CALL BEGINS. Each datum BY PROGRAM (the guide's laid-datum.mjs) off the statement by which the dump's own 'gosem.cut.vars' lays the variable. In a bare row this is a premise. The card (YtmpkdgankficeaaDoorCards.lean) ties it to the program's text. -/
def laid_unicode_utf8_acceptRanges {H : Type} : DataW H := .agg [.agg [.lit (.int .u8 128), .lit (.int .u8 191)], .agg [.lit (.int .u8 160), .lit (.int .u8 191)], .agg [.lit (.int .u8 128), .lit (.int .u8 159)], .agg [.lit (.int .u8 144), .lit (.int .u8 191)], .agg [.lit (.int .u8 128), .lit (.int .u8 143)], .agg [.lit (.int .u8 0), .lit (.int .u8 0)], .agg [.lit (.int .u8 0), .lit (.int .u8 0)], .agg [.lit (.int .u8 0), .lit (.int .u8 0)], .agg [.lit (.int .u8 0), .lit (.int .u8 0)], .agg [.lit (.int .u8 0), .lit (.int .u8 0)], .agg [.lit (.int .u8 0), .lit (.int .u8 0)], .agg [.lit (.int .u8 0), .lit (.int .u8 0)], .agg [.lit (.int .u8 0), .lit (.int .u8 0)], .agg [.lit (.int .u8 0), .lit (.int .u8 0)], .agg [.lit (.int .u8 0), .lit (.int .u8 0)], .agg [.lit (.int .u8 0), .lit (.int .u8 0)]]
/-- One of Go's own tables, pinned by name: the form's constant. -/
def laid_unicode_utf8_first : DataW Unit := Go.Pinned.utf8First

/-- 'arbiterlaw06.HierClosure': WHATEVER THE INPUT: true; the input reads as it did. -/
def hierClosureSpec : ChangeSpec := { name := "hierClosure", fn := fun _ => fun
  | [d] => { results := [.lit (.bool true)], args := [d] }
  | _ => none }
def hierClosureRow : OpenClaim := { program := "ytmpkdgankficeaadoor", sum := "0fedd886cc950cf0428ce2223f4d759003232fdd96cc22a1943c4728d25bbeb7", func := "arbiter/arbiterlaw06.HierClosure", spec := "hierClosure", inPlace := ["internal/bytealg.CountString", "internal/bytealg.IndexByteString", "internal/bytealg.IndexString"], unfollowed := true, recurses := true, named := ["unicode/utf8.first", "unicode/utf8.acceptRanges", "internal/bytealg.MaxLen"], apart := false, laid := [("unicode/utf8.acceptRanges", laid_unicode_utf8_acceptRanges), ("unicode/utf8.first", laid_unicode_utf8_first)] }
def HierClosureSaid : Prop := hierClosureRow.holds Tryd.pinned (OpenSpec.ofChange hierClosureSpec)

/-- ITS FALSE NEIGHBOUR: 'it returns false'. Refute it at one input. -/
def hierClosureWrong : ChangeSpec := { name := "hierClosure", fn := fun _ => fun
  | [d] => { results := [.lit (.bool false)], args := [d] }
  | _ => none }
def HierClosureWrongFalsely : Prop := hierClosureRow.holds Tryd.pinned (OpenSpec.ofChange hierClosureWrong)

/-- 'arbiterlaw06.HierGrows': WHATEVER THE INPUT: true; the input reads as it did. -/
def hierGrowsSpec : ChangeSpec := { name := "hierGrows", fn := fun _ => fun
  | [d1, d2] => { results := [.lit (.bool true)], args := [d1, d2] }
  | _ => none }
def hierGrowsRow : OpenClaim := { program := "ytmpkdgankficeaadoor", sum := "0fedd886cc950cf0428ce2223f4d759003232fdd96cc22a1943c4728d25bbeb7", func := "arbiter/arbiterlaw06.HierGrows", spec := "hierGrows", inPlace := ["internal/bytealg.CountString", "internal/bytealg.IndexByteString", "internal/bytealg.IndexString"], unfollowed := true, recurses := true, named := ["unicode/utf8.first", "unicode/utf8.acceptRanges", "internal/bytealg.MaxLen"], apart := false, laid := [("unicode/utf8.acceptRanges", laid_unicode_utf8_acceptRanges), ("unicode/utf8.first", laid_unicode_utf8_first)] }
def HierGrowsSaid : Prop := hierGrowsRow.holds Tryd.pinned (OpenSpec.ofChange hierGrowsSpec)

/-- ITS FALSE NEIGHBOUR: 'it returns false'. Refute it at one input. -/
def hierGrowsWrong : ChangeSpec := { name := "hierGrows", fn := fun _ => fun
  | [d1, d2] => { results := [.lit (.bool false)], args := [d1, d2] }
  | _ => none }
def HierGrowsWrongFalsely : Prop := hierGrowsRow.holds Tryd.pinned (OpenSpec.ofChange hierGrowsWrong)

/-- 'arbiterlaw06.HierOrder': WHATEVER THE INPUT: true; the input reads as it did. -/
def hierOrderSpec : ChangeSpec := { name := "hierOrder", fn := fun _ => fun
  | [d] => { results := [.lit (.bool true)], args := [d] }
  | _ => none }
def hierOrderRow : OpenClaim := { program := "ytmpkdgankficeaadoor", sum := "0fedd886cc950cf0428ce2223f4d759003232fdd96cc22a1943c4728d25bbeb7", func := "arbiter/arbiterlaw06.HierOrder", spec := "hierOrder", inPlace := ["internal/bytealg.CountString", "internal/bytealg.IndexByteString", "internal/bytealg.IndexString"], unfollowed := true, recurses := true, named := ["unicode/utf8.first", "unicode/utf8.acceptRanges", "internal/bytealg.MaxLen"], apart := false, laid := [("unicode/utf8.acceptRanges", laid_unicode_utf8_acceptRanges), ("unicode/utf8.first", laid_unicode_utf8_first)] }
def HierOrderSaid : Prop := hierOrderRow.holds Tryd.pinned (OpenSpec.ofChange hierOrderSpec)

/-- ITS FALSE NEIGHBOUR: 'it returns false'. Refute it at one input. -/
def hierOrderWrong : ChangeSpec := { name := "hierOrder", fn := fun _ => fun
  | [d] => { results := [.lit (.bool false)], args := [d] }
  | _ => none }
def HierOrderWrongFalsely : Prop := hierOrderRow.holds Tryd.pinned (OpenSpec.ofChange hierOrderWrong)

/-- 'arbiterlaw10.MaxspecMost': WHATEVER THE INPUT: true; the input reads as it did. -/
def maxspecMostSpec : ChangeSpec := { name := "maxspecMost", fn := fun _ => fun
  | [d1, d2, d3, d4] => { results := [.lit (.bool true)], args := [d1, d2, d3, d4] }
  | _ => none }
def maxspecMostRow : OpenClaim := { program := "ytmpkdgankficeaadoor", sum := "0fedd886cc950cf0428ce2223f4d759003232fdd96cc22a1943c4728d25bbeb7", func := "arbiter/arbiterlaw10.MaxspecMost", spec := "maxspecMost", inPlace := ["internal/bytealg.CountString", "internal/bytealg.IndexByteString", "internal/bytealg.IndexString"], unfollowed := true, recurses := true, named := ["unicode/utf8.first", "unicode/utf8.acceptRanges", "internal/bytealg.MaxLen"], apart := false, laid := [("unicode/utf8.acceptRanges", laid_unicode_utf8_acceptRanges), ("unicode/utf8.first", laid_unicode_utf8_first)] }
def MaxspecMostSaid : Prop := maxspecMostRow.holds Tryd.pinned (OpenSpec.ofChange maxspecMostSpec)

/-- ITS FALSE NEIGHBOUR: 'it returns false'. Refute it at one input. -/
def maxspecMostWrong : ChangeSpec := { name := "maxspecMost", fn := fun _ => fun
  | [d1, d2, d3, d4] => { results := [.lit (.bool false)], args := [d1, d2, d3, d4] }
  | _ => none }
def MaxspecMostWrongFalsely : Prop := maxspecMostRow.holds Tryd.pinned (OpenSpec.ofChange maxspecMostWrong)

/-- 'arbiterlaw10.MaxspecBelow': WHATEVER THE INPUT: true; the input reads as it did. -/
def maxspecBelowSpec : ChangeSpec := { name := "maxspecBelow", fn := fun _ => fun
  | [d1, d2, d3, d4] => { results := [.lit (.bool true)], args := [d1, d2, d3, d4] }
  | _ => none }
def maxspecBelowRow : OpenClaim := { program := "ytmpkdgankficeaadoor", sum := "0fedd886cc950cf0428ce2223f4d759003232fdd96cc22a1943c4728d25bbeb7", func := "arbiter/arbiterlaw10.MaxspecBelow", spec := "maxspecBelow", inPlace := ["internal/bytealg.CountString", "internal/bytealg.IndexByteString", "internal/bytealg.IndexString"], unfollowed := true, recurses := true, named := ["unicode/utf8.first", "unicode/utf8.acceptRanges", "internal/bytealg.MaxLen"], apart := false, laid := [("unicode/utf8.acceptRanges", laid_unicode_utf8_acceptRanges), ("unicode/utf8.first", laid_unicode_utf8_first)] }
def MaxspecBelowSaid : Prop := maxspecBelowRow.holds Tryd.pinned (OpenSpec.ofChange maxspecBelowSpec)

/-- ITS FALSE NEIGHBOUR: 'it returns false'. Refute it at one input. -/
def maxspecBelowWrong : ChangeSpec := { name := "maxspecBelow", fn := fun _ => fun
  | [d1, d2, d3, d4] => { results := [.lit (.bool false)], args := [d1, d2, d3, d4] }
  | _ => none }
def MaxspecBelowWrongFalsely : Prop := maxspecBelowRow.holds Tryd.pinned (OpenSpec.ofChange maxspecBelowWrong)

/- THE SECOND FORM. 'bulk': how many values and letters a reading holds, each counted each time it is reached (what is shared counts as often as it is met; a slice's spare places count too). A statement '..UptoSaid' is the law's where the arguments, and the package variables that the reading takes, are together of bulk at most 1048576: NARROWER than '..Said'. Prove '..Said' where nothing that the law and all that it calls make is longer than what came in: it says more and counts as full. Else prove '..UptoSaid'. A law counts once. -/
mutual
def uptoBulk {H : Type} : DataW H → Nat
  | .lit (.string bytes) => bytes.length + 1
  | .lit _ => 1
  | .nil => 1
  | .ptr d => uptoBulk d + 1
  | .slice elems spare => uptoBulkAll elems + uptoBulkAll spare + 1
  | .agg parts => uptoBulkAll parts + 1
  | .iface _ d => uptoBulk d + 1
  | .map entries => uptoBulkEntries entries + 1
  | .held _ => 1
def uptoBulkAll {H : Type} : List (DataW H) → Nat
  | [] => 0
  | d :: r => uptoBulk d + uptoBulkAll r
def uptoBulkEntries {H : Type} : List (Lit × DataW H) → Nat
  | [] => 0
  | x :: r => uptoBulkEntry x + uptoBulkEntries r
def uptoBulkEntry {H : Type} : Lit × DataW H → Nat
  | (.string bytes, d) => bytes.length + uptoBulk d + 1
  | (_, d) => uptoBulk d + 1
 end
def uptoSmall : (H : Type) → List (DataW H) → Bool := fun _ ds => decide (uptoBulkAll ds ≤ 1048576)
def OpenSpec.upto (s : _root_.Go.ChangeSpec) : _root_.Go.OpenSpec := { _root_.Go.OpenSpec.ofChange s with cond := some uptoSmall }

/-- 'arbiterlaw06.HierClosure', WHERE WHAT IT READS IS OF BULK AT MOST 1048576: true; the input reads as it did. -/
def hierClosureUptoRow : OpenClaim := { program := "ytmpkdgankficeaadoor", sum := "0fedd886cc950cf0428ce2223f4d759003232fdd96cc22a1943c4728d25bbeb7", func := "arbiter/arbiterlaw06.HierClosure", spec := "hierClosure", inPlace := ["internal/bytealg.CountString", "internal/bytealg.IndexByteString", "internal/bytealg.IndexString"], unfollowed := true, recurses := true, named := ["unicode/utf8.first", "unicode/utf8.acceptRanges", "internal/bytealg.MaxLen"], apart := false, laid := [("unicode/utf8.acceptRanges", laid_unicode_utf8_acceptRanges), ("unicode/utf8.first", laid_unicode_utf8_first)], narrowed := true }
def HierClosureUptoSaid : Prop := hierClosureUptoRow.holds Tryd.pinned (OpenSpec.upto hierClosureSpec)

/-- 'arbiterlaw06.HierGrows', WHERE WHAT IT READS IS OF BULK AT MOST 1048576: true; the input reads as it did. -/
def hierGrowsUptoRow : OpenClaim := { program := "ytmpkdgankficeaadoor", sum := "0fedd886cc950cf0428ce2223f4d759003232fdd96cc22a1943c4728d25bbeb7", func := "arbiter/arbiterlaw06.HierGrows", spec := "hierGrows", inPlace := ["internal/bytealg.CountString", "internal/bytealg.IndexByteString", "internal/bytealg.IndexString"], unfollowed := true, recurses := true, named := ["unicode/utf8.first", "unicode/utf8.acceptRanges", "internal/bytealg.MaxLen"], apart := false, laid := [("unicode/utf8.acceptRanges", laid_unicode_utf8_acceptRanges), ("unicode/utf8.first", laid_unicode_utf8_first)], narrowed := true }
def HierGrowsUptoSaid : Prop := hierGrowsUptoRow.holds Tryd.pinned (OpenSpec.upto hierGrowsSpec)

/-- 'arbiterlaw06.HierOrder', WHERE WHAT IT READS IS OF BULK AT MOST 1048576: true; the input reads as it did. -/
def hierOrderUptoRow : OpenClaim := { program := "ytmpkdgankficeaadoor", sum := "0fedd886cc950cf0428ce2223f4d759003232fdd96cc22a1943c4728d25bbeb7", func := "arbiter/arbiterlaw06.HierOrder", spec := "hierOrder", inPlace := ["internal/bytealg.CountString", "internal/bytealg.IndexByteString", "internal/bytealg.IndexString"], unfollowed := true, recurses := true, named := ["unicode/utf8.first", "unicode/utf8.acceptRanges", "internal/bytealg.MaxLen"], apart := false, laid := [("unicode/utf8.acceptRanges", laid_unicode_utf8_acceptRanges), ("unicode/utf8.first", laid_unicode_utf8_first)], narrowed := true }
def HierOrderUptoSaid : Prop := hierOrderUptoRow.holds Tryd.pinned (OpenSpec.upto hierOrderSpec)

/-- 'arbiterlaw10.MaxspecMost', WHERE WHAT IT READS IS OF BULK AT MOST 1048576: true; the input reads as it did. -/
def maxspecMostUptoRow : OpenClaim := { program := "ytmpkdgankficeaadoor", sum := "0fedd886cc950cf0428ce2223f4d759003232fdd96cc22a1943c4728d25bbeb7", func := "arbiter/arbiterlaw10.MaxspecMost", spec := "maxspecMost", inPlace := ["internal/bytealg.CountString", "internal/bytealg.IndexByteString", "internal/bytealg.IndexString"], unfollowed := true, recurses := true, named := ["unicode/utf8.first", "unicode/utf8.acceptRanges", "internal/bytealg.MaxLen"], apart := false, laid := [("unicode/utf8.acceptRanges", laid_unicode_utf8_acceptRanges), ("unicode/utf8.first", laid_unicode_utf8_first)], narrowed := true }
def MaxspecMostUptoSaid : Prop := maxspecMostUptoRow.holds Tryd.pinned (OpenSpec.upto maxspecMostSpec)

/-- 'arbiterlaw10.MaxspecBelow', WHERE WHAT IT READS IS OF BULK AT MOST 1048576: true; the input reads as it did. -/
def maxspecBelowUptoRow : OpenClaim := { program := "ytmpkdgankficeaadoor", sum := "0fedd886cc950cf0428ce2223f4d759003232fdd96cc22a1943c4728d25bbeb7", func := "arbiter/arbiterlaw10.MaxspecBelow", spec := "maxspecBelow", inPlace := ["internal/bytealg.CountString", "internal/bytealg.IndexByteString", "internal/bytealg.IndexString"], unfollowed := true, recurses := true, named := ["unicode/utf8.first", "unicode/utf8.acceptRanges", "internal/bytealg.MaxLen"], apart := false, laid := [("unicode/utf8.acceptRanges", laid_unicode_utf8_acceptRanges), ("unicode/utf8.first", laid_unicode_utf8_first)], narrowed := true }
def MaxspecBelowUptoSaid : Prop := maxspecBelowUptoRow.holds Tryd.pinned (OpenSpec.upto maxspecBelowSpec)

end Rows
end Go.Proofs.YtmpkdgankficeaaDoor
