/-
  NARROWER THAN 'FOR EVERY INPUT', by the rows' own cells (each row's printed sentence says how): VtableGrows: laid · VtableOwn: laid · VtableFirst: laid · ItableDefaults: laid · ItableGrows: laid · ItableSays: laid.
  DERIVED. THE GIVEN ROWS OF THIS SEAT. 6 by the template 'for every input the law returns true; each argument reads behind the call as it read before'; 0 by the template 'total and deterministic' (their statements: YtipinmbpdgjalaaGreatDoorTotals.lean).
  GIVEN WITH THE SEED: the statements are not yours to turn. If you find one false, say at which input.
  Laid BY PROGRAM, IN A SANDBOX (cutbox-rows.mjs): the forced cells as the released guide's own fill.sh prints them over the translation 840ec2ba0921ee07… (all of the seat's roots in one cut). By AI agents, Wed Nov 11 2026. No macro, syntax, notation, axiom, sorry.
-/
import Derived.Test.YtipinmbpdgjalaaGreatDoorChecked
import GoSem.PinnedTables
import GoSem.Claim
import GoSem.ClaimJoined
import GoSem.ClaimMapViews
import Derived.JoinedTies
import Derived.KernelRfl
namespace Go.Proofs.YtipinmbpdgjalaaGreatDoor
/- THE CELL 'sum', in the pinned program and in every row, IS THE sha256 OF THE DUMP (.gsa) THAT YtipinmbpdgjalaaGreatDoorProg.lean LOADS. Nothing in Lean hashes anything: it is a label: what it is worth is what the hold of that sum in a sandbox is worth. -/
noncomputable def Tryz.pinned : Pinned := { name := "ytipinmbpdgjalaagreatdoor", sum := "840ec2ba0921ee07b8298dfed97eac0d70d8209fb27c6e4926e61bebe725898a", checked := Tryz.checked }
namespace Rows
def none {H : Type} : Left H := { results := [], args := [] }

/- WHAT THE LISTED PACKAGE-LEVEL VARIABLES READ AS WHEN THE CALL BEGINS. Each datum BY PROGRAM (the guide's laid-datum.mjs) off the statement by which the dump's own 'gosem.cut.vars' lays the variable. In a bare row this is a premise. The card (YtipinmbpdgjalaaGreatDoorCards.lean) ties it to the program's text. -/
def laid_unicode_utf8_acceptRanges {H : Type} : DataW H := .agg [.agg [.lit (.int .u8 128), .lit (.int .u8 191)], .agg [.lit (.int .u8 160), .lit (.int .u8 191)], .agg [.lit (.int .u8 128), .lit (.int .u8 159)], .agg [.lit (.int .u8 144), .lit (.int .u8 191)], .agg [.lit (.int .u8 128), .lit (.int .u8 143)], .agg [.lit (.int .u8 0), .lit (.int .u8 0)], .agg [.lit (.int .u8 0), .lit (.int .u8 0)], .agg [.lit (.int .u8 0), .lit (.int .u8 0)], .agg [.lit (.int .u8 0), .lit (.int .u8 0)], .agg [.lit (.int .u8 0), .lit (.int .u8 0)], .agg [.lit (.int .u8 0), .lit (.int .u8 0)], .agg [.lit (.int .u8 0), .lit (.int .u8 0)], .agg [.lit (.int .u8 0), .lit (.int .u8 0)], .agg [.lit (.int .u8 0), .lit (.int .u8 0)], .agg [.lit (.int .u8 0), .lit (.int .u8 0)], .agg [.lit (.int .u8 0), .lit (.int .u8 0)]]
/-- One of Go's own tables, pinned by name: the form's constant. -/
def laid_unicode_utf8_first : DataW Unit := Go.Pinned.utf8First

/-- 'arbiterlaw13.VtableGrows': WHATEVER THE INPUT: true; the input reads as it did. -/
def vtableGrowsSpec : ChangeSpec := { name := "vtableGrows", fn := fun _ => fun
  | [d1, d2, d3] => { results := [.lit (.bool true)], args := [d1, d2, d3] }
  | _ => none }
def vtableGrowsRow : OpenClaim := { program := "ytipinmbpdgjalaagreatdoor", sum := "840ec2ba0921ee07b8298dfed97eac0d70d8209fb27c6e4926e61bebe725898a", func := "arbiter/arbiterlaw13.VtableGrows", spec := "vtableGrows", inPlace := ["internal/bytealg.CountString", "internal/bytealg.IndexByteString", "internal/bytealg.IndexString"], unfollowed := true, recurses := true, named := ["unicode/utf8.first", "unicode/utf8.acceptRanges", "internal/bytealg.MaxLen"], apart := false, laid := [("unicode/utf8.acceptRanges", laid_unicode_utf8_acceptRanges), ("unicode/utf8.first", laid_unicode_utf8_first)] }
def VtableGrowsSaid : Prop := vtableGrowsRow.holds Tryz.pinned (OpenSpec.ofChange vtableGrowsSpec)

/-- ITS FALSE NEIGHBOUR: 'it returns false'. Refute it at one input. -/
def vtableGrowsWrong : ChangeSpec := { name := "vtableGrows", fn := fun _ => fun
  | [d1, d2, d3] => { results := [.lit (.bool false)], args := [d1, d2, d3] }
  | _ => none }
def VtableGrowsWrongFalsely : Prop := vtableGrowsRow.holds Tryz.pinned (OpenSpec.ofChange vtableGrowsWrong)

/-- 'arbiterlaw13.VtableOwn': WHATEVER THE INPUT: true; the input reads as it did. -/
def vtableOwnSpec : ChangeSpec := { name := "vtableOwn", fn := fun _ => fun
  | [d1, d2, d3] => { results := [.lit (.bool true)], args := [d1, d2, d3] }
  | _ => none }
def vtableOwnRow : OpenClaim := { program := "ytipinmbpdgjalaagreatdoor", sum := "840ec2ba0921ee07b8298dfed97eac0d70d8209fb27c6e4926e61bebe725898a", func := "arbiter/arbiterlaw13.VtableOwn", spec := "vtableOwn", inPlace := ["internal/bytealg.CountString", "internal/bytealg.IndexByteString", "internal/bytealg.IndexString"], unfollowed := true, recurses := true, named := ["unicode/utf8.first", "unicode/utf8.acceptRanges", "internal/bytealg.MaxLen"], apart := false, laid := [("unicode/utf8.acceptRanges", laid_unicode_utf8_acceptRanges), ("unicode/utf8.first", laid_unicode_utf8_first)] }
def VtableOwnSaid : Prop := vtableOwnRow.holds Tryz.pinned (OpenSpec.ofChange vtableOwnSpec)

/-- ITS FALSE NEIGHBOUR: 'it returns false'. Refute it at one input. -/
def vtableOwnWrong : ChangeSpec := { name := "vtableOwn", fn := fun _ => fun
  | [d1, d2, d3] => { results := [.lit (.bool false)], args := [d1, d2, d3] }
  | _ => none }
def VtableOwnWrongFalsely : Prop := vtableOwnRow.holds Tryz.pinned (OpenSpec.ofChange vtableOwnWrong)

/-- 'arbiterlaw13.VtableFirst': WHATEVER THE INPUT: true; the input reads as it did. -/
def vtableFirstSpec : ChangeSpec := { name := "vtableFirst", fn := fun _ => fun
  | [d] => { results := [.lit (.bool true)], args := [d] }
  | _ => none }
def vtableFirstRow : OpenClaim := { program := "ytipinmbpdgjalaagreatdoor", sum := "840ec2ba0921ee07b8298dfed97eac0d70d8209fb27c6e4926e61bebe725898a", func := "arbiter/arbiterlaw13.VtableFirst", spec := "vtableFirst", inPlace := ["internal/bytealg.CountString", "internal/bytealg.IndexByteString", "internal/bytealg.IndexString"], unfollowed := true, recurses := true, named := ["unicode/utf8.first", "unicode/utf8.acceptRanges", "internal/bytealg.MaxLen"], apart := false, laid := [("unicode/utf8.acceptRanges", laid_unicode_utf8_acceptRanges), ("unicode/utf8.first", laid_unicode_utf8_first)] }
def VtableFirstSaid : Prop := vtableFirstRow.holds Tryz.pinned (OpenSpec.ofChange vtableFirstSpec)

/-- ITS FALSE NEIGHBOUR: 'it returns false'. Refute it at one input. -/
def vtableFirstWrong : ChangeSpec := { name := "vtableFirst", fn := fun _ => fun
  | [d] => { results := [.lit (.bool false)], args := [d] }
  | _ => none }
def VtableFirstWrongFalsely : Prop := vtableFirstRow.holds Tryz.pinned (OpenSpec.ofChange vtableFirstWrong)

/-- 'arbiterlaw14.ItableDefaults': WHATEVER THE INPUT: true; the input reads as it did. -/
def itableDefaultsSpec : ChangeSpec := { name := "itableDefaults", fn := fun _ => fun
  | [d1, d2] => { results := [.lit (.bool true)], args := [d1, d2] }
  | _ => none }
def itableDefaultsRow : OpenClaim := { program := "ytipinmbpdgjalaagreatdoor", sum := "840ec2ba0921ee07b8298dfed97eac0d70d8209fb27c6e4926e61bebe725898a", func := "arbiter/arbiterlaw14.ItableDefaults", spec := "itableDefaults", inPlace := ["internal/bytealg.CountString", "internal/bytealg.IndexByteString", "internal/bytealg.IndexString"], unfollowed := true, recurses := true, named := ["unicode/utf8.first", "unicode/utf8.acceptRanges", "internal/bytealg.MaxLen"], apart := false, laid := [("unicode/utf8.acceptRanges", laid_unicode_utf8_acceptRanges), ("unicode/utf8.first", laid_unicode_utf8_first)] }
def ItableDefaultsSaid : Prop := itableDefaultsRow.holds Tryz.pinned (OpenSpec.ofChange itableDefaultsSpec)

/-- ITS FALSE NEIGHBOUR: 'it returns false'. Refute it at one input. -/
def itableDefaultsWrong : ChangeSpec := { name := "itableDefaults", fn := fun _ => fun
  | [d1, d2] => { results := [.lit (.bool false)], args := [d1, d2] }
  | _ => none }
def ItableDefaultsWrongFalsely : Prop := itableDefaultsRow.holds Tryz.pinned (OpenSpec.ofChange itableDefaultsWrong)

/-- 'arbiterlaw14.ItableGrows': WHATEVER THE INPUT: true; the input reads as it did. -/
def itableGrowsSpec : ChangeSpec := { name := "itableGrows", fn := fun _ => fun
  | [d1, d2, d3] => { results := [.lit (.bool true)], args := [d1, d2, d3] }
  | _ => none }
def itableGrowsRow : OpenClaim := { program := "ytipinmbpdgjalaagreatdoor", sum := "840ec2ba0921ee07b8298dfed97eac0d70d8209fb27c6e4926e61bebe725898a", func := "arbiter/arbiterlaw14.ItableGrows", spec := "itableGrows", inPlace := ["internal/bytealg.CountString", "internal/bytealg.IndexByteString", "internal/bytealg.IndexString"], unfollowed := true, recurses := true, named := ["unicode/utf8.first", "unicode/utf8.acceptRanges", "internal/bytealg.MaxLen"], apart := false, laid := [("unicode/utf8.acceptRanges", laid_unicode_utf8_acceptRanges), ("unicode/utf8.first", laid_unicode_utf8_first)] }
def ItableGrowsSaid : Prop := itableGrowsRow.holds Tryz.pinned (OpenSpec.ofChange itableGrowsSpec)

/-- ITS FALSE NEIGHBOUR: 'it returns false'. Refute it at one input. -/
def itableGrowsWrong : ChangeSpec := { name := "itableGrows", fn := fun _ => fun
  | [d1, d2, d3] => { results := [.lit (.bool false)], args := [d1, d2, d3] }
  | _ => none }
def ItableGrowsWrongFalsely : Prop := itableGrowsRow.holds Tryz.pinned (OpenSpec.ofChange itableGrowsWrong)

/-- 'arbiterlaw14.ItableSays': WHATEVER THE INPUT: true; the input reads as it did. -/
def itableSaysSpec : ChangeSpec := { name := "itableSays", fn := fun _ => fun
  | [d1, d2] => { results := [.lit (.bool true)], args := [d1, d2] }
  | _ => none }
def itableSaysRow : OpenClaim := { program := "ytipinmbpdgjalaagreatdoor", sum := "840ec2ba0921ee07b8298dfed97eac0d70d8209fb27c6e4926e61bebe725898a", func := "arbiter/arbiterlaw14.ItableSays", spec := "itableSays", inPlace := ["internal/bytealg.CountString", "internal/bytealg.IndexByteString", "internal/bytealg.IndexString"], unfollowed := true, recurses := true, named := ["unicode/utf8.first", "unicode/utf8.acceptRanges", "internal/bytealg.MaxLen"], apart := false, laid := [("unicode/utf8.acceptRanges", laid_unicode_utf8_acceptRanges), ("unicode/utf8.first", laid_unicode_utf8_first)] }
def ItableSaysSaid : Prop := itableSaysRow.holds Tryz.pinned (OpenSpec.ofChange itableSaysSpec)

/-- ITS FALSE NEIGHBOUR: 'it returns false'. Refute it at one input. -/
def itableSaysWrong : ChangeSpec := { name := "itableSays", fn := fun _ => fun
  | [d1, d2] => { results := [.lit (.bool false)], args := [d1, d2] }
  | _ => none }
def ItableSaysWrongFalsely : Prop := itableSaysRow.holds Tryz.pinned (OpenSpec.ofChange itableSaysWrong)

/- THE SECOND FORM. 'bulk': how many values and letters a reading holds, each counted each time it is reached (what is shared counts as often as it is met; a slice's spare places count too). A statement '..UptoSaid' is the law's where the arguments, and the package variables that the reading takes, are together of bulk at most 1048576: NARROWER than '..Said'. Prove '..Said' where nothing that the law and all that it calls make is longer than what came in: it says more and counts as full. Else prove '..UptoSaid'. A law counts once. -/
mutual
def uptoBulk {H : Type} : DataW H → Nat
  | .lit (.string bytes) => bytes.length + 1
  | .lit _ => 1
  | .nil => 1
  | .ptr d => uptoBulk d + 1
  | .slice elems spare => uptoBulkAll elems + uptoBulkAll spare + 1
  | .agg parts => uptoBulkAll parts + 1
  | .iface _ d => uptoBulk d + 1
  | .map entries => uptoBulkEntries entries + 1
  | .held _ => 1
def uptoBulkAll {H : Type} : List (DataW H) → Nat
  | [] => 0
  | d :: r => uptoBulk d + uptoBulkAll r
def uptoBulkEntries {H : Type} : List (Lit × DataW H) → Nat
  | [] => 0
  | x :: r => uptoBulkEntry x + uptoBulkEntries r
def uptoBulkEntry {H : Type} : Lit × DataW H → Nat
  | (.string bytes, d) => bytes.length + uptoBulk d + 1
  | (_, d) => uptoBulk d + 1
 end
def uptoSmall : (H : Type) → List (DataW H) → Bool := fun _ ds => decide (uptoBulkAll ds ≤ 1048576)
def OpenSpec.upto (s : _root_.Go.ChangeSpec) : _root_.Go.OpenSpec := { _root_.Go.OpenSpec.ofChange s with cond := some uptoSmall }

/-- 'arbiterlaw13.VtableGrows', WHERE WHAT IT READS IS OF BULK AT MOST 1048576: true; the input reads as it did. -/
def vtableGrowsUptoRow : OpenClaim := { program := "ytipinmbpdgjalaagreatdoor", sum := "840ec2ba0921ee07b8298dfed97eac0d70d8209fb27c6e4926e61bebe725898a", func := "arbiter/arbiterlaw13.VtableGrows", spec := "vtableGrows", inPlace := ["internal/bytealg.CountString", "internal/bytealg.IndexByteString", "internal/bytealg.IndexString"], unfollowed := true, recurses := true, named := ["unicode/utf8.first", "unicode/utf8.acceptRanges", "internal/bytealg.MaxLen"], apart := false, laid := [("unicode/utf8.acceptRanges", laid_unicode_utf8_acceptRanges), ("unicode/utf8.first", laid_unicode_utf8_first)], narrowed := true }
def VtableGrowsUptoSaid : Prop := vtableGrowsUptoRow.holds Tryz.pinned (OpenSpec.upto vtableGrowsSpec)

/-- 'arbiterlaw13.VtableOwn', WHERE WHAT IT READS IS OF BULK AT MOST 1048576: true; the input reads as it did. -/
def vtableOwnUptoRow : OpenClaim := { program := "ytipinmbpdgjalaagreatdoor", sum := "840ec2ba0921ee07b8298dfed97eac0d70d8209fb27c6e4926e61bebe725898a", func := "arbiter/arbiterlaw13.VtableOwn", spec := "vtableOwn", inPlace := ["internal/bytealg.CountString", "internal/bytealg.IndexByteString", "internal/bytealg.IndexString"], unfollowed := true, recurses := true, named := ["unicode/utf8.first", "unicode/utf8.acceptRanges", "internal/bytealg.MaxLen"], apart := false, laid := [("unicode/utf8.acceptRanges", laid_unicode_utf8_acceptRanges), ("unicode/utf8.first", laid_unicode_utf8_first)], narrowed := true }
def VtableOwnUptoSaid : Prop := vtableOwnUptoRow.holds Tryz.pinned (OpenSpec.upto vtableOwnSpec)

/-- 'arbiterlaw13.VtableFirst', WHERE WHAT IT READS IS OF BULK AT MOST 1048576: true; the input reads as it did. -/
def vtableFirstUptoRow : OpenClaim := { program := "ytipinmbpdgjalaagreatdoor", sum := "840ec2ba0921ee07b8298dfed97eac0d70d8209fb27c6e4926e61bebe725898a", func := "arbiter/arbiterlaw13.VtableFirst", spec := "vtableFirst", inPlace := ["internal/bytealg.CountString", "internal/bytealg.IndexByteString", "internal/bytealg.IndexString"], unfollowed := true, recurses := true, named := ["unicode/utf8.first", "unicode/utf8.acceptRanges", "internal/bytealg.MaxLen"], apart := false, laid := [("unicode/utf8.acceptRanges", laid_unicode_utf8_acceptRanges), ("unicode/utf8.first", laid_unicode_utf8_first)], narrowed := true }
def VtableFirstUptoSaid : Prop := vtableFirstUptoRow.holds Tryz.pinned (OpenSpec.upto vtableFirstSpec)

/-- 'arbiterlaw14.ItableDefaults', WHERE WHAT IT READS IS OF BULK AT MOST 1048576: true; the input reads as it did. -/
def itableDefaultsUptoRow : OpenClaim := { program := "ytipinmbpdgjalaagreatdoor", sum := "840ec2ba0921ee07b8298dfed97eac0d70d8209fb27c6e4926e61bebe725898a", func := "arbiter/arbiterlaw14.ItableDefaults", spec := "itableDefaults", inPlace := ["internal/bytealg.CountString", "internal/bytealg.IndexByteString", "internal/bytealg.IndexString"], unfollowed := true, recurses := true, named := ["unicode/utf8.first", "unicode/utf8.acceptRanges", "internal/bytealg.MaxLen"], apart := false, laid := [("unicode/utf8.acceptRanges", laid_unicode_utf8_acceptRanges), ("unicode/utf8.first", laid_unicode_utf8_first)], narrowed := true }
def ItableDefaultsUptoSaid : Prop := itableDefaultsUptoRow.holds Tryz.pinned (OpenSpec.upto itableDefaultsSpec)

/-- 'arbiterlaw14.ItableGrows', WHERE WHAT IT READS IS OF BULK AT MOST 1048576: true; the input reads as it did. -/
def itableGrowsUptoRow : OpenClaim := { program := "ytipinmbpdgjalaagreatdoor", sum := "840ec2ba0921ee07b8298dfed97eac0d70d8209fb27c6e4926e61bebe725898a", func := "arbiter/arbiterlaw14.ItableGrows", spec := "itableGrows", inPlace := ["internal/bytealg.CountString", "internal/bytealg.IndexByteString", "internal/bytealg.IndexString"], unfollowed := true, recurses := true, named := ["unicode/utf8.first", "unicode/utf8.acceptRanges", "internal/bytealg.MaxLen"], apart := false, laid := [("unicode/utf8.acceptRanges", laid_unicode_utf8_acceptRanges), ("unicode/utf8.first", laid_unicode_utf8_first)], narrowed := true }
def ItableGrowsUptoSaid : Prop := itableGrowsUptoRow.holds Tryz.pinned (OpenSpec.upto itableGrowsSpec)

/-- 'arbiterlaw14.ItableSays', WHERE WHAT IT READS IS OF BULK AT MOST 1048576: true; the input reads as it did. -/
def itableSaysUptoRow : OpenClaim := { program := "ytipinmbpdgjalaagreatdoor", sum := "840ec2ba0921ee07b8298dfed97eac0d70d8209fb27c6e4926e61bebe725898a", func := "arbiter/arbiterlaw14.ItableSays", spec := "itableSays", inPlace := ["internal/bytealg.CountString", "internal/bytealg.IndexByteString", "internal/bytealg.IndexString"], unfollowed := true, recurses := true, named := ["unicode/utf8.first", "unicode/utf8.acceptRanges", "internal/bytealg.MaxLen"], apart := false, laid := [("unicode/utf8.acceptRanges", laid_unicode_utf8_acceptRanges), ("unicode/utf8.first", laid_unicode_utf8_first)], narrowed := true }
def ItableSaysUptoSaid : Prop := itableSaysUptoRow.holds Tryz.pinned (OpenSpec.upto itableSaysSpec)

end Rows
end Go.Proofs.YtipinmbpdgjalaaGreatDoor
