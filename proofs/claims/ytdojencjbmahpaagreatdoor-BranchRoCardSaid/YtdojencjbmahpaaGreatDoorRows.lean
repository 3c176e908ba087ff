/-
  NARROWER THAN 'FOR EVERY INPUT', by the rows' own cells (each row's printed sentence says how): BranchOwn: laid · BranchPlays: laid · BranchRuns: laid · BranchTurns: laid · BranchOrder: laid · BranchRo: laid · BranchLinks: laid · ModelDoes: laid · ModelPlays: laid · ModelSame: laid · ModelOrder: laid.
  DERIVED. THE GIVEN ROWS OF THIS SEAT. 11 by the template 'for every input the law returns true; each argument reads behind the call as it read before'; 0 by the template 'total and deterministic' (their statements: YtdojencjbmahpaaGreatDoorTotals.lean).
  GIVEN WITH THE SEED: the statements are not yours to turn. If you find one false, say at which input.
  Laid BY PROGRAM, IN A SANDBOX (cutbox-rows.mjs): the forced cells as the released guide's own fill.sh prints them over the translation 8263ae8656d52f3e… (all of the seat's roots in one cut). By AI agents, Wed Nov 11 2026. No macro, syntax, notation, axiom, sorry.
-/
import Derived.Test.YtdojencjbmahpaaGreatDoorChecked
import GoSem.PinnedTables
import GoSem.Claim
import GoSem.ClaimJoined
import GoSem.ClaimMapViews
import Derived.JoinedTies
import Derived.KernelRfl
namespace Go.Proofs.YtdojencjbmahpaaGreatDoor
/- THE CELL 'sum', in the pinned program and in every row, IS THE sha256 OF THE DUMP (.gsa) THAT YtdojencjbmahpaaGreatDoorProg.lean LOADS. Nothing in Lean hashes anything: it is a label: what it is worth is what the hold of that sum in a sandbox is worth. -/
noncomputable def Tryz.pinned : Pinned := { name := "ytdojencjbmahpaagreatdoor", sum := "8263ae8656d52f3e5c55345c3dee7359a73bb1699dd34d9f836cb1605def290a", checked := Tryz.checked }
namespace Rows
def none {H : Type} : Left H := { results := [], args := [] }

/- WHAT THE LISTED PACKAGE-LEVEL VARIABLES READ AS WHEN THE CALL BEGINS. Each datum BY PROGRAM (the guide's laid-datum.mjs) off the statement by which the dump's own 'gosem.cut.vars' lays the variable. In a bare row this is a premise. The card (YtdojencjbmahpaaGreatDoorCards.lean) ties it to the program's text. -/
def laid_unicode_utf8_acceptRanges {H : Type} : DataW H := .agg [.agg [.lit (.int .u8 128), .lit (.int .u8 191)], .agg [.lit (.int .u8 160), .lit (.int .u8 191)], .agg [.lit (.int .u8 128), .lit (.int .u8 159)], .agg [.lit (.int .u8 144), .lit (.int .u8 191)], .agg [.lit (.int .u8 128), .lit (.int .u8 143)], .agg [.lit (.int .u8 0), .lit (.int .u8 0)], .agg [.lit (.int .u8 0), .lit (.int .u8 0)], .agg [.lit (.int .u8 0), .lit (.int .u8 0)], .agg [.lit (.int .u8 0), .lit (.int .u8 0)], .agg [.lit (.int .u8 0), .lit (.int .u8 0)], .agg [.lit (.int .u8 0), .lit (.int .u8 0)], .agg [.lit (.int .u8 0), .lit (.int .u8 0)], .agg [.lit (.int .u8 0), .lit (.int .u8 0)], .agg [.lit (.int .u8 0), .lit (.int .u8 0)], .agg [.lit (.int .u8 0), .lit (.int .u8 0)], .agg [.lit (.int .u8 0), .lit (.int .u8 0)]]
/-- One of Go's own tables, pinned by name: the form's constant. -/
def laid_unicode_utf8_first : DataW Unit := Go.Pinned.utf8First

/-- 'veneerlaw8.BranchOwn': WHATEVER THE INPUT: true; the input reads as it did. -/
def branchOwnSpec : ChangeSpec := { name := "branchOwn", fn := fun _ => fun
  | [d1, d2] => { results := [.lit (.bool true)], args := [d1, d2] }
  | _ => none }
def branchOwnRow : OpenClaim := { program := "ytdojencjbmahpaagreatdoor", sum := "8263ae8656d52f3e5c55345c3dee7359a73bb1699dd34d9f836cb1605def290a", func := "veneer/veneerlaw8.BranchOwn", spec := "branchOwn", inPlace := ["internal/bytealg.IndexByteString", "internal/bytealg.IndexString", "internal/bytealg.CountString", "slices.overlaps[veneer/api.Node]", "slices.overlaps[veneer/api.Name]", "slices.overlaps[veneer/api.Block]"], unfollowed := true, recurses := true, named := ["internal/bytealg.MaxLen", "unicode/utf8.first", "unicode/utf8.acceptRanges"], apart := false, laid := [("unicode/utf8.acceptRanges", laid_unicode_utf8_acceptRanges), ("unicode/utf8.first", laid_unicode_utf8_first)] }
def BranchOwnSaid : Prop := branchOwnRow.holds Tryz.pinned (OpenSpec.ofChange branchOwnSpec)

/-- ITS FALSE NEIGHBOUR: 'it returns false'. Refute it at one input. -/
def branchOwnWrong : ChangeSpec := { name := "branchOwn", fn := fun _ => fun
  | [d1, d2] => { results := [.lit (.bool false)], args := [d1, d2] }
  | _ => none }
def BranchOwnWrongFalsely : Prop := branchOwnRow.holds Tryz.pinned (OpenSpec.ofChange branchOwnWrong)

/-- 'veneerlaw8.BranchPlays': WHATEVER THE INPUT: true; the input reads as it did. -/
def branchPlaysSpec : ChangeSpec := { name := "branchPlays", fn := fun _ => fun
  | [d1, d2, d3, d4] => { results := [.lit (.bool true)], args := [d1, d2, d3, d4] }
  | _ => none }
def branchPlaysRow : OpenClaim := { program := "ytdojencjbmahpaagreatdoor", sum := "8263ae8656d52f3e5c55345c3dee7359a73bb1699dd34d9f836cb1605def290a", func := "veneer/veneerlaw8.BranchPlays", spec := "branchPlays", inPlace := ["internal/bytealg.IndexByteString", "internal/bytealg.IndexString", "internal/bytealg.CountString", "slices.overlaps[veneer/api.Node]", "slices.overlaps[veneer/api.Name]", "slices.overlaps[veneer/api.Block]"], unfollowed := true, recurses := true, named := ["internal/bytealg.MaxLen", "unicode/utf8.first", "unicode/utf8.acceptRanges"], apart := false, laid := [("unicode/utf8.acceptRanges", laid_unicode_utf8_acceptRanges), ("unicode/utf8.first", laid_unicode_utf8_first)] }
def BranchPlaysSaid : Prop := branchPlaysRow.holds Tryz.pinned (OpenSpec.ofChange branchPlaysSpec)

/-- ITS FALSE NEIGHBOUR: 'it returns false'. Refute it at one input. -/
def branchPlaysWrong : ChangeSpec := { name := "branchPlays", fn := fun _ => fun
  | [d1, d2, d3, d4] => { results := [.lit (.bool false)], args := [d1, d2, d3, d4] }
  | _ => none }
def BranchPlaysWrongFalsely : Prop := branchPlaysRow.holds Tryz.pinned (OpenSpec.ofChange branchPlaysWrong)

/-- 'veneerlaw8.BranchRuns': WHATEVER THE INPUT: true; the input reads as it did. -/
def branchRunsSpec : ChangeSpec := { name := "branchRuns", fn := fun _ => fun
  | [d1, d2, d3] => { results := [.lit (.bool true)], args := [d1, d2, d3] }
  | _ => none }
def branchRunsRow : OpenClaim := { program := "ytdojencjbmahpaagreatdoor", sum := "8263ae8656d52f3e5c55345c3dee7359a73bb1699dd34d9f836cb1605def290a", func := "veneer/veneerlaw8.BranchRuns", spec := "branchRuns", inPlace := ["internal/bytealg.IndexByteString", "internal/bytealg.IndexString", "internal/bytealg.CountString", "slices.overlaps[veneer/api.Node]", "slices.overlaps[veneer/api.Name]", "slices.overlaps[veneer/api.Block]"], unfollowed := true, recurses := true, named := ["internal/bytealg.MaxLen", "unicode/utf8.first", "unicode/utf8.acceptRanges"], apart := false, laid := [("unicode/utf8.acceptRanges", laid_unicode_utf8_acceptRanges), ("unicode/utf8.first", laid_unicode_utf8_first)] }
def BranchRunsSaid : Prop := branchRunsRow.holds Tryz.pinned (OpenSpec.ofChange branchRunsSpec)

/-- ITS FALSE NEIGHBOUR: 'it returns false'. Refute it at one input. -/
def branchRunsWrong : ChangeSpec := { name := "branchRuns", fn := fun _ => fun
  | [d1, d2, d3] => { results := [.lit (.bool false)], args := [d1, d2, d3] }
  | _ => none }
def BranchRunsWrongFalsely : Prop := branchRunsRow.holds Tryz.pinned (OpenSpec.ofChange branchRunsWrong)

/-- 'veneerlaw8.BranchTurns': WHATEVER THE INPUT: true; the input reads as it did. -/
def branchTurnsSpec : ChangeSpec := { name := "branchTurns", fn := fun _ => fun
  | [d1, d2, d3] => { results := [.lit (.bool true)], args := [d1, d2, d3] }
  | _ => none }
def branchTurnsRow : OpenClaim := { program := "ytdojencjbmahpaagreatdoor", sum := "8263ae8656d52f3e5c55345c3dee7359a73bb1699dd34d9f836cb1605def290a", func := "veneer/veneerlaw8.BranchTurns", spec := "branchTurns", inPlace := ["internal/bytealg.IndexByteString", "internal/bytealg.IndexString", "internal/bytealg.CountString", "slices.overlaps[veneer/api.Node]", "slices.overlaps[veneer/api.Name]", "slices.overlaps[veneer/api.Block]"], unfollowed := true, recurses := true, named := ["internal/bytealg.MaxLen", "unicode/utf8.first", "unicode/utf8.acceptRanges"], apart := false, laid := [("unicode/utf8.acceptRanges", laid_unicode_utf8_acceptRanges), ("unicode/utf8.first", laid_unicode_utf8_first)] }
def BranchTurnsSaid : Prop := branchTurnsRow.holds Tryz.pinned (OpenSpec.ofChange branchTurnsSpec)

/-- ITS FALSE NEIGHBOUR: 'it returns false'. Refute it at one input. -/
def branchTurnsWrong : ChangeSpec := { name := "branchTurns", fn := fun _ => fun
  | [d1, d2, d3] => { results := [.lit (.bool false)], args := [d1, d2, d3] }
  | _ => none }
def BranchTurnsWrongFalsely : Prop := branchTurnsRow.holds Tryz.pinned (OpenSpec.ofChange branchTurnsWrong)

/-- 'veneerlaw8.BranchOrder': WHATEVER THE INPUT: true; the input reads as it did. -/
def branchOrderSpec : ChangeSpec := { name := "branchOrder", fn := fun _ => fun
  | [d] => { results := [.lit (.bool true)], args := [d] }
  | _ => none }
def branchOrderRow : OpenClaim := { program := "ytdojencjbmahpaagreatdoor", sum := "8263ae8656d52f3e5c55345c3dee7359a73bb1699dd34d9f836cb1605def290a", func := "veneer/veneerlaw8.BranchOrder", spec := "branchOrder", inPlace := ["internal/bytealg.IndexByteString", "internal/bytealg.IndexString", "internal/bytealg.CountString", "slices.overlaps[veneer/api.Node]", "slices.overlaps[veneer/api.Name]", "slices.overlaps[veneer/api.Block]"], unfollowed := true, recurses := true, named := ["internal/bytealg.MaxLen", "unicode/utf8.first", "unicode/utf8.acceptRanges"], apart := false, laid := [("unicode/utf8.acceptRanges", laid_unicode_utf8_acceptRanges), ("unicode/utf8.first", laid_unicode_utf8_first)] }
def BranchOrderSaid : Prop := branchOrderRow.holds Tryz.pinned (OpenSpec.ofChange branchOrderSpec)

/-- ITS FALSE NEIGHBOUR: 'it returns false'. Refute it at one input. -/
def branchOrderWrong : ChangeSpec := { name := "branchOrder", fn := fun _ => fun
  | [d] => { results := [.lit (.bool false)], args := [d] }
  | _ => none }
def BranchOrderWrongFalsely : Prop := branchOrderRow.holds Tryz.pinned (OpenSpec.ofChange branchOrderWrong)

/-- 'veneerlaw8.BranchRo': WHATEVER THE INPUT: true; the input reads as it did. -/
def branchRoSpec : ChangeSpec := { name := "branchRo", fn := fun _ => fun
  | [d] => { results := [.lit (.bool true)], args := [d] }
  | _ => none }
def branchRoRow : OpenClaim := { program := "ytdojencjbmahpaagreatdoor", sum := "8263ae8656d52f3e5c55345c3dee7359a73bb1699dd34d9f836cb1605def290a", func := "veneer/veneerlaw8.BranchRo", spec := "branchRo", inPlace := ["internal/bytealg.IndexByteString", "internal/bytealg.IndexString", "internal/bytealg.CountString", "slices.overlaps[veneer/api.Node]", "slices.overlaps[veneer/api.Name]", "slices.overlaps[veneer/api.Block]"], unfollowed := true, recurses := true, named := ["internal/bytealg.MaxLen", "unicode/utf8.first", "unicode/utf8.acceptRanges"], apart := false, laid := [("unicode/utf8.acceptRanges", laid_unicode_utf8_acceptRanges), ("unicode/utf8.first", laid_unicode_utf8_first)] }
def BranchRoSaid : Prop := branchRoRow.holds Tryz.pinned (OpenSpec.ofChange branchRoSpec)

/-- ITS FALSE NEIGHBOUR: 'it returns false'. Refute it at one input. -/
def branchRoWrong : ChangeSpec := { name := "branchRo", fn := fun _ => fun
  | [d] => { results := [.lit (.bool false)], args := [d] }
  | _ => none }
def BranchRoWrongFalsely : Prop := branchRoRow.holds Tryz.pinned (OpenSpec.ofChange branchRoWrong)

/-- 'veneerlaw8.BranchLinks': WHATEVER THE INPUT: true; the input reads as it did. -/
def branchLinksSpec : ChangeSpec := { name := "branchLinks", fn := fun _ => fun
  | [d] => { results := [.lit (.bool true)], args := [d] }
  | _ => none }
def branchLinksRow : OpenClaim := { program := "ytdojencjbmahpaagreatdoor", sum := "8263ae8656d52f3e5c55345c3dee7359a73bb1699dd34d9f836cb1605def290a", func := "veneer/veneerlaw8.BranchLinks", spec := "branchLinks", inPlace := ["internal/bytealg.IndexByteString", "internal/bytealg.IndexString", "internal/bytealg.CountString", "slices.overlaps[veneer/api.Node]", "slices.overlaps[veneer/api.Name]", "slices.overlaps[veneer/api.Block]"], unfollowed := true, recurses := true, named := ["internal/bytealg.MaxLen", "unicode/utf8.first", "unicode/utf8.acceptRanges"], apart := false, laid := [("unicode/utf8.acceptRanges", laid_unicode_utf8_acceptRanges), ("unicode/utf8.first", laid_unicode_utf8_first)] }
def BranchLinksSaid : Prop := branchLinksRow.holds Tryz.pinned (OpenSpec.ofChange branchLinksSpec)

/-- ITS FALSE NEIGHBOUR: 'it returns false'. Refute it at one input. -/
def branchLinksWrong : ChangeSpec := { name := "branchLinks", fn := fun _ => fun
  | [d] => { results := [.lit (.bool false)], args := [d] }
  | _ => none }
def BranchLinksWrongFalsely : Prop := branchLinksRow.holds Tryz.pinned (OpenSpec.ofChange branchLinksWrong)

/-- 'veneerlaw22.ModelDoes': WHATEVER THE INPUT: true; the input reads as it did. -/
def modelDoesSpec : ChangeSpec := { name := "modelDoes", fn := fun _ => fun
  | [d1, d2] => { results := [.lit (.bool true)], args := [d1, d2] }
  | _ => none }
def modelDoesRow : OpenClaim := { program := "ytdojencjbmahpaagreatdoor", sum := "8263ae8656d52f3e5c55345c3dee7359a73bb1699dd34d9f836cb1605def290a", func := "veneer/veneerlaw22.ModelDoes", spec := "modelDoes", inPlace := ["internal/bytealg.IndexByteString", "internal/bytealg.IndexString", "internal/bytealg.CountString", "slices.overlaps[veneer/api.Node]", "slices.overlaps[veneer/api.Name]", "slices.overlaps[veneer/api.Block]"], unfollowed := true, recurses := true, named := ["internal/bytealg.MaxLen", "unicode/utf8.first", "unicode/utf8.acceptRanges"], apart := false, laid := [("unicode/utf8.acceptRanges", laid_unicode_utf8_acceptRanges), ("unicode/utf8.first", laid_unicode_utf8_first)] }
def ModelDoesSaid : Prop := modelDoesRow.holds Tryz.pinned (OpenSpec.ofChange modelDoesSpec)

/-- ITS FALSE NEIGHBOUR: 'it returns false'. Refute it at one input. -/
def modelDoesWrong : ChangeSpec := { name := "modelDoes", fn := fun _ => fun
  | [d1, d2] => { results := [.lit (.bool false)], args := [d1, d2] }
  | _ => none }
def ModelDoesWrongFalsely : Prop := modelDoesRow.holds Tryz.pinned (OpenSpec.ofChange modelDoesWrong)

/-- 'veneerlaw22.ModelPlays': WHATEVER THE INPUT: true; the input reads as it did. -/
def modelPlaysSpec : ChangeSpec := { name := "modelPlays", fn := fun _ => fun
  | [d] => { results := [.lit (.bool true)], args := [d] }
  | _ => none }
def modelPlaysRow : OpenClaim := { program := "ytdojencjbmahpaagreatdoor", sum := "8263ae8656d52f3e5c55345c3dee7359a73bb1699dd34d9f836cb1605def290a", func := "veneer/veneerlaw22.ModelPlays", spec := "modelPlays", inPlace := ["internal/bytealg.IndexByteString", "internal/bytealg.IndexString", "internal/bytealg.CountString", "slices.overlaps[veneer/api.Node]", "slices.overlaps[veneer/api.Name]", "slices.overlaps[veneer/api.Block]"], unfollowed := true, recurses := true, named := ["internal/bytealg.MaxLen", "unicode/utf8.first", "unicode/utf8.acceptRanges"], apart := false, laid := [("unicode/utf8.acceptRanges", laid_unicode_utf8_acceptRanges), ("unicode/utf8.first", laid_unicode_utf8_first)] }
def ModelPlaysSaid : Prop := modelPlaysRow.holds Tryz.pinned (OpenSpec.ofChange modelPlaysSpec)

/-- ITS FALSE NEIGHBOUR: 'it returns false'. Refute it at one input. -/
def modelPlaysWrong : ChangeSpec := { name := "modelPlays", fn := fun _ => fun
  | [d] => { results := [.lit (.bool false)], args := [d] }
  | _ => none }
def ModelPlaysWrongFalsely : Prop := modelPlaysRow.holds Tryz.pinned (OpenSpec.ofChange modelPlaysWrong)

/-- 'veneerlaw22.ModelSame': WHATEVER THE INPUT: true; the input reads as it did. -/
def modelSameSpec : ChangeSpec := { name := "modelSame", fn := fun _ => fun
  | [d1, d2] => { results := [.lit (.bool true)], args := [d1, d2] }
  | _ => none }
def modelSameRow : OpenClaim := { program := "ytdojencjbmahpaagreatdoor", sum := "8263ae8656d52f3e5c55345c3dee7359a73bb1699dd34d9f836cb1605def290a", func := "veneer/veneerlaw22.ModelSame", spec := "modelSame", inPlace := ["internal/bytealg.IndexByteString", "internal/bytealg.IndexString", "internal/bytealg.CountString", "slices.overlaps[veneer/api.Node]", "slices.overlaps[veneer/api.Name]", "slices.overlaps[veneer/api.Block]"], unfollowed := true, recurses := true, named := ["internal/bytealg.MaxLen", "unicode/utf8.first", "unicode/utf8.acceptRanges"], apart := false, laid := [("unicode/utf8.acceptRanges", laid_unicode_utf8_acceptRanges), ("unicode/utf8.first", laid_unicode_utf8_first)] }
def ModelSameSaid : Prop := modelSameRow.holds Tryz.pinned (OpenSpec.ofChange modelSameSpec)

/-- ITS FALSE NEIGHBOUR: 'it returns false'. Refute it at one input. -/
def modelSameWrong : ChangeSpec := { name := "modelSame", fn := fun _ => fun
  | [d1, d2] => { results := [.lit (.bool false)], args := [d1, d2] }
  | _ => none }
def ModelSameWrongFalsely : Prop := modelSameRow.holds Tryz.pinned (OpenSpec.ofChange modelSameWrong)

/-- 'veneerlaw22.ModelOrder': WHATEVER THE INPUT: true; the input reads as it did. -/
def modelOrderSpec : ChangeSpec := { name := "modelOrder", fn := fun _ => fun
  | [d] => { results := [.lit (.bool true)], args := [d] }
  | _ => none }
def modelOrderRow : OpenClaim := { program := "ytdojencjbmahpaagreatdoor", sum := "8263ae8656d52f3e5c55345c3dee7359a73bb1699dd34d9f836cb1605def290a", func := "veneer/veneerlaw22.ModelOrder", spec := "modelOrder", inPlace := ["internal/bytealg.IndexByteString", "internal/bytealg.IndexString", "internal/bytealg.CountString", "slices.overlaps[veneer/api.Node]", "slices.overlaps[veneer/api.Name]", "slices.overlaps[veneer/api.Block]"], unfollowed := true, recurses := true, named := ["internal/bytealg.MaxLen", "unicode/utf8.first", "unicode/utf8.acceptRanges"], apart := false, laid := [("unicode/utf8.acceptRanges", laid_unicode_utf8_acceptRanges), ("unicode/utf8.first", laid_unicode_utf8_first)] }
def ModelOrderSaid : Prop := modelOrderRow.holds Tryz.pinned (OpenSpec.ofChange modelOrderSpec)

/-- ITS FALSE NEIGHBOUR: 'it returns false'. Refute it at one input. -/
def modelOrderWrong : ChangeSpec := { name := "modelOrder", fn := fun _ => fun
  | [d] => { results := [.lit (.bool false)], args := [d] }
  | _ => none }
def ModelOrderWrongFalsely : Prop := modelOrderRow.holds Tryz.pinned (OpenSpec.ofChange modelOrderWrong)

/- THE SECOND FORM. 'bulk': how many values and letters a reading holds, each counted each time it is reached (what is shared counts as often as it is met; a slice's spare places count too). A statement '..UptoSaid' is the law's where the arguments, and the package variables that the reading takes, are together of bulk at most 1048576: NARROWER than '..Said'. Prove '..Said' where nothing that the law and all that it calls make is longer than what came in: it says more and counts as full. Else prove '..UptoSaid'. A law counts once. -/
mutual
def uptoBulk {H : Type} : DataW H → Nat
  | .lit (.string bytes) => bytes.length + 1
  | .lit _ => 1
  | .nil => 1
  | .ptr d => uptoBulk d + 1
  | .slice elems spare => uptoBulkAll elems + uptoBulkAll spare + 1
  | .agg parts => uptoBulkAll parts + 1
  | .iface _ d => uptoBulk d + 1
  | .map entries => uptoBulkEntries entries + 1
  | .held _ => 1
def uptoBulkAll {H : Type} : List (DataW H) → Nat
  | [] => 0
  | d :: r => uptoBulk d + uptoBulkAll r
def uptoBulkEntries {H : Type} : List (Lit × DataW H) → Nat
  | [] => 0
  | x :: r => uptoBulkEntry x + uptoBulkEntries r
def uptoBulkEntry {H : Type} : Lit × DataW H → Nat
  | (.string bytes, d) => bytes.length + uptoBulk d + 1
  | (_, d) => uptoBulk d + 1
 end
def uptoSmall : (H : Type) → List (DataW H) → Bool := fun _ ds => decide (uptoBulkAll ds ≤ 1048576)
def OpenSpec.upto (s : _root_.Go.ChangeSpec) : _root_.Go.OpenSpec := { _root_.Go.OpenSpec.ofChange s with cond := some uptoSmall }

/-- 'veneerlaw8.BranchOwn', WHERE WHAT IT READS IS OF BULK AT MOST 1048576: true; the input reads as it did. -/
def branchOwnUptoRow : OpenClaim := { program := "ytdojencjbmahpaagreatdoor", sum := "8263ae8656d52f3e5c55345c3dee7359a73bb1699dd34d9f836cb1605def290a", func := "veneer/veneerlaw8.BranchOwn", spec := "branchOwn", inPlace := ["internal/bytealg.IndexByteString", "internal/bytealg.IndexString", "internal/bytealg.CountString", "slices.overlaps[veneer/api.Node]", "slices.overlaps[veneer/api.Name]", "slices.overlaps[veneer/api.Block]"], unfollowed := true, recurses := true, named := ["internal/bytealg.MaxLen", "unicode/utf8.first", "unicode/utf8.acceptRanges"], apart := false, laid := [("unicode/utf8.acceptRanges", laid_unicode_utf8_acceptRanges), ("unicode/utf8.first", laid_unicode_utf8_first)], narrowed := true }
def BranchOwnUptoSaid : Prop := branchOwnUptoRow.holds Tryz.pinned (OpenSpec.upto branchOwnSpec)

/-- 'veneerlaw8.BranchPlays', WHERE WHAT IT READS IS OF BULK AT MOST 1048576: true; the input reads as it did. -/
def branchPlaysUptoRow : OpenClaim := { program := "ytdojencjbmahpaagreatdoor", sum := "8263ae8656d52f3e5c55345c3dee7359a73bb1699dd34d9f836cb1605def290a", func := "veneer/veneerlaw8.BranchPlays", spec := "branchPlays", inPlace := ["internal/bytealg.IndexByteString", "internal/bytealg.IndexString", "internal/bytealg.CountString", "slices.overlaps[veneer/api.Node]", "slices.overlaps[veneer/api.Name]", "slices.overlaps[veneer/api.Block]"], unfollowed := true, recurses := true, named := ["internal/bytealg.MaxLen", "unicode/utf8.first", "unicode/utf8.acceptRanges"], apart := false, laid := [("unicode/utf8.acceptRanges", laid_unicode_utf8_acceptRanges), ("unicode/utf8.first", laid_unicode_utf8_first)], narrowed := true }
def BranchPlaysUptoSaid : Prop := branchPlaysUptoRow.holds Tryz.pinned (OpenSpec.upto branchPlaysSpec)

/-- 'veneerlaw8.BranchRuns', WHERE WHAT IT READS IS OF BULK AT MOST 1048576: true; the input reads as it did. -/
def branchRunsUptoRow : OpenClaim := { program := "ytdojencjbmahpaagreatdoor", sum := "8263ae8656d52f3e5c55345c3dee7359a73bb1699dd34d9f836cb1605def290a", func := "veneer/veneerlaw8.BranchRuns", spec := "branchRuns", inPlace := ["internal/bytealg.IndexByteString", "internal/bytealg.IndexString", "internal/bytealg.CountString", "slices.overlaps[veneer/api.Node]", "slices.overlaps[veneer/api.Name]", "slices.overlaps[veneer/api.Block]"], unfollowed := true, recurses := true, named := ["internal/bytealg.MaxLen", "unicode/utf8.first", "unicode/utf8.acceptRanges"], apart := false, laid := [("unicode/utf8.acceptRanges", laid_unicode_utf8_acceptRanges), ("unicode/utf8.first", laid_unicode_utf8_first)], narrowed := true }
def BranchRunsUptoSaid : Prop := branchRunsUptoRow.holds Tryz.pinned (OpenSpec.upto branchRunsSpec)

/-- 'veneerlaw8.BranchTurns', WHERE WHAT IT READS IS OF BULK AT MOST 1048576: true; the input reads as it did. -/
def branchTurnsUptoRow : OpenClaim := { program := "ytdojencjbmahpaagreatdoor", sum := "8263ae8656d52f3e5c55345c3dee7359a73bb1699dd34d9f836cb1605def290a", func := "veneer/veneerlaw8.BranchTurns", spec := "branchTurns", inPlace := ["internal/bytealg.IndexByteString", "internal/bytealg.IndexString", "internal/bytealg.CountString", "slices.overlaps[veneer/api.Node]", "slices.overlaps[veneer/api.Name]", "slices.overlaps[veneer/api.Block]"], unfollowed := true, recurses := true, named := ["internal/bytealg.MaxLen", "unicode/utf8.first", "unicode/utf8.acceptRanges"], apart := false, laid := [("unicode/utf8.acceptRanges", laid_unicode_utf8_acceptRanges), ("unicode/utf8.first", laid_unicode_utf8_first)], narrowed := true }
def BranchTurnsUptoSaid : Prop := branchTurnsUptoRow.holds Tryz.pinned (OpenSpec.upto branchTurnsSpec)

/-- 'veneerlaw8.BranchOrder', WHERE WHAT IT READS IS OF BULK AT MOST 1048576: true; the input reads as it did. -/
def branchOrderUptoRow : OpenClaim := { program := "ytdojencjbmahpaagreatdoor", sum := "8263ae8656d52f3e5c55345c3dee7359a73bb1699dd34d9f836cb1605def290a", func := "veneer/veneerlaw8.BranchOrder", spec := "branchOrder", inPlace := ["internal/bytealg.IndexByteString", "internal/bytealg.IndexString", "internal/bytealg.CountString", "slices.overlaps[veneer/api.Node]", "slices.overlaps[veneer/api.Name]", "slices.overlaps[veneer/api.Block]"], unfollowed := true, recurses := true, named := ["internal/bytealg.MaxLen", "unicode/utf8.first", "unicode/utf8.acceptRanges"], apart := false, laid := [("unicode/utf8.acceptRanges", laid_unicode_utf8_acceptRanges), ("unicode/utf8.first", laid_unicode_utf8_first)], narrowed := true }
def BranchOrderUptoSaid : Prop := branchOrderUptoRow.holds Tryz.pinned (OpenSpec.upto branchOrderSpec)

/-- 'veneerlaw8.BranchRo', WHERE WHAT IT READS IS OF BULK AT MOST 1048576: true; the input reads as it did. -/
def branchRoUptoRow : OpenClaim := { program := "ytdojencjbmahpaagreatdoor", sum := "8263ae8656d52f3e5c55345c3dee7359a73bb1699dd34d9f836cb1605def290a", func := "veneer/veneerlaw8.BranchRo", spec := "branchRo", inPlace := ["internal/bytealg.IndexByteString", "internal/bytealg.IndexString", "internal/bytealg.CountString", "slices.overlaps[veneer/api.Node]", "slices.overlaps[veneer/api.Name]", "slices.overlaps[veneer/api.Block]"], unfollowed := true, recurses := true, named := ["internal/bytealg.MaxLen", "unicode/utf8.first", "unicode/utf8.acceptRanges"], apart := false, laid := [("unicode/utf8.acceptRanges", laid_unicode_utf8_acceptRanges), ("unicode/utf8.first", laid_unicode_utf8_first)], narrowed := true }
def BranchRoUptoSaid : Prop := branchRoUptoRow.holds Tryz.pinned (OpenSpec.upto branchRoSpec)

/-- 'veneerlaw8.BranchLinks', WHERE WHAT IT READS IS OF BULK AT MOST 1048576: true; the input reads as it did. -/
def branchLinksUptoRow : OpenClaim := { program := "ytdojencjbmahpaagreatdoor", sum := "8263ae8656d52f3e5c55345c3dee7359a73bb1699dd34d9f836cb1605def290a", func := "veneer/veneerlaw8.BranchLinks", spec := "branchLinks", inPlace := ["internal/bytealg.IndexByteString", "internal/bytealg.IndexString", "internal/bytealg.CountString", "slices.overlaps[veneer/api.Node]", "slices.overlaps[veneer/api.Name]", "slices.overlaps[veneer/api.Block]"], unfollowed := true, recurses := true, named := ["internal/bytealg.MaxLen", "unicode/utf8.first", "unicode/utf8.acceptRanges"], apart := false, laid := [("unicode/utf8.acceptRanges", laid_unicode_utf8_acceptRanges), ("unicode/utf8.first", laid_unicode_utf8_first)], narrowed := true }
def BranchLinksUptoSaid : Prop := branchLinksUptoRow.holds Tryz.pinned (OpenSpec.upto branchLinksSpec)

/-- 'veneerlaw22.ModelDoes', WHERE WHAT IT READS IS OF BULK AT MOST 1048576: true; the input reads as it did. -/
def modelDoesUptoRow : OpenClaim := { program := "ytdojencjbmahpaagreatdoor", sum := "8263ae8656d52f3e5c55345c3dee7359a73bb1699dd34d9f836cb1605def290a", func := "veneer/veneerlaw22.ModelDoes", spec := "modelDoes", inPlace := ["internal/bytealg.IndexByteString", "internal/bytealg.IndexString", "internal/bytealg.CountString", "slices.overlaps[veneer/api.Node]", "slices.overlaps[veneer/api.Name]", "slices.overlaps[veneer/api.Block]"], unfollowed := true, recurses := true, named := ["internal/bytealg.MaxLen", "unicode/utf8.first", "unicode/utf8.acceptRanges"], apart := false, laid := [("unicode/utf8.acceptRanges", laid_unicode_utf8_acceptRanges), ("unicode/utf8.first", laid_unicode_utf8_first)], narrowed := true }
def ModelDoesUptoSaid : Prop := modelDoesUptoRow.holds Tryz.pinned (OpenSpec.upto modelDoesSpec)

/-- 'veneerlaw22.ModelPlays', WHERE WHAT IT READS IS OF BULK AT MOST 1048576: true; the input reads as it did. -/
def modelPlaysUptoRow : OpenClaim := { program := "ytdojencjbmahpaagreatdoor", sum := "8263ae8656d52f3e5c55345c3dee7359a73bb1699dd34d9f836cb1605def290a", func := "veneer/veneerlaw22.ModelPlays", spec := "modelPlays", inPlace := ["internal/bytealg.IndexByteString", "internal/bytealg.IndexString", "internal/bytealg.CountString", "slices.overlaps[veneer/api.Node]", "slices.overlaps[veneer/api.Name]", "slices.overlaps[veneer/api.Block]"], unfollowed := true, recurses := true, named := ["internal/bytealg.MaxLen", "unicode/utf8.first", "unicode/utf8.acceptRanges"], apart := false, laid := [("unicode/utf8.acceptRanges", laid_unicode_utf8_acceptRanges), ("unicode/utf8.first", laid_unicode_utf8_first)], narrowed := true }
def ModelPlaysUptoSaid : Prop := modelPlaysUptoRow.holds Tryz.pinned (OpenSpec.upto modelPlaysSpec)

/-- 'veneerlaw22.ModelSame', WHERE WHAT IT READS IS OF BULK AT MOST 1048576: true; the input reads as it did. -/
def modelSameUptoRow : OpenClaim := { program := "ytdojencjbmahpaagreatdoor", sum := "8263ae8656d52f3e5c55345c3dee7359a73bb1699dd34d9f836cb1605def290a", func := "veneer/veneerlaw22.ModelSame", spec := "modelSame", inPlace := ["internal/bytealg.IndexByteString", "internal/bytealg.IndexString", "internal/bytealg.CountString", "slices.overlaps[veneer/api.Node]", "slices.overlaps[veneer/api.Name]", "slices.overlaps[veneer/api.Block]"], unfollowed := true, recurses := true, named := ["internal/bytealg.MaxLen", "unicode/utf8.first", "unicode/utf8.acceptRanges"], apart := false, laid := [("unicode/utf8.acceptRanges", laid_unicode_utf8_acceptRanges), ("unicode/utf8.first", laid_unicode_utf8_first)], narrowed := true }
def ModelSameUptoSaid : Prop := modelSameUptoRow.holds Tryz.pinned (OpenSpec.upto modelSameSpec)

/-- 'veneerlaw22.ModelOrder', WHERE WHAT IT READS IS OF BULK AT MOST 1048576: true; the input reads as it did. -/
def modelOrderUptoRow : OpenClaim := { program := "ytdojencjbmahpaagreatdoor", sum := "8263ae8656d52f3e5c55345c3dee7359a73bb1699dd34d9f836cb1605def290a", func := "veneer/veneerlaw22.ModelOrder", spec := "modelOrder", inPlace := ["internal/bytealg.IndexByteString", "internal/bytealg.IndexString", "internal/bytealg.CountString", "slices.overlaps[veneer/api.Node]", "slices.overlaps[veneer/api.Name]", "slices.overlaps[veneer/api.Block]"], unfollowed := true, recurses := true, named := ["internal/bytealg.MaxLen", "unicode/utf8.first", "unicode/utf8.acceptRanges"], apart := false, laid := [("unicode/utf8.acceptRanges", laid_unicode_utf8_acceptRanges), ("unicode/utf8.first", laid_unicode_utf8_first)], narrowed := true }
def ModelOrderUptoSaid : Prop := modelOrderUptoRow.holds Tryz.pinned (OpenSpec.upto modelOrderSpec)

end Rows
end Go.Proofs.YtdojencjbmahpaaGreatDoor
