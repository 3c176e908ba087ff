/-
  No cell of these rows narrows 'for every input' (looked for: loops, veiled, ifaces, maps, wideKeys, modest, calm, conditions, laid).
  DERIVED. THE GIVEN ROWS OF THIS SEAT. 4 by the template 'for every input the law returns true; each argument reads behind the call as it read before'; 0 by the template 'total and deterministic' (their statements: YtdojencjbmahpaaTotals.lean).
  GIVEN WITH THE SEED: the statements are not yours to turn. If you find one false, say at which input.
  Laid BY PROGRAM, IN A SANDBOX (cutbox-rows.mjs): the forced cells as the released guide's own fill.sh prints them over the translation 2e50837e03ae8e37… (all of the seat's roots in one cut). By AI agents, Wed Nov 11 2026. No macro, syntax, notation, axiom, sorry.
-/
import Derived.Test.YtdojencjbmahpaaChecked
import GoSem.Claim
import GoSem.ClaimJoined
import GoSem.ClaimMapViews
import Derived.JoinedTies
import Derived.KernelRfl
namespace Go.Proofs.Ytdojencjbmahpaa
/- THE CELL 'sum', in the pinned program and in every row, IS THE sha256 OF THE DUMP (.gsa) THAT YtdojencjbmahpaaProg.lean LOADS. Nothing in Lean hashes anything: it is a label: what it is worth is what the hold of that sum in a sandbox is worth. -/
noncomputable def Try.pinned : Pinned := { name := "ytdojencjbmahpaa", sum := "2e50837e03ae8e37fc723e7e7baba1c1b155ba26f0cab23492b09af964ef19ca", checked := Try.checked }
namespace Rows
def none {H : Type} : Left H := { results := [], args := [] }

/-- 'veneerlaw6.TieRoom': WHATEVER THE INPUT: true; the input reads as it did. -/
def tieRoomSpec : ChangeSpec := { name := "tieRoom", fn := fun _ => fun
  | [d1, d2, d3, d4] => { results := [.lit (.bool true)], args := [d1, d2, d3, d4] }
  | _ => none }
def tieRoomRow : OpenClaim := { program := "ytdojencjbmahpaa", sum := "2e50837e03ae8e37fc723e7e7baba1c1b155ba26f0cab23492b09af964ef19ca", func := "veneer/veneerlaw6.TieRoom", spec := "tieRoom", inPlace := ["slices.overlaps[veneer/api.Node]", "slices.overlaps[veneer/api.Name]"], unfollowed := true, recurses := true, apart := false }
def TieRoomSaid : Prop := tieRoomRow.holds Try.pinned (OpenSpec.ofChange tieRoomSpec)

/-- ITS FALSE NEIGHBOUR: 'it returns false'. Refute it at one input. -/
def tieRoomWrong : ChangeSpec := { name := "tieRoom", fn := fun _ => fun
  | [d1, d2, d3, d4] => { results := [.lit (.bool false)], args := [d1, d2, d3, d4] }
  | _ => none }
def TieRoomWrongFalsely : Prop := tieRoomRow.holds Try.pinned (OpenSpec.ofChange tieRoomWrong)

/-- 'veneerlaw7.KeepRoom': WHATEVER THE INPUT: true; the input reads as it did. -/
def keepRoomSpec : ChangeSpec := { name := "keepRoom", fn := fun _ => fun
  | [d1, d2, d3, d4] => { results := [.lit (.bool true)], args := [d1, d2, d3, d4] }
  | _ => none }
def keepRoomRow : OpenClaim := { program := "ytdojencjbmahpaa", sum := "2e50837e03ae8e37fc723e7e7baba1c1b155ba26f0cab23492b09af964ef19ca", func := "veneer/veneerlaw7.KeepRoom", spec := "keepRoom", inPlace := ["slices.overlaps[veneer/api.Block]", "slices.overlaps[veneer/api.Node]"], unfollowed := true, recurses := true, apart := false }
def KeepRoomSaid : Prop := keepRoomRow.holds Try.pinned (OpenSpec.ofChange keepRoomSpec)

/-- ITS FALSE NEIGHBOUR: 'it returns false'. Refute it at one input. -/
def keepRoomWrong : ChangeSpec := { name := "keepRoom", fn := fun _ => fun
  | [d1, d2, d3, d4] => { results := [.lit (.bool false)], args := [d1, d2, d3, d4] }
  | _ => none }
def KeepRoomWrongFalsely : Prop := keepRoomRow.holds Try.pinned (OpenSpec.ofChange keepRoomWrong)

/-- 'veneerlaw7.KeepTells': WHATEVER THE INPUT: true; the input reads as it did. -/
def keepTellsSpec : ChangeSpec := { name := "keepTells", fn := fun _ => fun
  | [d1, d2, d3, d4, d5] => { results := [.lit (.bool true)], args := [d1, d2, d3, d4, d5] }
  | _ => none }
def keepTellsRow : OpenClaim := { program := "ytdojencjbmahpaa", sum := "2e50837e03ae8e37fc723e7e7baba1c1b155ba26f0cab23492b09af964ef19ca", func := "veneer/veneerlaw7.KeepTells", spec := "keepTells", inPlace := ["slices.overlaps[veneer/api.Block]", "slices.overlaps[veneer/api.Node]"], unfollowed := true, recurses := true, apart := false }
def KeepTellsSaid : Prop := keepTellsRow.holds Try.pinned (OpenSpec.ofChange keepTellsSpec)

/-- ITS FALSE NEIGHBOUR: 'it returns false'. Refute it at one input. -/
def keepTellsWrong : ChangeSpec := { name := "keepTells", fn := fun _ => fun
  | [d1, d2, d3, d4, d5] => { results := [.lit (.bool false)], args := [d1, d2, d3, d4, d5] }
  | _ => none }
def KeepTellsWrongFalsely : Prop := keepTellsRow.holds Try.pinned (OpenSpec.ofChange keepTellsWrong)

/-- 'veneerlaw7.KeepKinds': WHATEVER THE INPUT: true; the input reads as it did. -/
def keepKindsSpec : ChangeSpec := { name := "keepKinds", fn := fun _ => fun
  | [d1, d2] => { results := [.lit (.bool true)], args := [d1, d2] }
  | _ => none }
def keepKindsRow : OpenClaim := { program := "ytdojencjbmahpaa", sum := "2e50837e03ae8e37fc723e7e7baba1c1b155ba26f0cab23492b09af964ef19ca", func := "veneer/veneerlaw7.KeepKinds", spec := "keepKinds", inPlace := ["slices.overlaps[veneer/api.Block]", "slices.overlaps[veneer/api.Node]"], unfollowed := true, recurses := true, apart := false }
def KeepKindsSaid : Prop := keepKindsRow.holds Try.pinned (OpenSpec.ofChange keepKindsSpec)

/-- ITS FALSE NEIGHBOUR: 'it returns false'. Refute it at one input. -/
def keepKindsWrong : ChangeSpec := { name := "keepKinds", fn := fun _ => fun
  | [d1, d2] => { results := [.lit (.bool false)], args := [d1, d2] }
  | _ => none }
def KeepKindsWrongFalsely : Prop := keepKindsRow.holds Try.pinned (OpenSpec.ofChange keepKindsWrong)

/- THE SECOND FORM. 'bulk': how many values and letters a reading holds, each counted each time it is reached (what is shared counts as often as it is met; a slice's spare places count too). A statement '..UptoSaid' is the law's where the arguments, and the package variables that the reading takes, are together of bulk at most 1048576: NARROWER than '..Said'. Prove '..Said' where nothing that the law and all that it calls make is longer than what came in: it says more and counts as full. Else prove '..UptoSaid'. A law counts once. -/
mutual
def uptoBulk {H : Type} : DataW H → Nat
  | .lit (.string bytes) => bytes.length + 1
  | .lit _ => 1
  | .nil => 1
  | .ptr d => uptoBulk d + 1
  | .slice elems spare => uptoBulkAll elems + uptoBulkAll spare + 1
  | .agg parts => uptoBulkAll parts + 1
  | .iface _ d => uptoBulk d + 1
  | .map entries => uptoBulkEntries entries + 1
  | .held _ => 1
def uptoBulkAll {H : Type} : List (DataW H) → Nat
  | [] => 0
  | d :: r => uptoBulk d + uptoBulkAll r
def uptoBulkEntries {H : Type} : List (Lit × DataW H) → Nat
  | [] => 0
  | x :: r => uptoBulkEntry x + uptoBulkEntries r
def uptoBulkEntry {H : Type} : Lit × DataW H → Nat
  | (.string bytes, d) => bytes.length + uptoBulk d + 1
  | (_, d) => uptoBulk d + 1
 end
def uptoSmall : (H : Type) → List (DataW H) → Bool := fun _ ds => decide (uptoBulkAll ds ≤ 1048576)
def OpenSpec.upto (s : _root_.Go.ChangeSpec) : _root_.Go.OpenSpec := { _root_.Go.OpenSpec.ofChange s with cond := some uptoSmall }

/-- 'veneerlaw6.TieRoom', WHERE WHAT IT READS IS OF BULK AT MOST 1048576: true; the input reads as it did. -/
def tieRoomUptoRow : OpenClaim := { program := "ytdojencjbmahpaa", sum := "2e50837e03ae8e37fc723e7e7baba1c1b155ba26f0cab23492b09af964ef19ca", func := "veneer/veneerlaw6.TieRoom", spec := "tieRoom", inPlace := ["slices.overlaps[veneer/api.Node]", "slices.overlaps[veneer/api.Name]"], unfollowed := true, recurses := true, apart := false, narrowed := true }
def TieRoomUptoSaid : Prop := tieRoomUptoRow.holds Try.pinned (OpenSpec.upto tieRoomSpec)

/-- 'veneerlaw7.KeepRoom', WHERE WHAT IT READS IS OF BULK AT MOST 1048576: true; the input reads as it did. -/
def keepRoomUptoRow : OpenClaim := { program := "ytdojencjbmahpaa", sum := "2e50837e03ae8e37fc723e7e7baba1c1b155ba26f0cab23492b09af964ef19ca", func := "veneer/veneerlaw7.KeepRoom", spec := "keepRoom", inPlace := ["slices.overlaps[veneer/api.Block]", "slices.overlaps[veneer/api.Node]"], unfollowed := true, recurses := true, apart := false, narrowed := true }
def KeepRoomUptoSaid : Prop := keepRoomUptoRow.holds Try.pinned (OpenSpec.upto keepRoomSpec)

/-- 'veneerlaw7.KeepTells', WHERE WHAT IT READS IS OF BULK AT MOST 1048576: true; the input reads as it did. -/
def keepTellsUptoRow : OpenClaim := { program := "ytdojencjbmahpaa", sum := "2e50837e03ae8e37fc723e7e7baba1c1b155ba26f0cab23492b09af964ef19ca", func := "veneer/veneerlaw7.KeepTells", spec := "keepTells", inPlace := ["slices.overlaps[veneer/api.Block]", "slices.overlaps[veneer/api.Node]"], unfollowed := true, recurses := true, apart := false, narrowed := true }
def KeepTellsUptoSaid : Prop := keepTellsUptoRow.holds Try.pinned (OpenSpec.upto keepTellsSpec)

/-- 'veneerlaw7.KeepKinds', WHERE WHAT IT READS IS OF BULK AT MOST 1048576: true; the input reads as it did. -/
def keepKindsUptoRow : OpenClaim := { program := "ytdojencjbmahpaa", sum := "2e50837e03ae8e37fc723e7e7baba1c1b155ba26f0cab23492b09af964ef19ca", func := "veneer/veneerlaw7.KeepKinds", spec := "keepKinds", inPlace := ["slices.overlaps[veneer/api.Block]", "slices.overlaps[veneer/api.Node]"], unfollowed := true, recurses := true, apart := false, narrowed := true }
def KeepKindsUptoSaid : Prop := keepKindsUptoRow.holds Try.pinned (OpenSpec.upto keepKindsSpec)

end Rows
end Go.Proofs.Ytdojencjbmahpaa
