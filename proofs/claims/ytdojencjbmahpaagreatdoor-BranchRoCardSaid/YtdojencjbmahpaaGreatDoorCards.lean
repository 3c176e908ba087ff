/-
  DERIVED. GIVEN WITH THE SEED: THE CARDS: each row of YtdojencjbmahpaaGreatDoorRows.lean that lists a variable, with what it lists TIED to the program's text (the seventh form; the later family's looks); each row that meets fmt, with fmt's text TOLD by the authors' own Lean function (tested against real Go, not proved from fmt's source: count such statements apart). THE CARD IS WHAT COUNTS. Prove the row's statement (the work); the ties are given (YtdojencjbmahpaaGreatDoorTie.lean); close each card by the builder's one call (the guide's Derived/Test/ToyasCard.lean, 'card_holds'). Laid BY PROGRAM, IN A SANDBOX (cutbox-door.mjs). By AI agents, Wed Nov 11 2026. No macro, syntax, notation, axiom, sorry.
-/
import Derived.Test.YtdojencjbmahpaaGreatDoorRows
import GoSem.ClaimSeven
namespace Go.Proofs.YtdojencjbmahpaaGreatDoor
namespace Rows

/-- THE TIED CARD OF 'veneerlaw8.BranchOwn'. -/
def branchOwnCard : Claim7 := { stood := { row := branchOwnRow, standIns := [], harness := (true, "a5a0f674da48a1dee7601e701336b99feecca2dbea70052efca6d3913235a9e7"), looks := false }, kinds := [], alts := [], laidByText := true, laidKinds := [.data, .pinned], laidTests := true, laidLooks := .later }
def BranchOwnCardSaid : Prop := Claim7.holds Tryz.pinned (.plain (OpenSpec.ofChange branchOwnSpec)) branchOwnCard

/-- THE TIED CARD OF 'veneerlaw8.BranchPlays'. -/
def branchPlaysCard : Claim7 := { stood := { row := branchPlaysRow, standIns := [], harness := (true, "a5a0f674da48a1dee7601e701336b99feecca2dbea70052efca6d3913235a9e7"), looks := false }, kinds := [], alts := [], laidByText := true, laidKinds := [.data, .pinned], laidTests := true, laidLooks := .later }
def BranchPlaysCardSaid : Prop := Claim7.holds Tryz.pinned (.plain (OpenSpec.ofChange branchPlaysSpec)) branchPlaysCard

/-- THE TIED CARD OF 'veneerlaw8.BranchRuns'. -/
def branchRunsCard : Claim7 := { stood := { row := branchRunsRow, standIns := [], harness := (true, "a5a0f674da48a1dee7601e701336b99feecca2dbea70052efca6d3913235a9e7"), looks := false }, kinds := [], alts := [], laidByText := true, laidKinds := [.data, .pinned], laidTests := true, laidLooks := .later }
def BranchRunsCardSaid : Prop := Claim7.holds Tryz.pinned (.plain (OpenSpec.ofChange branchRunsSpec)) branchRunsCard

/-- THE TIED CARD OF 'veneerlaw8.BranchTurns'. -/
def branchTurnsCard : Claim7 := { stood := { row := branchTurnsRow, standIns := [], harness := (true, "a5a0f674da48a1dee7601e701336b99feecca2dbea70052efca6d3913235a9e7"), looks := false }, kinds := [], alts := [], laidByText := true, laidKinds := [.data, .pinned], laidTests := true, laidLooks := .later }
def BranchTurnsCardSaid : Prop := Claim7.holds Tryz.pinned (.plain (OpenSpec.ofChange branchTurnsSpec)) branchTurnsCard

/-- THE TIED CARD OF 'veneerlaw8.BranchOrder'. -/
def branchOrderCard : Claim7 := { stood := { row := branchOrderRow, standIns := [], harness := (true, "a5a0f674da48a1dee7601e701336b99feecca2dbea70052efca6d3913235a9e7"), looks := false }, kinds := [], alts := [], laidByText := true, laidKinds := [.data, .pinned], laidTests := true, laidLooks := .later }
def BranchOrderCardSaid : Prop := Claim7.holds Tryz.pinned (.plain (OpenSpec.ofChange branchOrderSpec)) branchOrderCard

/-- THE TIED CARD OF 'veneerlaw8.BranchRo'. -/
def branchRoCard : Claim7 := { stood := { row := branchRoRow, standIns := [], harness := (true, "a5a0f674da48a1dee7601e701336b99feecca2dbea70052efca6d3913235a9e7"), looks := false }, kinds := [], alts := [], laidByText := true, laidKinds := [.data, .pinned], laidTests := true, laidLooks := .later }
def BranchRoCardSaid : Prop := Claim7.holds Tryz.pinned (.plain (OpenSpec.ofChange branchRoSpec)) branchRoCard

/-- THE TIED CARD OF 'veneerlaw8.BranchLinks'. -/
def branchLinksCard : Claim7 := { stood := { row := branchLinksRow, standIns := [], harness := (true, "a5a0f674da48a1dee7601e701336b99feecca2dbea70052efca6d3913235a9e7"), looks := false }, kinds := [], alts := [], laidByText := true, laidKinds := [.data, .pinned], laidTests := true, laidLooks := .later }
def BranchLinksCardSaid : Prop := Claim7.holds Tryz.pinned (.plain (OpenSpec.ofChange branchLinksSpec)) branchLinksCard

/-- THE TIED CARD OF 'veneerlaw22.ModelDoes'. -/
def modelDoesCard : Claim7 := { stood := { row := modelDoesRow, standIns := [], harness := (true, "a5a0f674da48a1dee7601e701336b99feecca2dbea70052efca6d3913235a9e7"), looks := false }, kinds := [], alts := [], laidByText := true, laidKinds := [.data, .pinned], laidTests := true, laidLooks := .later }
def ModelDoesCardSaid : Prop := Claim7.holds Tryz.pinned (.plain (OpenSpec.ofChange modelDoesSpec)) modelDoesCard

/-- THE TIED CARD OF 'veneerlaw22.ModelPlays'. -/
def modelPlaysCard : Claim7 := { stood := { row := modelPlaysRow, standIns := [], harness := (true, "a5a0f674da48a1dee7601e701336b99feecca2dbea70052efca6d3913235a9e7"), looks := false }, kinds := [], alts := [], laidByText := true, laidKinds := [.data, .pinned], laidTests := true, laidLooks := .later }
def ModelPlaysCardSaid : Prop := Claim7.holds Tryz.pinned (.plain (OpenSpec.ofChange modelPlaysSpec)) modelPlaysCard

/-- THE TIED CARD OF 'veneerlaw22.ModelSame'. -/
def modelSameCard : Claim7 := { stood := { row := modelSameRow, standIns := [], harness := (true, "a5a0f674da48a1dee7601e701336b99feecca2dbea70052efca6d3913235a9e7"), looks := false }, kinds := [], alts := [], laidByText := true, laidKinds := [.data, .pinned], laidTests := true, laidLooks := .later }
def ModelSameCardSaid : Prop := Claim7.holds Tryz.pinned (.plain (OpenSpec.ofChange modelSameSpec)) modelSameCard

/-- THE TIED CARD OF 'veneerlaw22.ModelOrder'. -/
def modelOrderCard : Claim7 := { stood := { row := modelOrderRow, standIns := [], harness := (true, "a5a0f674da48a1dee7601e701336b99feecca2dbea70052efca6d3913235a9e7"), looks := false }, kinds := [], alts := [], laidByText := true, laidKinds := [.data, .pinned], laidTests := true, laidLooks := .later }
def ModelOrderCardSaid : Prop := Claim7.holds Tryz.pinned (.plain (OpenSpec.ofChange modelOrderSpec)) modelOrderCard

/-- THE SECOND FORM's CARD OF 'veneerlaw8.BranchOwn'. -/
def branchOwnUptoCard : Claim7 := { stood := { row := branchOwnUptoRow, standIns := [], harness := (true, "a5a0f674da48a1dee7601e701336b99feecca2dbea70052efca6d3913235a9e7"), looks := false }, kinds := [], alts := [], laidByText := true, laidKinds := [.data, .pinned], laidTests := true, laidLooks := .later }
def BranchOwnUptoCardSaid : Prop := Claim7.holds Tryz.pinned (.plain (OpenSpec.upto branchOwnSpec)) branchOwnUptoCard

/-- THE SECOND FORM's CARD OF 'veneerlaw8.BranchPlays'. -/
def branchPlaysUptoCard : Claim7 := { stood := { row := branchPlaysUptoRow, standIns := [], harness := (true, "a5a0f674da48a1dee7601e701336b99feecca2dbea70052efca6d3913235a9e7"), looks := false }, kinds := [], alts := [], laidByText := true, laidKinds := [.data, .pinned], laidTests := true, laidLooks := .later }
def BranchPlaysUptoCardSaid : Prop := Claim7.holds Tryz.pinned (.plain (OpenSpec.upto branchPlaysSpec)) branchPlaysUptoCard

/-- THE SECOND FORM's CARD OF 'veneerlaw8.BranchRuns'. -/
def branchRunsUptoCard : Claim7 := { stood := { row := branchRunsUptoRow, standIns := [], harness := (true, "a5a0f674da48a1dee7601e701336b99feecca2dbea70052efca6d3913235a9e7"), looks := false }, kinds := [], alts := [], laidByText := true, laidKinds := [.data, .pinned], laidTests := true, laidLooks := .later }
def BranchRunsUptoCardSaid : Prop := Claim7.holds Tryz.pinned (.plain (OpenSpec.upto branchRunsSpec)) branchRunsUptoCard

/-- THE SECOND FORM's CARD OF 'veneerlaw8.BranchTurns'. -/
def branchTurnsUptoCard : Claim7 := { stood := { row := branchTurnsUptoRow, standIns := [], harness := (true, "a5a0f674da48a1dee7601e701336b99feecca2dbea70052efca6d3913235a9e7"), looks := false }, kinds := [], alts := [], laidByText := true, laidKinds := [.data, .pinned], laidTests := true, laidLooks := .later }
def BranchTurnsUptoCardSaid : Prop := Claim7.holds Tryz.pinned (.plain (OpenSpec.upto branchTurnsSpec)) branchTurnsUptoCard

/-- THE SECOND FORM's CARD OF 'veneerlaw8.BranchOrder'. -/
def branchOrderUptoCard : Claim7 := { stood := { row := branchOrderUptoRow, standIns := [], harness := (true, "a5a0f674da48a1dee7601e701336b99feecca2dbea70052efca6d3913235a9e7"), looks := false }, kinds := [], alts := [], laidByText := true, laidKinds := [.data, .pinned], laidTests := true, laidLooks := .later }
def BranchOrderUptoCardSaid : Prop := Claim7.holds Tryz.pinned (.plain (OpenSpec.upto branchOrderSpec)) branchOrderUptoCard

/-- THE SECOND FORM's CARD OF 'veneerlaw8.BranchRo'. -/
def branchRoUptoCard : Claim7 := { stood := { row := branchRoUptoRow, standIns := [], harness := (true, "a5a0f674da48a1dee7601e701336b99feecca2dbea70052efca6d3913235a9e7"), looks := false }, kinds := [], alts := [], laidByText := true, laidKinds := [.data, .pinned], laidTests := true, laidLooks := .later }
def BranchRoUptoCardSaid : Prop := Claim7.holds Tryz.pinned (.plain (OpenSpec.upto branchRoSpec)) branchRoUptoCard

/-- THE SECOND FORM's CARD OF 'veneerlaw8.BranchLinks'. -/
def branchLinksUptoCard : Claim7 := { stood := { row := branchLinksUptoRow, standIns := [], harness := (true, "a5a0f674da48a1dee7601e701336b99feecca2dbea70052efca6d3913235a9e7"), looks := false }, kinds := [], alts := [], laidByText := true, laidKinds := [.data, .pinned], laidTests := true, laidLooks := .later }
def BranchLinksUptoCardSaid : Prop := Claim7.holds Tryz.pinned (.plain (OpenSpec.upto branchLinksSpec)) branchLinksUptoCard

/-- THE SECOND FORM's CARD OF 'veneerlaw22.ModelDoes'. -/
def modelDoesUptoCard : Claim7 := { stood := { row := modelDoesUptoRow, standIns := [], harness := (true, "a5a0f674da48a1dee7601e701336b99feecca2dbea70052efca6d3913235a9e7"), looks := false }, kinds := [], alts := [], laidByText := true, laidKinds := [.data, .pinned], laidTests := true, laidLooks := .later }
def ModelDoesUptoCardSaid : Prop := Claim7.holds Tryz.pinned (.plain (OpenSpec.upto modelDoesSpec)) modelDoesUptoCard

/-- THE SECOND FORM's CARD OF 'veneerlaw22.ModelPlays'. -/
def modelPlaysUptoCard : Claim7 := { stood := { row := modelPlaysUptoRow, standIns := [], harness := (true, "a5a0f674da48a1dee7601e701336b99feecca2dbea70052efca6d3913235a9e7"), looks := false }, kinds := [], alts := [], laidByText := true, laidKinds := [.data, .pinned], laidTests := true, laidLooks := .later }
def ModelPlaysUptoCardSaid : Prop := Claim7.holds Tryz.pinned (.plain (OpenSpec.upto modelPlaysSpec)) modelPlaysUptoCard

/-- THE SECOND FORM's CARD OF 'veneerlaw22.ModelSame'. -/
def modelSameUptoCard : Claim7 := { stood := { row := modelSameUptoRow, standIns := [], harness := (true, "a5a0f674da48a1dee7601e701336b99feecca2dbea70052efca6d3913235a9e7"), looks := false }, kinds := [], alts := [], laidByText := true, laidKinds := [.data, .pinned], laidTests := true, laidLooks := .later }
def ModelSameUptoCardSaid : Prop := Claim7.holds Tryz.pinned (.plain (OpenSpec.upto modelSameSpec)) modelSameUptoCard

/-- THE SECOND FORM's CARD OF 'veneerlaw22.ModelOrder'. -/
def modelOrderUptoCard : Claim7 := { stood := { row := modelOrderUptoRow, standIns := [], harness := (true, "a5a0f674da48a1dee7601e701336b99feecca2dbea70052efca6d3913235a9e7"), looks := false }, kinds := [], alts := [], laidByText := true, laidKinds := [.data, .pinned], laidTests := true, laidLooks := .later }
def ModelOrderUptoCardSaid : Prop := Claim7.holds Tryz.pinned (.plain (OpenSpec.upto modelOrderSpec)) modelOrderUptoCard
end Rows
end Go.Proofs.YtdojencjbmahpaaGreatDoor
