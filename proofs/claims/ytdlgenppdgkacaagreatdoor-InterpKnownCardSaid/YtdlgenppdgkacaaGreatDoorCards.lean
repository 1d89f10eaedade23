/-
  DERIVED. GIVEN WITH THE SEED: THE CARDS: each row of YtdlgenppdgkacaaGreatDoorRows.lean that lists a variable, with what it lists TIED to the program's text (the seventh form; the later family's looks); each row that meets fmt, with fmt's text TOLD by the authors' own Lean function (tested against real Go, not proved from fmt's source: count such statements apart). THE CARD IS WHAT COUNTS. Prove the row's statement (the work); the ties are given (YtdlgenppdgkacaaGreatDoorTie.lean); close each card by the builder's one call (the guide's Derived/Test/ToyasCard.lean, 'card_holds'). Laid BY PROGRAM, IN A SANDBOX (cutbox-door.mjs). By AI agents, Wed Nov 11 2026. No macro, syntax, notation, axiom, sorry.
-/
import Derived.Test.YtdlgenppdgkacaaGreatDoorRows
import GoSem.ClaimSeven
namespace Go.Proofs.YtdlgenppdgkacaaGreatDoor
namespace Rows

/-- THE TIED CARD OF 'cartouchelaw8.ModelKnown'. -/
def modelKnownCard : Claim7 := { stood := { row := modelKnownRow, standIns := [], harness := (true, "a17319cb3b3eca0d1f13af8b1e6a2e72649fd3001ec63d3c6c738064399a607c"), looks := true }, kinds := [], alts := [], laidByText := true, laidKinds := [.data, .pinned], laidTests := true, laidLooks := .later }
def ModelKnownCardSaid : Prop := Claim7.holds Tryz.pinned (.plain (OpenSpec.ofChange modelKnownSpec)) modelKnownCard

/-- THE TIED CARD OF 'cartouchelaw10.MergeKnown'. -/
def mergeKnownCard : Claim7 := { stood := { row := mergeKnownRow, standIns := [], harness := (true, "a17319cb3b3eca0d1f13af8b1e6a2e72649fd3001ec63d3c6c738064399a607c"), looks := true }, kinds := [], alts := [], laidByText := true, laidKinds := [.data, .pinned], laidTests := true, laidLooks := .later }
def MergeKnownCardSaid : Prop := Claim7.holds Tryz.pinned (.plain (OpenSpec.ofChange mergeKnownSpec)) mergeKnownCard

/-- THE TIED CARD OF 'cartouchelaw9.InterpKnown'. -/
def interpKnownCard : Claim7 := { stood := { row := interpKnownRow, standIns := [], harness := (true, "a17319cb3b3eca0d1f13af8b1e6a2e72649fd3001ec63d3c6c738064399a607c"), looks := true }, kinds := [], alts := [], laidByText := true, laidKinds := [.data, .pinned], laidTests := true, laidLooks := .later }
def InterpKnownCardSaid : Prop := Claim7.holds Tryz.pinned (.plain (OpenSpec.ofChange interpKnownSpec)) interpKnownCard

/-- THE TIED CARD OF 'cartouchelaw19.PassKnown'. -/
def passKnownCard : Claim7 := { stood := { row := passKnownRow, standIns := [], harness := (true, "a17319cb3b3eca0d1f13af8b1e6a2e72649fd3001ec63d3c6c738064399a607c"), looks := true }, kinds := [], alts := [], laidByText := true, laidKinds := [.data, .pinned], laidTests := true, laidLooks := .later }
def PassKnownCardSaid : Prop := Claim7.holds Tryz.pinned (.plain (OpenSpec.ofChange passKnownSpec)) passKnownCard

/-- THE TIED CARD OF 'cartouchelaw21.DeltaKnown'. -/
def deltaKnownCard : Claim7 := { stood := { row := deltaKnownRow, standIns := [], harness := (true, "a17319cb3b3eca0d1f13af8b1e6a2e72649fd3001ec63d3c6c738064399a607c"), looks := true }, kinds := [], alts := [], laidByText := true, laidKinds := [.data, .pinned], laidTests := true, laidLooks := .later }
def DeltaKnownCardSaid : Prop := Claim7.holds Tryz.pinned (.plain (OpenSpec.ofChange deltaKnownSpec)) deltaKnownCard

/-- THE TIED CARD OF 'cartouchelaw23.FrameKnown'. -/
def frameKnownCard : Claim7 := { stood := { row := frameKnownRow, standIns := [], harness := (true, "a17319cb3b3eca0d1f13af8b1e6a2e72649fd3001ec63d3c6c738064399a607c"), looks := true }, kinds := [], alts := [], laidByText := true, laidKinds := [.data, .pinned], laidTests := true, laidLooks := .later }
def FrameKnownCardSaid : Prop := Claim7.holds Tryz.pinned (.plain (OpenSpec.ofChange frameKnownSpec)) frameKnownCard

/-- THE SECOND FORM's CARD OF 'cartouchelaw8.ModelKnown'. -/
def modelKnownUptoCard : Claim7 := { stood := { row := modelKnownUptoRow, standIns := [], harness := (true, "a17319cb3b3eca0d1f13af8b1e6a2e72649fd3001ec63d3c6c738064399a607c"), looks := true }, kinds := [], alts := [], laidByText := true, laidKinds := [.data, .pinned], laidTests := true, laidLooks := .later }
def ModelKnownUptoCardSaid : Prop := Claim7.holds Tryz.pinned (.plain (OpenSpec.upto modelKnownSpec)) modelKnownUptoCard

/-- THE SECOND FORM's CARD OF 'cartouchelaw10.MergeKnown'. -/
def mergeKnownUptoCard : Claim7 := { stood := { row := mergeKnownUptoRow, standIns := [], harness := (true, "a17319cb3b3eca0d1f13af8b1e6a2e72649fd3001ec63d3c6c738064399a607c"), looks := true }, kinds := [], alts := [], laidByText := true, laidKinds := [.data, .pinned], laidTests := true, laidLooks := .later }
def MergeKnownUptoCardSaid : Prop := Claim7.holds Tryz.pinned (.plain (OpenSpec.upto mergeKnownSpec)) mergeKnownUptoCard

/-- THE SECOND FORM's CARD OF 'cartouchelaw9.InterpKnown'. -/
def interpKnownUptoCard : Claim7 := { stood := { row := interpKnownUptoRow, standIns := [], harness := (true, "a17319cb3b3eca0d1f13af8b1e6a2e72649fd3001ec63d3c6c738064399a607c"), looks := true }, kinds := [], alts := [], laidByText := true, laidKinds := [.data, .pinned], laidTests := true, laidLooks := .later }
def InterpKnownUptoCardSaid : Prop := Claim7.holds Tryz.pinned (.plain (OpenSpec.upto interpKnownSpec)) interpKnownUptoCard

/-- THE SECOND FORM's CARD OF 'cartouchelaw19.PassKnown'. -/
def passKnownUptoCard : Claim7 := { stood := { row := passKnownUptoRow, standIns := [], harness := (true, "a17319cb3b3eca0d1f13af8b1e6a2e72649fd3001ec63d3c6c738064399a607c"), looks := true }, kinds := [], alts := [], laidByText := true, laidKinds := [.data, .pinned], laidTests := true, laidLooks := .later }
def PassKnownUptoCardSaid : Prop := Claim7.holds Tryz.pinned (.plain (OpenSpec.upto passKnownSpec)) passKnownUptoCard

/-- THE SECOND FORM's CARD OF 'cartouchelaw21.DeltaKnown'. -/
def deltaKnownUptoCard : Claim7 := { stood := { row := deltaKnownUptoRow, standIns := [], harness := (true, "a17319cb3b3eca0d1f13af8b1e6a2e72649fd3001ec63d3c6c738064399a607c"), looks := true }, kinds := [], alts := [], laidByText := true, laidKinds := [.data, .pinned], laidTests := true, laidLooks := .later }
def DeltaKnownUptoCardSaid : Prop := Claim7.holds Tryz.pinned (.plain (OpenSpec.upto deltaKnownSpec)) deltaKnownUptoCard

/-- THE SECOND FORM's CARD OF 'cartouchelaw23.FrameKnown'. -/
def frameKnownUptoCard : Claim7 := { stood := { row := frameKnownUptoRow, standIns := [], harness := (true, "a17319cb3b3eca0d1f13af8b1e6a2e72649fd3001ec63d3c6c738064399a607c"), looks := true }, kinds := [], alts := [], laidByText := true, laidKinds := [.data, .pinned], laidTests := true, laidLooks := .later }
def FrameKnownUptoCardSaid : Prop := Claim7.holds Tryz.pinned (.plain (OpenSpec.upto frameKnownSpec)) frameKnownUptoCard
end Rows
end Go.Proofs.YtdlgenppdgkacaaGreatDoor
