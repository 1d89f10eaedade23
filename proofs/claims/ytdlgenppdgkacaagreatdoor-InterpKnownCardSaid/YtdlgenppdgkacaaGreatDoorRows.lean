/-
  NARROWER THAN 'FOR EVERY INPUT', by the rows' own cells (each row's printed sentence says how): ModelKnown: laid · MergeKnown: laid · InterpKnown: laid · PassKnown: laid · DeltaKnown: laid · FrameKnown: laid.
  DERIVED. THE GIVEN ROWS OF THIS SEAT. 6 by the template 'for every input the law returns true; each argument reads behind the call as it read before'; 0 by the template 'total and deterministic' (their statements: YtdlgenppdgkacaaGreatDoorTotals.lean).
  GIVEN WITH THE SEED: the statements are not yours to turn. If you find one false, say at which input.
  Laid BY PROGRAM, IN A SANDBOX (cutbox-rows.mjs): the forced cells as the released guide's own fill.sh prints them over the translation 7356c0628c648832… (all of the seat's roots in one cut). By AI agents, Wed Nov 11 2026. No macro, syntax, notation, axiom, sorry.
-/
import Derived.Test.YtdlgenppdgkacaaGreatDoorChecked
import GoSem.PinnedTables
import GoSem.Claim
import GoSem.ClaimJoined
import GoSem.ClaimMapViews
import Derived.JoinedTies
import Derived.KernelRfl
namespace Go.Proofs.YtdlgenppdgkacaaGreatDoor
/- THE CELL 'sum', in the pinned program and in every row, IS THE sha256 OF THE DUMP (.gsa) THAT YtdlgenppdgkacaaGreatDoorProg.lean LOADS. Nothing in Lean hashes anything: it is a label: what it is worth is what the hold of that sum in a sandbox is worth. -/
noncomputable def Tryz.pinned : Pinned := { name := "ytdlgenppdgkacaagreatdoor", sum := "7356c0628c64883206a9241dbfdbcf436aaff41819145244b09298ea27c9591c", checked := Tryz.checked }
namespace Rows
def none {H : Type} : Left H := { results := [], args := [] }

/- WHAT THE LISTED PACKAGE-LEVEL VARIABLES READ AS WHEN THE CALL BEGINS. Each datum BY PROGRAM (the guide's laid-datum.mjs) off the statement by which the dump's own 'gosem.cut.vars' lays the variable. In a bare row this is a premise. The card (YtdlgenppdgkacaaGreatDoorCards.lean) ties it to the program's text. -/
def laid_unicode_utf8_acceptRanges {H : Type} : DataW H := .agg [.agg [.lit (.int .u8 128), .lit (.int .u8 191)], .agg [.lit (.int .u8 160), .lit (.int .u8 191)], .agg [.lit (.int .u8 128), .lit (.int .u8 159)], .agg [.lit (.int .u8 144), .lit (.int .u8 191)], .agg [.lit (.int .u8 128), .lit (.int .u8 143)], .agg [.lit (.int .u8 0), .lit (.int .u8 0)], .agg [.lit (.int .u8 0), .lit (.int .u8 0)], .agg [.lit (.int .u8 0), .lit (.int .u8 0)], .agg [.lit (.int .u8 0), .lit (.int .u8 0)], .agg [.lit (.int .u8 0), .lit (.int .u8 0)], .agg [.lit (.int .u8 0), .lit (.int .u8 0)], .agg [.lit (.int .u8 0), .lit (.int .u8 0)], .agg [.lit (.int .u8 0), .lit (.int .u8 0)], .agg [.lit (.int .u8 0), .lit (.int .u8 0)], .agg [.lit (.int .u8 0), .lit (.int .u8 0)], .agg [.lit (.int .u8 0), .lit (.int .u8 0)]]
/-- One of Go's own tables, pinned by name: the form's constant. -/
def laid_unicode_utf8_first : DataW Unit := Go.Pinned.utf8First

/-- 'cartouchelaw8.ModelKnown': WHATEVER THE INPUT: true; the input reads as it did. -/
def modelKnownSpec : ChangeSpec := { name := "modelKnown", fn := fun _ => fun
  | [] => { results := [.lit (.bool true)], args := [] }
  | _ => none }
def modelKnownRow : OpenClaim := { program := "ytdlgenppdgkacaagreatdoor", sum := "7356c0628c64883206a9241dbfdbcf436aaff41819145244b09298ea27c9591c", func := "cartouche/cartouchelaw8.ModelKnown", spec := "modelKnown", inPlace := ["internal/bytealg.CountString", "internal/bytealg.IndexByteString", "internal/bytealg.IndexString", "internal/abi.NoEscape", "internal/bytealg.MakeNoZero", "internal/bytealg.Compare"], unfollowed := true, recurses := true, named := ["unicode/utf8.first", "unicode/utf8.acceptRanges", "internal/bytealg.MaxLen"], apart := false, laid := [("unicode/utf8.acceptRanges", laid_unicode_utf8_acceptRanges), ("unicode/utf8.first", laid_unicode_utf8_first)] }
def ModelKnownSaid : Prop := modelKnownRow.holds Tryz.pinned (OpenSpec.ofChange modelKnownSpec)

/-- ITS FALSE NEIGHBOUR: 'it returns false'. Refute it at one input. -/
def modelKnownWrong : ChangeSpec := { name := "modelKnown", fn := fun _ => fun
  | [] => { results := [.lit (.bool false)], args := [] }
  | _ => none }
def ModelKnownWrongFalsely : Prop := modelKnownRow.holds Tryz.pinned (OpenSpec.ofChange modelKnownWrong)

/-- 'cartouchelaw10.MergeKnown': WHATEVER THE INPUT: true; the input reads as it did. -/
def mergeKnownSpec : ChangeSpec := { name := "mergeKnown", fn := fun _ => fun
  | [] => { results := [.lit (.bool true)], args := [] }
  | _ => none }
def mergeKnownRow : OpenClaim := { program := "ytdlgenppdgkacaagreatdoor", sum := "7356c0628c64883206a9241dbfdbcf436aaff41819145244b09298ea27c9591c", func := "cartouche/cartouchelaw10.MergeKnown", spec := "mergeKnown", inPlace := ["internal/bytealg.CountString", "internal/bytealg.IndexByteString", "internal/bytealg.IndexString", "internal/abi.NoEscape", "internal/bytealg.MakeNoZero", "internal/bytealg.Compare", "slices.overlaps[cartouche/api.Val]", "slices.overlaps[cartouche/api.Field]"], unfollowed := true, recurses := true, named := ["unicode/utf8.first", "unicode/utf8.acceptRanges", "internal/bytealg.MaxLen"], apart := false, laid := [("unicode/utf8.acceptRanges", laid_unicode_utf8_acceptRanges), ("unicode/utf8.first", laid_unicode_utf8_first)] }
def MergeKnownSaid : Prop := mergeKnownRow.holds Tryz.pinned (OpenSpec.ofChange mergeKnownSpec)

/-- ITS FALSE NEIGHBOUR: 'it returns false'. Refute it at one input. -/
def mergeKnownWrong : ChangeSpec := { name := "mergeKnown", fn := fun _ => fun
  | [] => { results := [.lit (.bool false)], args := [] }
  | _ => none }
def MergeKnownWrongFalsely : Prop := mergeKnownRow.holds Tryz.pinned (OpenSpec.ofChange mergeKnownWrong)

/-- 'cartouchelaw9.InterpKnown': WHATEVER THE INPUT: true; the input reads as it did. -/
def interpKnownSpec : ChangeSpec := { name := "interpKnown", fn := fun _ => fun
  | [] => { results := [.lit (.bool true)], args := [] }
  | _ => none }
def interpKnownRow : OpenClaim := { program := "ytdlgenppdgkacaagreatdoor", sum := "7356c0628c64883206a9241dbfdbcf436aaff41819145244b09298ea27c9591c", func := "cartouche/cartouchelaw9.InterpKnown", spec := "interpKnown", inPlace := ["internal/bytealg.CountString", "internal/bytealg.IndexByteString", "internal/bytealg.IndexString", "internal/abi.NoEscape", "internal/bytealg.MakeNoZero", "internal/bytealg.Compare", "slices.overlaps[cartouche/api.Field]", "slices.overlaps[cartouche/api.Val]"], unfollowed := true, recurses := true, named := ["unicode/utf8.first", "unicode/utf8.acceptRanges", "internal/bytealg.MaxLen"], apart := false, laid := [("unicode/utf8.acceptRanges", laid_unicode_utf8_acceptRanges), ("unicode/utf8.first", laid_unicode_utf8_first)] }
def InterpKnownSaid : Prop := interpKnownRow.holds Tryz.pinned (OpenSpec.ofChange interpKnownSpec)

/-- ITS FALSE NEIGHBOUR: 'it returns false'. Refute it at one input. -/
def interpKnownWrong : ChangeSpec := { name := "interpKnown", fn := fun _ => fun
  | [] => { results := [.lit (.bool false)], args := [] }
  | _ => none }
def InterpKnownWrongFalsely : Prop := interpKnownRow.holds Tryz.pinned (OpenSpec.ofChange interpKnownWrong)

/-- 'cartouchelaw19.PassKnown': WHATEVER THE INPUT: true; the input reads as it did. -/
def passKnownSpec : ChangeSpec := { name := "passKnown", fn := fun _ => fun
  | [] => { results := [.lit (.bool true)], args := [] }
  | _ => none }
def passKnownRow : OpenClaim := { program := "ytdlgenppdgkacaagreatdoor", sum := "7356c0628c64883206a9241dbfdbcf436aaff41819145244b09298ea27c9591c", func := "cartouche/cartouchelaw19.PassKnown", spec := "passKnown", inPlace := ["internal/bytealg.CountString", "internal/bytealg.IndexByteString", "internal/bytealg.IndexString", "internal/abi.NoEscape", "internal/bytealg.MakeNoZero", "internal/bytealg.Compare", "slices.overlaps[cartouche/api.Field]", "slices.overlaps[cartouche/api.Val]"], unfollowed := true, recurses := true, named := ["unicode/utf8.first", "unicode/utf8.acceptRanges", "internal/bytealg.MaxLen"], apart := false, laid := [("unicode/utf8.acceptRanges", laid_unicode_utf8_acceptRanges), ("unicode/utf8.first", laid_unicode_utf8_first)] }
def PassKnownSaid : Prop := passKnownRow.holds Tryz.pinned (OpenSpec.ofChange passKnownSpec)

/-- ITS FALSE NEIGHBOUR: 'it returns false'. Refute it at one input. -/
def passKnownWrong : ChangeSpec := { name := "passKnown", fn := fun _ => fun
  | [] => { results := [.lit (.bool false)], args := [] }
  | _ => none }
def PassKnownWrongFalsely : Prop := passKnownRow.holds Tryz.pinned (OpenSpec.ofChange passKnownWrong)

/-- 'cartouchelaw21.DeltaKnown': WHATEVER THE INPUT: true; the input reads as it did. -/
def deltaKnownSpec : ChangeSpec := { name := "deltaKnown", fn := fun _ => fun
  | [] => { results := [.lit (.bool true)], args := [] }
  | _ => none }
def deltaKnownRow : OpenClaim := { program := "ytdlgenppdgkacaagreatdoor", sum := "7356c0628c64883206a9241dbfdbcf436aaff41819145244b09298ea27c9591c", func := "cartouche/cartouchelaw21.DeltaKnown", spec := "deltaKnown", inPlace := ["internal/bytealg.CountString", "internal/bytealg.IndexByteString", "internal/bytealg.IndexString", "internal/abi.NoEscape", "internal/bytealg.MakeNoZero", "internal/bytealg.Compare", "slices.overlaps[cartouche/api.Field]", "slices.overlaps[cartouche/api.Val]"], unfollowed := true, recurses := true, named := ["unicode/utf8.first", "unicode/utf8.acceptRanges", "internal/bytealg.MaxLen"], apart := false, laid := [("unicode/utf8.acceptRanges", laid_unicode_utf8_acceptRanges), ("unicode/utf8.first", laid_unicode_utf8_first)] }
def DeltaKnownSaid : Prop := deltaKnownRow.holds Tryz.pinned (OpenSpec.ofChange deltaKnownSpec)

/-- ITS FALSE NEIGHBOUR: 'it returns false'. Refute it at one input. -/
def deltaKnownWrong : ChangeSpec := { name := "deltaKnown", fn := fun _ => fun
  | [] => { results := [.lit (.bool false)], args := [] }
  | _ => none }
def DeltaKnownWrongFalsely : Prop := deltaKnownRow.holds Tryz.pinned (OpenSpec.ofChange deltaKnownWrong)

/-- 'cartouchelaw23.FrameKnown': WHATEVER THE INPUT: true; the input reads as it did. -/
def frameKnownSpec : ChangeSpec := { name := "frameKnown", fn := fun _ => fun
  | [] => { results := [.lit (.bool true)], args := [] }
  | _ => none }
def frameKnownRow : OpenClaim := { program := "ytdlgenppdgkacaagreatdoor", sum := "7356c0628c64883206a9241dbfdbcf436aaff41819145244b09298ea27c9591c", func := "cartouche/cartouchelaw23.FrameKnown", spec := "frameKnown", inPlace := ["slices.overlaps[cartouche/api.Field]", "internal/bytealg.Compare", "slices.overlaps[cartouche/api.Val]"], unfollowed := true, recurses := true, named := ["unicode/utf8.first", "unicode/utf8.acceptRanges"], apart := false, laid := [("unicode/utf8.acceptRanges", laid_unicode_utf8_acceptRanges), ("unicode/utf8.first", laid_unicode_utf8_first)] }
def FrameKnownSaid : Prop := frameKnownRow.holds Tryz.pinned (OpenSpec.ofChange frameKnownSpec)

/-- ITS FALSE NEIGHBOUR: 'it returns false'. Refute it at one input. -/
def frameKnownWrong : ChangeSpec := { name := "frameKnown", fn := fun _ => fun
  | [] => { results := [.lit (.bool false)], args := [] }
  | _ => none }
def FrameKnownWrongFalsely : Prop := frameKnownRow.holds Tryz.pinned (OpenSpec.ofChange frameKnownWrong)

/- THE SECOND FORM. 'bulk': how many values and letters a reading holds, each counted each time it is reached (what is shared counts as often as it is met; a slice's spare places count too). A statement '..UptoSaid' is the law's where the arguments, and the package variables that the reading takes, are together of bulk at most 1048576: NARROWER than '..Said'. Prove '..Said' where nothing that the law and all that it calls make is longer than what came in: it says more and counts as full. Else prove '..UptoSaid'. A law counts once. -/
mutual
def uptoBulk {H : Type} : DataW H → Nat
  | .lit (.string bytes) => bytes.length + 1
  | .lit _ => 1
  | .nil => 1
  | .ptr d => uptoBulk d + 1
  | .slice elems spare => uptoBulkAll elems + uptoBulkAll spare + 1
  | .agg parts => uptoBulkAll parts + 1
  | .iface _ d => uptoBulk d + 1
  | .map entries => uptoBulkEntries entries + 1
  | .held _ => 1
def uptoBulkAll {H : Type} : List (DataW H) → Nat
  | [] => 0
  | d :: r => uptoBulk d + uptoBulkAll r
def uptoBulkEntries {H : Type} : List (Lit × DataW H) → Nat
  | [] => 0
  | x :: r => uptoBulkEntry x + uptoBulkEntries r
def uptoBulkEntry {H : Type} : Lit × DataW H → Nat
  | (.string bytes, d) => bytes.length + uptoBulk d + 1
  | (_, d) => uptoBulk d + 1
 end
def uptoSmall : (H : Type) → List (DataW H) → Bool := fun _ ds => decide (uptoBulkAll ds ≤ 1048576)
def OpenSpec.upto (s : _root_.Go.ChangeSpec) : _root_.Go.OpenSpec := { _root_.Go.OpenSpec.ofChange s with cond := some uptoSmall }

/-- 'cartouchelaw8.ModelKnown', WHERE WHAT IT READS IS OF BULK AT MOST 1048576: true; the input reads as it did. -/
def modelKnownUptoRow : OpenClaim := { program := "ytdlgenppdgkacaagreatdoor", sum := "7356c0628c64883206a9241dbfdbcf436aaff41819145244b09298ea27c9591c", func := "cartouche/cartouchelaw8.ModelKnown", spec := "modelKnown", inPlace := ["internal/bytealg.CountString", "internal/bytealg.IndexByteString", "internal/bytealg.IndexString", "internal/abi.NoEscape", "internal/bytealg.MakeNoZero", "internal/bytealg.Compare"], unfollowed := true, recurses := true, named := ["unicode/utf8.first", "unicode/utf8.acceptRanges", "internal/bytealg.MaxLen"], apart := false, laid := [("unicode/utf8.acceptRanges", laid_unicode_utf8_acceptRanges), ("unicode/utf8.first", laid_unicode_utf8_first)], narrowed := true }
def ModelKnownUptoSaid : Prop := modelKnownUptoRow.holds Tryz.pinned (OpenSpec.upto modelKnownSpec)

/-- 'cartouchelaw10.MergeKnown', WHERE WHAT IT READS IS OF BULK AT MOST 1048576: true; the input reads as it did. -/
def mergeKnownUptoRow : OpenClaim := { program := "ytdlgenppdgkacaagreatdoor", sum := "7356c0628c64883206a9241dbfdbcf436aaff41819145244b09298ea27c9591c", func := "cartouche/cartouchelaw10.MergeKnown", spec := "mergeKnown", inPlace := ["internal/bytealg.CountString", "internal/bytealg.IndexByteString", "internal/bytealg.IndexString", "internal/abi.NoEscape", "internal/bytealg.MakeNoZero", "internal/bytealg.Compare", "slices.overlaps[cartouche/api.Val]", "slices.overlaps[cartouche/api.Field]"], unfollowed := true, recurses := true, named := ["unicode/utf8.first", "unicode/utf8.acceptRanges", "internal/bytealg.MaxLen"], apart := false, laid := [("unicode/utf8.acceptRanges", laid_unicode_utf8_acceptRanges), ("unicode/utf8.first", laid_unicode_utf8_first)], narrowed := true }
def MergeKnownUptoSaid : Prop := mergeKnownUptoRow.holds Tryz.pinned (OpenSpec.upto mergeKnownSpec)

/-- 'cartouchelaw9.InterpKnown', WHERE WHAT IT READS IS OF BULK AT MOST 1048576: true; the input reads as it did. -/
def interpKnownUptoRow : OpenClaim := { program := "ytdlgenppdgkacaagreatdoor", sum := "7356c0628c64883206a9241dbfdbcf436aaff41819145244b09298ea27c9591c", func := "cartouche/cartouchelaw9.InterpKnown", spec := "interpKnown", inPlace := ["internal/bytealg.CountString", "internal/bytealg.IndexByteString", "internal/bytealg.IndexString", "internal/abi.NoEscape", "internal/bytealg.MakeNoZero", "internal/bytealg.Compare", "slices.overlaps[cartouche/api.Field]", "slices.overlaps[cartouche/api.Val]"], unfollowed := true, recurses := true, named := ["unicode/utf8.first", "unicode/utf8.acceptRanges", "internal/bytealg.MaxLen"], apart := false, laid := [("unicode/utf8.acceptRanges", laid_unicode_utf8_acceptRanges), ("unicode/utf8.first", laid_unicode_utf8_first)], narrowed := true }
def InterpKnownUptoSaid : Prop := interpKnownUptoRow.holds Tryz.pinned (OpenSpec.upto interpKnownSpec)

/-- 'cartouchelaw19.PassKnown', WHERE WHAT IT READS IS OF BULK AT MOST 1048576: true; the input reads as it did. -/
def passKnownUptoRow : OpenClaim := { program := "ytdlgenppdgkacaagreatdoor", sum := "7356c0628c64883206a9241dbfdbcf436aaff41819145244b09298ea27c9591c", func := "cartouche/cartouchelaw19.PassKnown", spec := "passKnown", inPlace := ["internal/bytealg.CountString", "internal/bytealg.IndexByteString", "internal/bytealg.IndexString", "internal/abi.NoEscape", "internal/bytealg.MakeNoZero", "internal/bytealg.Compare", "slices.overlaps[cartouche/api.Field]", "slices.overlaps[cartouche/api.Val]"], unfollowed := true, recurses := true, named := ["unicode/utf8.first", "unicode/utf8.acceptRanges", "internal/bytealg.MaxLen"], apart := false, laid := [("unicode/utf8.acceptRanges", laid_unicode_utf8_acceptRanges), ("unicode/utf8.first", laid_unicode_utf8_first)], narrowed := true }
def PassKnownUptoSaid : Prop := passKnownUptoRow.holds Tryz.pinned (OpenSpec.upto passKnownSpec)

/-- 'cartouchelaw21.DeltaKnown', WHERE WHAT IT READS IS OF BULK AT MOST 1048576: true; the input reads as it did. -/
def deltaKnownUptoRow : OpenClaim := { program := "ytdlgenppdgkacaagreatdoor", sum := "7356c0628c64883206a9241dbfdbcf436aaff41819145244b09298ea27c9591c", func := "cartouche/cartouchelaw21.DeltaKnown", spec := "deltaKnown", inPlace := ["internal/bytealg.CountString", "internal/bytealg.IndexByteString", "internal/bytealg.IndexString", "internal/abi.NoEscape", "internal/bytealg.MakeNoZero", "internal/bytealg.Compare", "slices.overlaps[cartouche/api.Field]", "slices.overlaps[cartouche/api.Val]"], unfollowed := true, recurses := true, named := ["unicode/utf8.first", "unicode/utf8.acceptRanges", "internal/bytealg.MaxLen"], apart := false, laid := [("unicode/utf8.acceptRanges", laid_unicode_utf8_acceptRanges), ("unicode/utf8.first", laid_unicode_utf8_first)], narrowed := true }
def DeltaKnownUptoSaid : Prop := deltaKnownUptoRow.holds Tryz.pinned (OpenSpec.upto deltaKnownSpec)

/-- 'cartouchelaw23.FrameKnown', WHERE WHAT IT READS IS OF BULK AT MOST 1048576: true; the input reads as it did. -/
def frameKnownUptoRow : OpenClaim := { program := "ytdlgenppdgkacaagreatdoor", sum := "7356c0628c64883206a9241dbfdbcf436aaff41819145244b09298ea27c9591c", func := "cartouche/cartouchelaw23.FrameKnown", spec := "frameKnown", inPlace := ["slices.overlaps[cartouche/api.Field]", "internal/bytealg.Compare", "slices.overlaps[cartouche/api.Val]"], unfollowed := true, recurses := true, named := ["unicode/utf8.first", "unicode/utf8.acceptRanges"], apart := false, laid := [("unicode/utf8.acceptRanges", laid_unicode_utf8_acceptRanges), ("unicode/utf8.first", laid_unicode_utf8_first)], narrowed := true }
def FrameKnownUptoSaid : Prop := frameKnownUptoRow.holds Tryz.pinned (OpenSpec.upto frameKnownSpec)

end Rows
end Go.Proofs.YtdlgenppdgkacaaGreatDoor
