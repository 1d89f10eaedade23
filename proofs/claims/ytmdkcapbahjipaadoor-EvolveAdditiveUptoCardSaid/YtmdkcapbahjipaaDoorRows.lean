/-
  NARROWER THAN 'FOR EVERY INPUT', by the rows' own cells (each row's printed sentence says how): TableGood: laid · TableFields: laid · TableSymbols: laid · EvolveDiffs: laid · EvolveAdditive: laid · EvolveChains: laid · EvolveFresh: laid.
  DERIVED. THE GIVEN ROWS OF THIS SEAT. 7 by the template 'for every input the law returns true; each argument reads behind the call as it read before'; 0 by the template 'total and deterministic' (their statements: YtmdkcapbahjipaaDoorTotals.lean).
  GIVEN WITH THE SEED: the statements are not yours to turn. If you find one false, say at which input.
  Laid BY PROGRAM, IN A SANDBOX (cutbox-rows.mjs): the forced cells as the released guide's own fill.sh prints them over the translation 61445c1387dab7e9… (all of the seat's roots in one cut). By AI agents, Wed Nov 11 2026. No macro, syntax, notation, axiom, sorry.
-/
import Derived.Test.YtmdkcapbahjipaaDoorChecked
import GoSem.PinnedTables
import GoSem.Claim
import GoSem.ClaimJoined
import GoSem.ClaimMapViews
import Derived.JoinedTies
import Derived.KernelRfl
namespace Go.Proofs.YtmdkcapbahjipaaDoor
/- THE CELL 'sum', in the pinned program and in every row, IS THE sha256 OF THE DUMP (.gsa) THAT YtmdkcapbahjipaaDoorProg.lean LOADS. Nothing in Lean hashes anything: it is a label: what it is worth is what the hold of that sum in a sandbox is worth. -/
noncomputable def Tryd.pinned : Pinned := { name := "ytmdkcapbahjipaadoor", sum := "61445c1387dab7e9fff141dc376a360668a5cf22534756d945352a89a6179e45", checked := Tryd.checked }
namespace Rows
def none {H : Type} : Left H := { results := [], args := [] }

/- WHAT THE LISTED PACKAGE-LEVEL VARIABLES READ AS WHEN THE CALL BEGINS. Each datum BY PROGRAM (the guide's laid-datum.mjs) off the statement by which the dump's own 'gosem.cut.vars' lays the variable. In a bare row this is a premise. The card (YtmdkcapbahjipaaDoorCards.lean) ties it to the program's text. -/
def laid_unicode_utf8_acceptRanges {H : Type} : DataW H := .agg [.agg [.lit (.int .u8 128), .lit (.int .u8 191)], .agg [.lit (.int .u8 160), .lit (.int .u8 191)], .agg [.lit (.int .u8 128), .lit (.int .u8 159)], .agg [.lit (.int .u8 144), .lit (.int .u8 191)], .agg [.lit (.int .u8 128), .lit (.int .u8 143)], .agg [.lit (.int .u8 0), .lit (.int .u8 0)], .agg [.lit (.int .u8 0), .lit (.int .u8 0)], .agg [.lit (.int .u8 0), .lit (.int .u8 0)], .agg [.lit (.int .u8 0), .lit (.int .u8 0)], .agg [.lit (.int .u8 0), .lit (.int .u8 0)], .agg [.lit (.int .u8 0), .lit (.int .u8 0)], .agg [.lit (.int .u8 0), .lit (.int .u8 0)], .agg [.lit (.int .u8 0), .lit (.int .u8 0)], .agg [.lit (.int .u8 0), .lit (.int .u8 0)], .agg [.lit (.int .u8 0), .lit (.int .u8 0)], .agg [.lit (.int .u8 0), .lit (.int .u8 0)]]
/-- One of Go's own tables, pinned by name: the form's constant. -/
def laid_unicode_utf8_first : DataW Unit := Go.Pinned.utf8First

/-- 'cartouchelaw7.TableGood': WHATEVER THE INPUT: true; the input reads as it did. -/
def tableGoodSpec : ChangeSpec := { name := "tableGood", fn := fun _ => fun
  | [d1, d2] => { results := [.lit (.bool true)], args := [d1, d2] }
  | _ => none }
def tableGoodRow : OpenClaim := { program := "ytmdkcapbahjipaadoor", sum := "61445c1387dab7e9fff141dc376a360668a5cf22534756d945352a89a6179e45", func := "cartouche/cartouchelaw7.TableGood", spec := "tableGood", inPlace := ["internal/bytealg.CountString", "internal/bytealg.IndexByteString", "internal/bytealg.IndexString", "internal/abi.NoEscape", "internal/bytealg.MakeNoZero"], named := ["unicode/utf8.first", "unicode/utf8.acceptRanges", "internal/bytealg.MaxLen"], apart := false, laid := [("unicode/utf8.acceptRanges", laid_unicode_utf8_acceptRanges), ("unicode/utf8.first", laid_unicode_utf8_first)] }
def TableGoodSaid : Prop := tableGoodRow.holds Tryd.pinned (OpenSpec.ofChange tableGoodSpec)

/-- ITS FALSE NEIGHBOUR: 'it returns false'. Refute it at one input. -/
def tableGoodWrong : ChangeSpec := { name := "tableGood", fn := fun _ => fun
  | [d1, d2] => { results := [.lit (.bool false)], args := [d1, d2] }
  | _ => none }
def TableGoodWrongFalsely : Prop := tableGoodRow.holds Tryd.pinned (OpenSpec.ofChange tableGoodWrong)

/-- 'cartouchelaw7.TableFields': WHATEVER THE INPUT: true; the input reads as it did. -/
def tableFieldsSpec : ChangeSpec := { name := "tableFields", fn := fun _ => fun
  | [d1, d2, d3, d4, d5] => { results := [.lit (.bool true)], args := [d1, d2, d3, d4, d5] }
  | _ => none }
def tableFieldsRow : OpenClaim := { program := "ytmdkcapbahjipaadoor", sum := "61445c1387dab7e9fff141dc376a360668a5cf22534756d945352a89a6179e45", func := "cartouche/cartouchelaw7.TableFields", spec := "tableFields", inPlace := ["internal/bytealg.CountString", "internal/bytealg.IndexByteString", "internal/bytealg.IndexString", "internal/abi.NoEscape", "internal/bytealg.MakeNoZero"], named := ["unicode/utf8.first", "unicode/utf8.acceptRanges", "internal/bytealg.MaxLen"], apart := false, laid := [("unicode/utf8.acceptRanges", laid_unicode_utf8_acceptRanges), ("unicode/utf8.first", laid_unicode_utf8_first)] }
def TableFieldsSaid : Prop := tableFieldsRow.holds Tryd.pinned (OpenSpec.ofChange tableFieldsSpec)

/-- ITS FALSE NEIGHBOUR: 'it returns false'. Refute it at one input. -/
def tableFieldsWrong : ChangeSpec := { name := "tableFields", fn := fun _ => fun
  | [d1, d2, d3, d4, d5] => { results := [.lit (.bool false)], args := [d1, d2, d3, d4, d5] }
  | _ => none }
def TableFieldsWrongFalsely : Prop := tableFieldsRow.holds Tryd.pinned (OpenSpec.ofChange tableFieldsWrong)

/-- 'cartouchelaw7.TableSymbols': WHATEVER THE INPUT: true; the input reads as it did. -/
def tableSymbolsSpec : ChangeSpec := { name := "tableSymbols", fn := fun _ => fun
  | [d1, d2, d3, d4] => { results := [.lit (.bool true)], args := [d1, d2, d3, d4] }
  | _ => none }
def tableSymbolsRow : OpenClaim := { program := "ytmdkcapbahjipaadoor", sum := "61445c1387dab7e9fff141dc376a360668a5cf22534756d945352a89a6179e45", func := "cartouche/cartouchelaw7.TableSymbols", spec := "tableSymbols", inPlace := ["internal/bytealg.CountString", "internal/bytealg.IndexByteString", "internal/bytealg.IndexString", "internal/abi.NoEscape", "internal/bytealg.MakeNoZero"], unfollowed := true, recurses := true, named := ["unicode/utf8.first", "unicode/utf8.acceptRanges", "internal/bytealg.MaxLen"], apart := false, laid := [("unicode/utf8.acceptRanges", laid_unicode_utf8_acceptRanges), ("unicode/utf8.first", laid_unicode_utf8_first)] }
def TableSymbolsSaid : Prop := tableSymbolsRow.holds Tryd.pinned (OpenSpec.ofChange tableSymbolsSpec)

/-- ITS FALSE NEIGHBOUR: 'it returns false'. Refute it at one input. -/
def tableSymbolsWrong : ChangeSpec := { name := "tableSymbols", fn := fun _ => fun
  | [d1, d2, d3, d4] => { results := [.lit (.bool false)], args := [d1, d2, d3, d4] }
  | _ => none }
def TableSymbolsWrongFalsely : Prop := tableSymbolsRow.holds Tryd.pinned (OpenSpec.ofChange tableSymbolsWrong)

/-- 'cartouchelaw18.EvolveDiffs': WHATEVER THE INPUT: true; the input reads as it did. -/
def evolveDiffsSpec : ChangeSpec := { name := "evolveDiffs", fn := fun _ => fun
  | [d1, d2] => { results := [.lit (.bool true)], args := [d1, d2] }
  | _ => none }
def evolveDiffsRow : OpenClaim := { program := "ytmdkcapbahjipaadoor", sum := "61445c1387dab7e9fff141dc376a360668a5cf22534756d945352a89a6179e45", func := "cartouche/cartouchelaw18.EvolveDiffs", spec := "evolveDiffs", inPlace := ["internal/bytealg.CountString", "internal/bytealg.IndexByteString", "internal/bytealg.IndexString", "internal/abi.NoEscape", "internal/bytealg.MakeNoZero"], unfollowed := true, recurses := true, named := ["unicode/utf8.first", "unicode/utf8.acceptRanges", "internal/bytealg.MaxLen"], apart := false, laid := [("unicode/utf8.acceptRanges", laid_unicode_utf8_acceptRanges), ("unicode/utf8.first", laid_unicode_utf8_first)] }
def EvolveDiffsSaid : Prop := evolveDiffsRow.holds Tryd.pinned (OpenSpec.ofChange evolveDiffsSpec)

/-- ITS FALSE NEIGHBOUR: 'it returns false'. Refute it at one input. -/
def evolveDiffsWrong : ChangeSpec := { name := "evolveDiffs", fn := fun _ => fun
  | [d1, d2] => { results := [.lit (.bool false)], args := [d1, d2] }
  | _ => none }
def EvolveDiffsWrongFalsely : Prop := evolveDiffsRow.holds Tryd.pinned (OpenSpec.ofChange evolveDiffsWrong)

/-- 'cartouchelaw18.EvolveAdditive': WHATEVER THE INPUT: true; the input reads as it did. -/
def evolveAdditiveSpec : ChangeSpec := { name := "evolveAdditive", fn := fun _ => fun
  | [d1, d2] => { results := [.lit (.bool true)], args := [d1, d2] }
  | _ => none }
def evolveAdditiveRow : OpenClaim := { program := "ytmdkcapbahjipaadoor", sum := "61445c1387dab7e9fff141dc376a360668a5cf22534756d945352a89a6179e45", func := "cartouche/cartouchelaw18.EvolveAdditive", spec := "evolveAdditive", inPlace := ["internal/bytealg.CountString", "internal/bytealg.IndexByteString", "internal/bytealg.IndexString", "internal/abi.NoEscape", "internal/bytealg.MakeNoZero"], unfollowed := true, recurses := true, named := ["unicode/utf8.first", "unicode/utf8.acceptRanges", "internal/bytealg.MaxLen"], apart := false, laid := [("unicode/utf8.acceptRanges", laid_unicode_utf8_acceptRanges), ("unicode/utf8.first", laid_unicode_utf8_first)] }
def EvolveAdditiveSaid : Prop := evolveAdditiveRow.holds Tryd.pinned (OpenSpec.ofChange evolveAdditiveSpec)

/-- ITS FALSE NEIGHBOUR: 'it returns false'. Refute it at one input. -/
def evolveAdditiveWrong : ChangeSpec := { name := "evolveAdditive", fn := fun _ => fun
  | [d1, d2] => { results := [.lit (.bool false)], args := [d1, d2] }
  | _ => none }
def EvolveAdditiveWrongFalsely : Prop := evolveAdditiveRow.holds Tryd.pinned (OpenSpec.ofChange evolveAdditiveWrong)

/-- 'cartouchelaw18.EvolveChains': WHATEVER THE INPUT: true; the input reads as it did. -/
def evolveChainsSpec : ChangeSpec := { name := "evolveChains", fn := fun _ => fun
  | [d1, d2, d3] => { results := [.lit (.bool true)], args := [d1, d2, d3] }
  | _ => none }
def evolveChainsRow : OpenClaim := { program := "ytmdkcapbahjipaadoor", sum := "61445c1387dab7e9fff141dc376a360668a5cf22534756d945352a89a6179e45", func := "cartouche/cartouchelaw18.EvolveChains", spec := "evolveChains", inPlace := ["internal/bytealg.CountString", "internal/bytealg.IndexByteString", "internal/bytealg.IndexString", "internal/abi.NoEscape", "internal/bytealg.MakeNoZero"], unfollowed := true, recurses := true, named := ["unicode/utf8.first", "unicode/utf8.acceptRanges", "internal/bytealg.MaxLen"], apart := false, laid := [("unicode/utf8.acceptRanges", laid_unicode_utf8_acceptRanges), ("unicode/utf8.first", laid_unicode_utf8_first)] }
def EvolveChainsSaid : Prop := evolveChainsRow.holds Tryd.pinned (OpenSpec.ofChange evolveChainsSpec)

/-- ITS FALSE NEIGHBOUR: 'it returns false'. Refute it at one input. -/
def evolveChainsWrong : ChangeSpec := { name := "evolveChains", fn := fun _ => fun
  | [d1, d2, d3] => { results := [.lit (.bool false)], args := [d1, d2, d3] }
  | _ => none }
def EvolveChainsWrongFalsely : Prop := evolveChainsRow.holds Tryd.pinned (OpenSpec.ofChange evolveChainsWrong)

/-- 'cartouchelaw18.EvolveFresh': WHATEVER THE INPUT: true; the input reads as it did. -/
def evolveFreshSpec : ChangeSpec := { name := "evolveFresh", fn := fun _ => fun
  | [d1, d2, d3, d4, d5] => { results := [.lit (.bool true)], args := [d1, d2, d3, d4, d5] }
  | _ => none }
def evolveFreshRow : OpenClaim := { program := "ytmdkcapbahjipaadoor", sum := "61445c1387dab7e9fff141dc376a360668a5cf22534756d945352a89a6179e45", func := "cartouche/cartouchelaw18.EvolveFresh", spec := "evolveFresh", inPlace := ["internal/bytealg.CountString", "internal/bytealg.IndexByteString", "internal/bytealg.IndexString", "internal/abi.NoEscape", "internal/bytealg.MakeNoZero"], unfollowed := true, recurses := true, named := ["unicode/utf8.first", "unicode/utf8.acceptRanges", "internal/bytealg.MaxLen"], apart := false, laid := [("unicode/utf8.acceptRanges", laid_unicode_utf8_acceptRanges), ("unicode/utf8.first", laid_unicode_utf8_first)] }
def EvolveFreshSaid : Prop := evolveFreshRow.holds Tryd.pinned (OpenSpec.ofChange evolveFreshSpec)

/-- ITS FALSE NEIGHBOUR: 'it returns false'. Refute it at one input. -/
def evolveFreshWrong : ChangeSpec := { name := "evolveFresh", fn := fun _ => fun
  | [d1, d2, d3, d4, d5] => { results := [.lit (.bool false)], args := [d1, d2, d3, d4, d5] }
  | _ => none }
def EvolveFreshWrongFalsely : Prop := evolveFreshRow.holds Tryd.pinned (OpenSpec.ofChange evolveFreshWrong)

/- THE SECOND FORM. 'bulk': how many values and letters a reading holds, each counted each time it is reached (what is shared counts as often as it is met; a slice's spare places count too). A statement '..UptoSaid' is the law's where the arguments, and the package variables that the reading takes, are together of bulk at most 1048576: NARROWER than '..Said'. Prove '..Said' where nothing that the law and all that it calls make is longer than what came in: it says more and counts as full. Else prove '..UptoSaid'. A law counts once. -/
mutual
def uptoBulk {H : Type} : DataW H → Nat
  | .lit (.string bytes) => bytes.length + 1
  | .lit _ => 1
  | .nil => 1
  | .ptr d => uptoBulk d + 1
  | .slice elems spare => uptoBulkAll elems + uptoBulkAll spare + 1
  | .agg parts => uptoBulkAll parts + 1
  | .iface _ d => uptoBulk d + 1
  | .map entries => uptoBulkEntries entries + 1
  | .held _ => 1
def uptoBulkAll {H : Type} : List (DataW H) → Nat
  | [] => 0
  | d :: r => uptoBulk d + uptoBulkAll r
def uptoBulkEntries {H : Type} : List (Lit × DataW H) → Nat
  | [] => 0
  | x :: r => uptoBulkEntry x + uptoBulkEntries r
def uptoBulkEntry {H : Type} : Lit × DataW H → Nat
  | (.string bytes, d) => bytes.length + uptoBulk d + 1
  | (_, d) => uptoBulk d + 1
 end
def uptoSmall : (H : Type) → List (DataW H) → Bool := fun _ ds => decide (uptoBulkAll ds ≤ 1048576)
def OpenSpec.upto (s : _root_.Go.ChangeSpec) : _root_.Go.OpenSpec := { _root_.Go.OpenSpec.ofChange s with cond := some uptoSmall }

/-- 'cartouchelaw7.TableGood', WHERE WHAT IT READS IS OF BULK AT MOST 1048576: true; the input reads as it did. -/
def tableGoodUptoRow : OpenClaim := { program := "ytmdkcapbahjipaadoor", sum := "61445c1387dab7e9fff141dc376a360668a5cf22534756d945352a89a6179e45", func := "cartouche/cartouchelaw7.TableGood", spec := "tableGood", inPlace := ["internal/bytealg.CountString", "internal/bytealg.IndexByteString", "internal/bytealg.IndexString", "internal/abi.NoEscape", "internal/bytealg.MakeNoZero"], named := ["unicode/utf8.first", "unicode/utf8.acceptRanges", "internal/bytealg.MaxLen"], apart := false, laid := [("unicode/utf8.acceptRanges", laid_unicode_utf8_acceptRanges), ("unicode/utf8.first", laid_unicode_utf8_first)], narrowed := true }
def TableGoodUptoSaid : Prop := tableGoodUptoRow.holds Tryd.pinned (OpenSpec.upto tableGoodSpec)

/-- 'cartouchelaw7.TableFields', WHERE WHAT IT READS IS OF BULK AT MOST 1048576: true; the input reads as it did. -/
def tableFieldsUptoRow : OpenClaim := { program := "ytmdkcapbahjipaadoor", sum := "61445c1387dab7e9fff141dc376a360668a5cf22534756d945352a89a6179e45", func := "cartouche/cartouchelaw7.TableFields", spec := "tableFields", inPlace := ["internal/bytealg.CountString", "internal/bytealg.IndexByteString", "internal/bytealg.IndexString", "internal/abi.NoEscape", "internal/bytealg.MakeNoZero"], named := ["unicode/utf8.first", "unicode/utf8.acceptRanges", "internal/bytealg.MaxLen"], apart := false, laid := [("unicode/utf8.acceptRanges", laid_unicode_utf8_acceptRanges), ("unicode/utf8.first", laid_unicode_utf8_first)], narrowed := true }
def TableFieldsUptoSaid : Prop := tableFieldsUptoRow.holds Tryd.pinned (OpenSpec.upto tableFieldsSpec)

/-- 'cartouchelaw7.TableSymbols', WHERE WHAT IT READS IS OF BULK AT MOST 1048576: true; the input reads as it did. -/
def tableSymbolsUptoRow : OpenClaim := { program := "ytmdkcapbahjipaadoor", sum := "61445c1387dab7e9fff141dc376a360668a5cf22534756d945352a89a6179e45", func := "cartouche/cartouchelaw7.TableSymbols", spec := "tableSymbols", inPlace := ["internal/bytealg.CountString", "internal/bytealg.IndexByteString", "internal/bytealg.IndexString", "internal/abi.NoEscape", "internal/bytealg.MakeNoZero"], unfollowed := true, recurses := true, named := ["unicode/utf8.first", "unicode/utf8.acceptRanges", "internal/bytealg.MaxLen"], apart := false, laid := [("unicode/utf8.acceptRanges", laid_unicode_utf8_acceptRanges), ("unicode/utf8.first", laid_unicode_utf8_first)], narrowed := true }
def TableSymbolsUptoSaid : Prop := tableSymbolsUptoRow.holds Tryd.pinned (OpenSpec.upto tableSymbolsSpec)

/-- 'cartouchelaw18.EvolveDiffs', WHERE WHAT IT READS IS OF BULK AT MOST 1048576: true; the input reads as it did. -/
def evolveDiffsUptoRow : OpenClaim := { program := "ytmdkcapbahjipaadoor", sum := "61445c1387dab7e9fff141dc376a360668a5cf22534756d945352a89a6179e45", func := "cartouche/cartouchelaw18.EvolveDiffs", spec := "evolveDiffs", inPlace := ["internal/bytealg.CountString", "internal/bytealg.IndexByteString", "internal/bytealg.IndexString", "internal/abi.NoEscape", "internal/bytealg.MakeNoZero"], unfollowed := true, recurses := true, named := ["unicode/utf8.first", "unicode/utf8.acceptRanges", "internal/bytealg.MaxLen"], apart := false, laid := [("unicode/utf8.acceptRanges", laid_unicode_utf8_acceptRanges), ("unicode/utf8.first", laid_unicode_utf8_first)], narrowed := true }
def EvolveDiffsUptoSaid : Prop := evolveDiffsUptoRow.holds Tryd.pinned (OpenSpec.upto evolveDiffsSpec)

/-- 'cartouchelaw18.EvolveAdditive', WHERE WHAT IT READS IS OF BULK AT MOST 1048576: true; the input reads as it did. -/
def evolveAdditiveUptoRow : OpenClaim := { program := "ytmdkcapbahjipaadoor", sum := "61445c1387dab7e9fff141dc376a360668a5cf22534756d945352a89a6179e45", func := "cartouche/cartouchelaw18.EvolveAdditive", spec := "evolveAdditive", inPlace := ["internal/bytealg.CountString", "internal/bytealg.IndexByteString", "internal/bytealg.IndexString", "internal/abi.NoEscape", "internal/bytealg.MakeNoZero"], unfollowed := true, recurses := true, named := ["unicode/utf8.first", "unicode/utf8.acceptRanges", "internal/bytealg.MaxLen"], apart := false, laid := [("unicode/utf8.acceptRanges", laid_unicode_utf8_acceptRanges), ("unicode/utf8.first", laid_unicode_utf8_first)], narrowed := true }
def EvolveAdditiveUptoSaid : Prop := evolveAdditiveUptoRow.holds Tryd.pinned (OpenSpec.upto evolveAdditiveSpec)

/-- 'cartouchelaw18.EvolveChains', WHERE WHAT IT READS IS OF BULK AT MOST 1048576: true; the input reads as it did. -/
def evolveChainsUptoRow : OpenClaim := { program := "ytmdkcapbahjipaadoor", sum := "61445c1387dab7e9fff141dc376a360668a5cf22534756d945352a89a6179e45", func := "cartouche/cartouchelaw18.EvolveChains", spec := "evolveChains", inPlace := ["internal/bytealg.CountString", "internal/bytealg.IndexByteString", "internal/bytealg.IndexString", "internal/abi.NoEscape", "internal/bytealg.MakeNoZero"], unfollowed := true, recurses := true, named := ["unicode/utf8.first", "unicode/utf8.acceptRanges", "internal/bytealg.MaxLen"], apart := false, laid := [("unicode/utf8.acceptRanges", laid_unicode_utf8_acceptRanges), ("unicode/utf8.first", laid_unicode_utf8_first)], narrowed := true }
def EvolveChainsUptoSaid : Prop := evolveChainsUptoRow.holds Tryd.pinned (OpenSpec.upto evolveChainsSpec)

/-- 'cartouchelaw18.EvolveFresh', WHERE WHAT IT READS IS OF BULK AT MOST 1048576: true; the input reads as it did. -/
def evolveFreshUptoRow : OpenClaim := { program := "ytmdkcapbahjipaadoor", sum := "61445c1387dab7e9fff141dc376a360668a5cf22534756d945352a89a6179e45", func := "cartouche/cartouchelaw18.EvolveFresh", spec := "evolveFresh", inPlace := ["internal/bytealg.CountString", "internal/bytealg.IndexByteString", "internal/bytealg.IndexString", "internal/abi.NoEscape", "internal/bytealg.MakeNoZero"], unfollowed := true, recurses := true, named := ["unicode/utf8.first", "unicode/utf8.acceptRanges", "internal/bytealg.MaxLen"], apart := false, laid := [("unicode/utf8.acceptRanges", laid_unicode_utf8_acceptRanges), ("unicode/utf8.first", laid_unicode_utf8_first)], narrowed := true }
def EvolveFreshUptoSaid : Prop := evolveFreshUptoRow.holds Tryd.pinned (OpenSpec.upto evolveFreshSpec)

end Rows
end Go.Proofs.YtmdkcapbahjipaaDoor
