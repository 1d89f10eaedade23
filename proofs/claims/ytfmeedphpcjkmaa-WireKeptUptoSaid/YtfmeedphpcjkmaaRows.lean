/-
  No cell of these rows narrows 'for every input' (looked for: loops, veiled, ifaces, maps, wideKeys, modest, calm, conditions, laid).
  DERIVED. THE GIVEN ROWS OF THIS SEAT. 8 by the template 'for every input the law returns true; each argument reads behind the call as it read before'; 0 by the template 'total and deterministic' (their statements: YtfmeedphpcjkmaaTotals.lean).
  GIVEN WITH THE SEED: the statements are not yours to turn. If you find one false, say at which input.
  Laid BY PROGRAM, IN A SANDBOX (cutbox-rows.mjs): the forced cells as the released guide's own fill.sh prints them over the translation aaad89761fc80b49… (all of the seat's roots in one cut). By AI agents, Wed Nov 11 2026. No macro, syntax, notation, axiom, sorry.
-/
import Derived.Test.YtfmeedphpcjkmaaChecked
import GoSem.Claim
import GoSem.ClaimJoined
import GoSem.ClaimMapViews
import Derived.JoinedTies
import Derived.KernelRfl
namespace Go.Proofs.Ytfmeedphpcjkmaa
/- THE CELL 'sum', in the pinned program and in every row, IS THE sha256 OF THE DUMP (.gsa) THAT YtfmeedphpcjkmaaProg.lean LOADS. Nothing in Lean hashes anything: it is a label: what it is worth is what the hold of that sum in a sandbox is worth. -/
noncomputable def Try.pinned : Pinned := { name := "ytfmeedphpcjkmaa", sum := "aaad89761fc80b49351de33b33b30943a011ffe39cb5314c25aee1bb2c8240cd", checked := Try.checked }
namespace Rows
def none {H : Type} : Left H := { results := [], args := [] }

/-- 'cartouchelaw1.WireVarints': WHATEVER THE INPUT: true; the input reads as it did. -/
def wireVarintsSpec : ChangeSpec := { name := "wireVarints", fn := fun _ => fun
  | [d1, d2, d3] => { results := [.lit (.bool true)], args := [d1, d2, d3] }
  | _ => none }
def wireVarintsRow : OpenClaim := { program := "ytfmeedphpcjkmaa", sum := "aaad89761fc80b49351de33b33b30943a011ffe39cb5314c25aee1bb2c8240cd", func := "cartouche/cartouchelaw1.WireVarints", spec := "wireVarints", apart := false }
def WireVarintsSaid : Prop := wireVarintsRow.holds Try.pinned (OpenSpec.ofChange wireVarintsSpec)

/-- ITS FALSE NEIGHBOUR: 'it returns false'. Refute it at one input. -/
def wireVarintsWrong : ChangeSpec := { name := "wireVarints", fn := fun _ => fun
  | [d1, d2, d3] => { results := [.lit (.bool false)], args := [d1, d2, d3] }
  | _ => none }
def WireVarintsWrongFalsely : Prop := wireVarintsRow.holds Try.pinned (OpenSpec.ofChange wireVarintsWrong)

/-- 'cartouchelaw1.WireTags': WHATEVER THE INPUT: true; the input reads as it did. -/
def wireTagsSpec : ChangeSpec := { name := "wireTags", fn := fun _ => fun
  | [d1, d2, d3, d4] => { results := [.lit (.bool true)], args := [d1, d2, d3, d4] }
  | _ => none }
def wireTagsRow : OpenClaim := { program := "ytfmeedphpcjkmaa", sum := "aaad89761fc80b49351de33b33b30943a011ffe39cb5314c25aee1bb2c8240cd", func := "cartouche/cartouchelaw1.WireTags", spec := "wireTags", apart := false }
def WireTagsSaid : Prop := wireTagsRow.holds Try.pinned (OpenSpec.ofChange wireTagsSpec)

/-- ITS FALSE NEIGHBOUR: 'it returns false'. Refute it at one input. -/
def wireTagsWrong : ChangeSpec := { name := "wireTags", fn := fun _ => fun
  | [d1, d2, d3, d4] => { results := [.lit (.bool false)], args := [d1, d2, d3, d4] }
  | _ => none }
def WireTagsWrongFalsely : Prop := wireTagsRow.holds Try.pinned (OpenSpec.ofChange wireTagsWrong)

/-- 'cartouchelaw1.WireWords': WHATEVER THE INPUT: true; the input reads as it did. -/
def wireWordsSpec : ChangeSpec := { name := "wireWords", fn := fun _ => fun
  | [d1, d2, d3] => { results := [.lit (.bool true)], args := [d1, d2, d3] }
  | _ => none }
def wireWordsRow : OpenClaim := { program := "ytfmeedphpcjkmaa", sum := "aaad89761fc80b49351de33b33b30943a011ffe39cb5314c25aee1bb2c8240cd", func := "cartouche/cartouchelaw1.WireWords", spec := "wireWords", apart := false }
def WireWordsSaid : Prop := wireWordsRow.holds Try.pinned (OpenSpec.ofChange wireWordsSpec)

/-- ITS FALSE NEIGHBOUR: 'it returns false'. Refute it at one input. -/
def wireWordsWrong : ChangeSpec := { name := "wireWords", fn := fun _ => fun
  | [d1, d2, d3] => { results := [.lit (.bool false)], args := [d1, d2, d3] }
  | _ => none }
def WireWordsWrongFalsely : Prop := wireWordsRow.holds Try.pinned (OpenSpec.ofChange wireWordsWrong)

/-- 'cartouchelaw1.WireKept': WHATEVER THE INPUT: true; the input reads as it did. -/
def wireKeptSpec : ChangeSpec := { name := "wireKept", fn := fun _ => fun
  | [d1, d2] => { results := [.lit (.bool true)], args := [d1, d2] }
  | _ => none }
def wireKeptRow : OpenClaim := { program := "ytfmeedphpcjkmaa", sum := "aaad89761fc80b49351de33b33b30943a011ffe39cb5314c25aee1bb2c8240cd", func := "cartouche/cartouchelaw1.WireKept", spec := "wireKept", apart := false }
def WireKeptSaid : Prop := wireKeptRow.holds Try.pinned (OpenSpec.ofChange wireKeptSpec)

/-- ITS FALSE NEIGHBOUR: 'it returns false'. Refute it at one input. -/
def wireKeptWrong : ChangeSpec := { name := "wireKept", fn := fun _ => fun
  | [d1, d2] => { results := [.lit (.bool false)], args := [d1, d2] }
  | _ => none }
def WireKeptWrongFalsely : Prop := wireKeptRow.holds Try.pinned (OpenSpec.ofChange wireKeptWrong)

/-- 'cartouchelaw1.WireBack': WHATEVER THE INPUT: true; the input reads as it did. -/
def wireBackSpec : ChangeSpec := { name := "wireBack", fn := fun _ => fun
  | [d1, d2, d3, d4] => { results := [.lit (.bool true)], args := [d1, d2, d3, d4] }
  | _ => none }
def wireBackRow : OpenClaim := { program := "ytfmeedphpcjkmaa", sum := "aaad89761fc80b49351de33b33b30943a011ffe39cb5314c25aee1bb2c8240cd", func := "cartouche/cartouchelaw1.WireBack", spec := "wireBack", apart := false }
def WireBackSaid : Prop := wireBackRow.holds Try.pinned (OpenSpec.ofChange wireBackSpec)

/-- ITS FALSE NEIGHBOUR: 'it returns false'. Refute it at one input. -/
def wireBackWrong : ChangeSpec := { name := "wireBack", fn := fun _ => fun
  | [d1, d2, d3, d4] => { results := [.lit (.bool false)], args := [d1, d2, d3, d4] }
  | _ => none }
def WireBackWrongFalsely : Prop := wireBackRow.holds Try.pinned (OpenSpec.ofChange wireBackWrong)

/-- 'cartouchelaw1.WireKnown': WHATEVER THE INPUT: true; the input reads as it did. -/
def wireKnownSpec : ChangeSpec := { name := "wireKnown", fn := fun _ => fun
  | [] => { results := [.lit (.bool true)], args := [] }
  | _ => none }
def wireKnownRow : OpenClaim := { program := "ytfmeedphpcjkmaa", sum := "aaad89761fc80b49351de33b33b30943a011ffe39cb5314c25aee1bb2c8240cd", func := "cartouche/cartouchelaw1.WireKnown", spec := "wireKnown", apart := false }
def WireKnownSaid : Prop := wireKnownRow.holds Try.pinned (OpenSpec.ofChange wireKnownSpec)

/-- ITS FALSE NEIGHBOUR: 'it returns false'. Refute it at one input. -/
def wireKnownWrong : ChangeSpec := { name := "wireKnown", fn := fun _ => fun
  | [] => { results := [.lit (.bool false)], args := [] }
  | _ => none }
def WireKnownWrongFalsely : Prop := wireKnownRow.holds Try.pinned (OpenSpec.ofChange wireKnownWrong)

/-- 'cartouchelaw1.WireEntries': WHATEVER THE INPUT: true; the input reads as it did. -/
def wireEntriesSpec : ChangeSpec := { name := "wireEntries", fn := fun _ => fun
  | [d1, d2, d3, d4] => { results := [.lit (.bool true)], args := [d1, d2, d3, d4] }
  | _ => none }
def wireEntriesRow : OpenClaim := { program := "ytfmeedphpcjkmaa", sum := "aaad89761fc80b49351de33b33b30943a011ffe39cb5314c25aee1bb2c8240cd", func := "cartouche/cartouchelaw1.WireEntries", spec := "wireEntries", apart := false }
def WireEntriesSaid : Prop := wireEntriesRow.holds Try.pinned (OpenSpec.ofChange wireEntriesSpec)

/-- ITS FALSE NEIGHBOUR: 'it returns false'. Refute it at one input. -/
def wireEntriesWrong : ChangeSpec := { name := "wireEntries", fn := fun _ => fun
  | [d1, d2, d3, d4] => { results := [.lit (.bool false)], args := [d1, d2, d3, d4] }
  | _ => none }
def WireEntriesWrongFalsely : Prop := wireEntriesRow.holds Try.pinned (OpenSpec.ofChange wireEntriesWrong)

/-- 'cartouchelaw1.WireJoins': WHATEVER THE INPUT: true; the input reads as it did. -/
def wireJoinsSpec : ChangeSpec := { name := "wireJoins", fn := fun _ => fun
  | [d1, d2, d3] => { results := [.lit (.bool true)], args := [d1, d2, d3] }
  | _ => none }
def wireJoinsRow : OpenClaim := { program := "ytfmeedphpcjkmaa", sum := "aaad89761fc80b49351de33b33b30943a011ffe39cb5314c25aee1bb2c8240cd", func := "cartouche/cartouchelaw1.WireJoins", spec := "wireJoins", apart := false }
def WireJoinsSaid : Prop := wireJoinsRow.holds Try.pinned (OpenSpec.ofChange wireJoinsSpec)

/-- ITS FALSE NEIGHBOUR: 'it returns false'. Refute it at one input. -/
def wireJoinsWrong : ChangeSpec := { name := "wireJoins", fn := fun _ => fun
  | [d1, d2, d3] => { results := [.lit (.bool false)], args := [d1, d2, d3] }
  | _ => none }
def WireJoinsWrongFalsely : Prop := wireJoinsRow.holds Try.pinned (OpenSpec.ofChange wireJoinsWrong)

/- THE SECOND FORM. 'bulk': how many values and letters a reading holds, each counted each time it is reached (what is shared counts as often as it is met; a slice's spare places count too). A statement '..UptoSaid' is the law's where the arguments, and the package variables that the reading takes, are together of bulk at most 1048576: NARROWER than '..Said'. Prove '..Said' where nothing that the law and all that it calls make is longer than what came in: it says more and counts as full. Else prove '..UptoSaid'. A law counts once. -/
mutual
def uptoBulk {H : Type} : DataW H → Nat
  | .lit (.string bytes) => bytes.length + 1
  | .lit _ => 1
  | .nil => 1
  | .ptr d => uptoBulk d + 1
  | .slice elems spare => uptoBulkAll elems + uptoBulkAll spare + 1
  | .agg parts => uptoBulkAll parts + 1
  | .iface _ d => uptoBulk d + 1
  | .map entries => uptoBulkEntries entries + 1
  | .held _ => 1
def uptoBulkAll {H : Type} : List (DataW H) → Nat
  | [] => 0
  | d :: r => uptoBulk d + uptoBulkAll r
def uptoBulkEntries {H : Type} : List (Lit × DataW H) → Nat
  | [] => 0
  | x :: r => uptoBulkEntry x + uptoBulkEntries r
def uptoBulkEntry {H : Type} : Lit × DataW H → Nat
  | (.string bytes, d) => bytes.length + uptoBulk d + 1
  | (_, d) => uptoBulk d + 1
 end
def uptoSmall : (H : Type) → List (DataW H) → Bool := fun _ ds => decide (uptoBulkAll ds ≤ 1048576)
def OpenSpec.upto (s : _root_.Go.ChangeSpec) : _root_.Go.OpenSpec := { _root_.Go.OpenSpec.ofChange s with cond := some uptoSmall }

/-- 'cartouchelaw1.WireVarints', WHERE WHAT IT READS IS OF BULK AT MOST 1048576: true; the input reads as it did. -/
def wireVarintsUptoRow : OpenClaim := { program := "ytfmeedphpcjkmaa", sum := "aaad89761fc80b49351de33b33b30943a011ffe39cb5314c25aee1bb2c8240cd", func := "cartouche/cartouchelaw1.WireVarints", spec := "wireVarints", apart := false, narrowed := true }
def WireVarintsUptoSaid : Prop := wireVarintsUptoRow.holds Try.pinned (OpenSpec.upto wireVarintsSpec)

/-- 'cartouchelaw1.WireTags', WHERE WHAT IT READS IS OF BULK AT MOST 1048576: true; the input reads as it did. -/
def wireTagsUptoRow : OpenClaim := { program := "ytfmeedphpcjkmaa", sum := "aaad89761fc80b49351de33b33b30943a011ffe39cb5314c25aee1bb2c8240cd", func := "cartouche/cartouchelaw1.WireTags", spec := "wireTags", apart := false, narrowed := true }
def WireTagsUptoSaid : Prop := wireTagsUptoRow.holds Try.pinned (OpenSpec.upto wireTagsSpec)

/-- 'cartouchelaw1.WireWords', WHERE WHAT IT READS IS OF BULK AT MOST 1048576: true; the input reads as it did. -/
def wireWordsUptoRow : OpenClaim := { program := "ytfmeedphpcjkmaa", sum := "aaad89761fc80b49351de33b33b30943a011ffe39cb5314c25aee1bb2c8240cd", func := "cartouche/cartouchelaw1.WireWords", spec := "wireWords", apart := false, narrowed := true }
def WireWordsUptoSaid : Prop := wireWordsUptoRow.holds Try.pinned (OpenSpec.upto wireWordsSpec)

/-- 'cartouchelaw1.WireKept', WHERE WHAT IT READS IS OF BULK AT MOST 1048576: true; the input reads as it did. -/
def wireKeptUptoRow : OpenClaim := { program := "ytfmeedphpcjkmaa", sum := "aaad89761fc80b49351de33b33b30943a011ffe39cb5314c25aee1bb2c8240cd", func := "cartouche/cartouchelaw1.WireKept", spec := "wireKept", apart := false, narrowed := true }
def WireKeptUptoSaid : Prop := wireKeptUptoRow.holds Try.pinned (OpenSpec.upto wireKeptSpec)

/-- 'cartouchelaw1.WireBack', WHERE WHAT IT READS IS OF BULK AT MOST 1048576: true; the input reads as it did. -/
def wireBackUptoRow : OpenClaim := { program := "ytfmeedphpcjkmaa", sum := "aaad89761fc80b49351de33b33b30943a011ffe39cb5314c25aee1bb2c8240cd", func := "cartouche/cartouchelaw1.WireBack", spec := "wireBack", apart := false, narrowed := true }
def WireBackUptoSaid : Prop := wireBackUptoRow.holds Try.pinned (OpenSpec.upto wireBackSpec)

/-- 'cartouchelaw1.WireKnown', WHERE WHAT IT READS IS OF BULK AT MOST 1048576: true; the input reads as it did. -/
def wireKnownUptoRow : OpenClaim := { program := "ytfmeedphpcjkmaa", sum := "aaad89761fc80b49351de33b33b30943a011ffe39cb5314c25aee1bb2c8240cd", func := "cartouche/cartouchelaw1.WireKnown", spec := "wireKnown", apart := false, narrowed := true }
def WireKnownUptoSaid : Prop := wireKnownUptoRow.holds Try.pinned (OpenSpec.upto wireKnownSpec)

/-- 'cartouchelaw1.WireEntries', WHERE WHAT IT READS IS OF BULK AT MOST 1048576: true; the input reads as it did. -/
def wireEntriesUptoRow : OpenClaim := { program := "ytfmeedphpcjkmaa", sum := "aaad89761fc80b49351de33b33b30943a011ffe39cb5314c25aee1bb2c8240cd", func := "cartouche/cartouchelaw1.WireEntries", spec := "wireEntries", apart := false, narrowed := true }
def WireEntriesUptoSaid : Prop := wireEntriesUptoRow.holds Try.pinned (OpenSpec.upto wireEntriesSpec)

/-- 'cartouchelaw1.WireJoins', WHERE WHAT IT READS IS OF BULK AT MOST 1048576: true; the input reads as it did. -/
def wireJoinsUptoRow : OpenClaim := { program := "ytfmeedphpcjkmaa", sum := "aaad89761fc80b49351de33b33b30943a011ffe39cb5314c25aee1bb2c8240cd", func := "cartouche/cartouchelaw1.WireJoins", spec := "wireJoins", apart := false, narrowed := true }
def WireJoinsUptoSaid : Prop := wireJoinsUptoRow.holds Try.pinned (OpenSpec.upto wireJoinsSpec)

end Rows
end Go.Proofs.Ytfmeedphpcjkmaa
