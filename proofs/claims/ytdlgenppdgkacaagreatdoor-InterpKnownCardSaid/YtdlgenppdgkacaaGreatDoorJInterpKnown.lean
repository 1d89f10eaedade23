/- The closed facts of the row of InterpKnown, each by itself. -/
import Derived.Test.YtdlgenppdgkacaaGreatDoorCards
import Derived.Test.YtdlgenppdgkacaaGreatDoorTie
import Derived.WalkKit
import Derived.ProofKit
import Derived.OpenShut
import Derived.Below
import Derived.Lay
import Derived.Deep.DeepHandedRow
import Derived.SevenTiedAt
set_option linter.unusedVariables false
namespace Go.Proofs.YtdlgenppdgkacaaGreatDoor.interpKnown
open Go.ChangeShapes Go.WideShapes Go.ChangeAt Go.RowKit
theorem and2 {a b : Bool} (h : a = true) (k : b = true) : (a && b) = true := by rw [h, k]; rfl
set_option maxRecDepth 100000 in
theorem jf0 : (Rows.interpKnownRow.wf (OpenSpec.ofChange Rows.interpKnownSpec)) = true := by kernel_rfl
set_option maxRecDepth 100000 in
theorem jf1 : (laidOutB Tryz.prog) = true := by kernel_rfl
set_option maxRecDepth 100000 in
theorem jf2 : (mapsRowed Tryz.prog) = true := by kernel_rfl
set_option maxRecDepth 100000 in
theorem jf3 : (Tryz.f5.params.all (Tryz.prog.readableRec ·)) = true := by kernel_rfl
set_option maxRecDepth 100000 in
theorem jf4 : (namedTie Tryz.prog Rows.interpKnownRow.named Rows.interpKnownSpec.vars) = true := by kernel_rfl
set_option maxRecDepth 100000 in
theorem jf5 : ((Rows.interpKnownRow.stops == [])) = true := by kernel_rfl
set_option maxRecDepth 100000 in
theorem jf6 : ((Tryz.prog.stops == [])) = true := by kernel_rfl
set_option maxRecDepth 100000 in
theorem jf7 : ((Rows.interpKnownRow.knobs == [])) = true := by kernel_rfl
set_option maxRecDepth 100000 in
theorem jf8 : ((Tryz.prog.stopKnobs == [])) = true := by kernel_rfl
set_option maxRecDepth 100000 in
theorem jf9 : ((Rows.interpKnownRow.inPlace == Tryz.prog.inPlace (5 : FuncId))) = true := by kernel_rfl
set_option maxRecDepth 100000 in
theorem jf10 : ((Rows.interpKnownRow.unfollowed == Tryz.prog.unfollowed (5 : FuncId))) = true := by kernel_rfl
set_option maxRecDepth 100000 in
theorem jf11 : ((Rows.interpKnownRow.recurses == Tryz.prog.recurses (5 : FuncId))) = true := by kernel_rfl
set_option maxRecDepth 100000 in
theorem jf12 : ((Rows.interpKnownRow.named == Tryz.prog.varsNamed (5 : FuncId))) = true := by kernel_rfl
set_option maxRecDepth 100000 in
theorem jf13 : ((Rows.interpKnownRow.maps == (Tryz.f5.params.toList ++ Rows.interpKnownSpec.plain.varTypes Tryz.prog).any (Tryz.prog.mapsRec ·))) = true := by kernel_rfl
set_option maxRecDepth 100000 in
theorem jf14 : ((Rows.interpKnownRow.ifaces == (Tryz.f5.params.toList ++ Rows.interpKnownSpec.plain.varTypes Tryz.prog).any (Tryz.prog.ifacesRec ·))) = true := by kernel_rfl
set_option maxRecDepth 100000 in
theorem jf15 : ((Rows.interpKnownRow.mapsOut == Tryz.prog.mapsAmong Tryz.f5.resultTypes.toList)) = true := by kernel_rfl
set_option maxRecDepth 100000 in
theorem jf16 : ((Rows.interpKnownRow.loops == (Tryz.f5.params.toList ++ Rows.interpKnownSpec.plain.varTypes Tryz.prog).any (Tryz.prog.loopsFrom ·))) = true := by kernel_rfl
set_option maxRecDepth 100000 in
theorem jf17 : ((Rows.interpKnownRow.wideKeys == (Tryz.f5.params.toList ++ Rows.interpKnownSpec.plain.varTypes Tryz.prog ++ Tryz.f5.resultTypes.toList).any (Tryz.prog.wideKeysFrom ·))) = true := by kernel_rfl
set_option maxRecDepth 100000 in
theorem jf18 : (Rows.interpKnownSpec.vars.all (Tryz.prog.varReadable ·)) = true := by kernel_rfl
set_option maxRecDepth 100000 in
theorem jf19 : (Tryz.f5.resultTypes.all (fun t => Tryz.prog.readableRec t && decide (t < Tryz.prog.types.size))) = true := by kernel_rfl
set_option maxRecDepth 100000 in
theorem jf20 : ((Rows.interpKnownRow.ifacesOut == Tryz.f5.resultTypes.toList.any (Tryz.prog.ifacesRec ·))) = true := by kernel_rfl
set_option maxRecDepth 100000 in
theorem jf21 : ((Rows.interpKnownRow.loopsOut == Tryz.f5.resultTypes.toList.any (Tryz.prog.loopsFrom ·))) = true := by kernel_rfl
set_option maxRecDepth 100000 in
theorem jf22 : ((Rows.interpKnownRow.plainKeys == Tryz.prog.plainKeys)) = true := by kernel_rfl
set_option maxRecDepth 100000 in
theorem jf23 : (Rows.interpKnownRow.shortTexts.isNone) = true := by kernel_rfl
set_option maxRecDepth 100000 in
theorem jf24 : (Tryz.prog.stopsHeard) = true := by kernel_rfl
set_option maxRecDepth 100000 in
theorem jf25 : (Tryz.prog.mayEnter) = true := by kernel_rfl
set_option maxRecDepth 100000 in
theorem jf26 : ((Rows.interpKnownRow.lifted == Tryz.prog.liftsFinal)) = true := by kernel_rfl
set_option maxRecDepth 100000 in
theorem jf27 : ((Tryz.prog.make == some Rows.interpKnownRow.make)) = true := by kernel_rfl
set_option maxRecDepth 100000 in
theorem jf28 : ((Rows.interpKnownRow.kinds == (if Rows.interpKnownRow.domain.isEmpty then [] else Tryz.f5.params.toList.map fun t => match Tryz.prog.underlying t with | some (.int k) => some k | _ => none))) = true := by kernel_rfl
set_option maxRecDepth 100000 in
theorem jf29 : ((Rows.interpKnownRow.pinned == Rows.interpKnownRow.pinnedBy)) = true := by kernel_rfl
set_option maxRecDepth 100000 in
theorem jf30 : ((Rows.interpKnownRow.veiled == (Tryz.f5.params.toList ++ Rows.interpKnownSpec.plain.varTypes Tryz.prog ++ Tryz.f5.resultTypes.toList).any (Tryz.prog.veiledRec ·))) = true := by kernel_rfl
set_option maxRecDepth 100000 in
theorem jf31 : (Rows.interpKnownRow.veiledFits Tryz.prog Tryz.f5.params.toList (Tryz.f5.params.toList ++ Rows.interpKnownSpec.plain.varTypes Tryz.prog ++ Tryz.f5.resultTypes.toList)) = true := by kernel_rfl
set_option maxRecDepth 100000 in
theorem joined : joinedFacts Tryz.prog 5 Tryz.f5 Rows.interpKnownSpec Rows.interpKnownRow = true := (and2 (and2 (and2 (and2 (and2 (and2 (and2 (and2 (and2 (and2 (and2 (and2 (and2 (and2 (and2 (and2 (and2 (and2 (and2 (and2 (and2 (and2 (and2 (and2 (and2 (and2 (and2 (and2 (and2 (and2 (and2 jf0 jf1) jf2) jf3) jf4) jf5) jf6) jf7) jf8) jf9) jf10) jf11) jf12) jf13) jf14) jf15) jf16) jf17) jf18) jf19) jf20) jf21) jf22) jf23) jf24) jf25) jf26) jf27) jf28) jf29) jf30) jf31)
set_option maxRecDepth 100000 in
theorem named : Tryz.prog.funcNamed "cartouche/cartouchelaw9.InterpKnown" = some 5 := by kernel_rfl
set_option maxRecDepth 100000 in
theorem looksIs : true = Tryz.pinned.checked.prog.looks [] := by kernel_rfl
theorem inst : Tryz.f5.isInstance Tryz.prog Rows.interpKnownRow.origin Rows.interpKnownRow.targs := of_decide_eq_true (by kernel_rfl)
theorem wrap : Tryz.f5.isWrapper Tryz.prog Rows.interpKnownRow.wrapper Rows.interpKnownRow.mainSum := by unfold Func.isWrapper; first | (rw [if_pos (by decide +kernel)]; kernel_rfl) | (rw [if_neg (by decide +kernel)]; exact ⟨rfl, rfl⟩)
end Go.Proofs.YtdlgenppdgkacaaGreatDoor.interpKnown
