/- The closed facts of the row of DeltaKnown, each by itself. -/
import Derived.Test.YtdlgenppdgkacaaGreatDoorCards
import Derived.Test.YtdlgenppdgkacaaGreatDoorTie
import Derived.WalkKit
import Derived.ProofKit
import Derived.OpenShut
import Derived.Below
import Derived.Lay
import Derived.Deep.DeepHandedRow
import Derived.SevenTiedAt
set_option linter.unusedVariables false
namespace Go.Proofs.YtdlgenppdgkacaaGreatDoor.deltaKnown
open Go.ChangeShapes Go.WideShapes Go.ChangeAt Go.RowKit
theorem and2 {a b : Bool} (h : a = true) (k : b = true) : (a && b) = true := by rw [h, k]; rfl
set_option maxRecDepth 100000 in
theorem jf0 : (Rows.deltaKnownRow.wf (OpenSpec.ofChange Rows.deltaKnownSpec)) = true := by kernel_rfl
set_option maxRecDepth 100000 in
theorem jf1 : (laidOutB Tryz.prog) = true := by kernel_rfl
set_option maxRecDepth 100000 in
theorem jf2 : (mapsRowed Tryz.prog) = true := by kernel_rfl
set_option maxRecDepth 100000 in
theorem jf3 : (Tryz.f7.params.all (Tryz.prog.readableRec ·)) = true := by kernel_rfl
set_option maxRecDepth 100000 in
theorem jf4 : (namedTie Tryz.prog Rows.deltaKnownRow.named Rows.deltaKnownSpec.vars) = true := by kernel_rfl
set_option maxRecDepth 100000 in
theorem jf5 : ((Rows.deltaKnownRow.stops == [])) = true := by kernel_rfl
set_option maxRecDepth 100000 in
theorem jf6 : ((Tryz.prog.stops == [])) = true := by kernel_rfl
set_option maxRecDepth 100000 in
theorem jf7 : ((Rows.deltaKnownRow.knobs == [])) = true := by kernel_rfl
set_option maxRecDepth 100000 in
theorem jf8 : ((Tryz.prog.stopKnobs == [])) = true := by kernel_rfl
set_option maxRecDepth 100000 in
theorem jf9 : ((Rows.deltaKnownRow.inPlace == Tryz.prog.inPlace (7 : FuncId))) = true := by kernel_rfl
set_option maxRecDepth 100000 in
theorem jf10 : ((Rows.deltaKnownRow.unfollowed == Tryz.prog.unfollowed (7 : FuncId))) = true := by kernel_rfl
set_option maxRecDepth 100000 in
theorem jf11 : ((Rows.deltaKnownRow.recurses == Tryz.prog.recurses (7 : FuncId))) = true := by kernel_rfl
set_option maxRecDepth 100000 in
theorem jf12 : ((Rows.deltaKnownRow.named == Tryz.prog.varsNamed (7 : FuncId))) = true := by kernel_rfl
set_option maxRecDepth 100000 in
theorem jf13 : ((Rows.deltaKnownRow.maps == (Tryz.f7.params.toList ++ Rows.deltaKnownSpec.plain.varTypes Tryz.prog).any (Tryz.prog.mapsRec ·))) = true := by kernel_rfl
set_option maxRecDepth 100000 in
theorem jf14 : ((Rows.deltaKnownRow.ifaces == (Tryz.f7.params.toList ++ Rows.deltaKnownSpec.plain.varTypes Tryz.prog).any (Tryz.prog.ifacesRec ·))) = true := by kernel_rfl
set_option maxRecDepth 100000 in
theorem jf15 : ((Rows.deltaKnownRow.mapsOut == Tryz.prog.mapsAmong Tryz.f7.resultTypes.toList)) = true := by kernel_rfl
set_option maxRecDepth 100000 in
theorem jf16 : ((Rows.deltaKnownRow.loops == (Tryz.f7.params.toList ++ Rows.deltaKnownSpec.plain.varTypes Tryz.prog).any (Tryz.prog.loopsFrom ·))) = true := by kernel_rfl
set_option maxRecDepth 100000 in
theorem jf17 : ((Rows.deltaKnownRow.wideKeys == (Tryz.f7.params.toList ++ Rows.deltaKnownSpec.plain.varTypes Tryz.prog ++ Tryz.f7.resultTypes.toList).any (Tryz.prog.wideKeysFrom ·))) = true := by kernel_rfl
set_option maxRecDepth 100000 in
theorem jf18 : (Rows.deltaKnownSpec.vars.all (Tryz.prog.varReadable ·)) = true := by kernel_rfl
set_option maxRecDepth 100000 in
theorem jf19 : (Tryz.f7.resultTypes.all (fun t => Tryz.prog.readableRec t && decide (t < Tryz.prog.types.size))) = true := by kernel_rfl
set_option maxRecDepth 100000 in
theorem jf20 : ((Rows.deltaKnownRow.ifacesOut == Tryz.f7.resultTypes.toList.any (Tryz.prog.ifacesRec ·))) = true := by kernel_rfl
set_option maxRecDepth 100000 in
theorem jf21 : ((Rows.deltaKnownRow.loopsOut == Tryz.f7.resultTypes.toList.any (Tryz.prog.loopsFrom ·))) = true := by kernel_rfl
set_option maxRecDepth 100000 in
theorem jf22 : ((Rows.deltaKnownRow.plainKeys == Tryz.prog.plainKeys)) = true := by kernel_rfl
set_option maxRecDepth 100000 in
theorem jf23 : (Rows.deltaKnownRow.shortTexts.isNone) = true := by kernel_rfl
set_option maxRecDepth 100000 in
theorem jf24 : (Tryz.prog.stopsHeard) = true := by kernel_rfl
set_option maxRecDepth 100000 in
theorem jf25 : (Tryz.prog.mayEnter) = true := by kernel_rfl
set_option maxRecDepth 100000 in
theorem jf26 : ((Rows.deltaKnownRow.lifted == Tryz.prog.liftsFinal)) = true := by kernel_rfl
set_option maxRecDepth 100000 in
theorem jf27 : ((Tryz.prog.make == some Rows.deltaKnownRow.make)) = true := by kernel_rfl
set_option maxRecDepth 100000 in
theorem jf28 : ((Rows.deltaKnownRow.kinds == (if Rows.deltaKnownRow.domain.isEmpty then [] else Tryz.f7.params.toList.map fun t => match Tryz.prog.underlying t with | some (.int k) => some k | _ => none))) = true := by kernel_rfl
set_option maxRecDepth 100000 in
theorem jf29 : ((Rows.deltaKnownRow.pinned == Rows.deltaKnownRow.pinnedBy)) = true := by kernel_rfl
set_option maxRecDepth 100000 in
theorem jf30 : ((Rows.deltaKnownRow.veiled == (Tryz.f7.params.toList ++ Rows.deltaKnownSpec.plain.varTypes Tryz.prog ++ Tryz.f7.resultTypes.toList).any (Tryz.prog.veiledRec ·))) = true := by kernel_rfl
set_option maxRecDepth 100000 in
theorem jf31 : (Rows.deltaKnownRow.veiledFits Tryz.prog Tryz.f7.params.toList (Tryz.f7.params.toList ++ Rows.deltaKnownSpec.plain.varTypes Tryz.prog ++ Tryz.f7.resultTypes.toList)) = true := by kernel_rfl
set_option maxRecDepth 100000 in
theorem joined : joinedFacts Tryz.prog 7 Tryz.f7 Rows.deltaKnownSpec Rows.deltaKnownRow = true := (and2 (and2 (and2 (and2 (and2 (and2 (and2 (and2 (and2 (and2 (and2 (and2 (and2 (and2 (and2 (and2 (and2 (and2 (and2 (and2 (and2 (and2 (and2 (and2 (and2 (and2 (and2 (and2 (and2 (and2 (and2 jf0 jf1) jf2) jf3) jf4) jf5) jf6) jf7) jf8) jf9) jf10) jf11) jf12) jf13) jf14) jf15) jf16) jf17) jf18) jf19) jf20) jf21) jf22) jf23) jf24) jf25) jf26) jf27) jf28) jf29) jf30) jf31)
set_option maxRecDepth 100000 in
theorem named : Tryz.prog.funcNamed "cartouche/cartouchelaw21.DeltaKnown" = some 7 := by kernel_rfl
set_option maxRecDepth 100000 in
theorem looksIs : true = Tryz.pinned.checked.prog.looks [] := by kernel_rfl
theorem inst : Tryz.f7.isInstance Tryz.prog Rows.deltaKnownRow.origin Rows.deltaKnownRow.targs := of_decide_eq_true (by kernel_rfl)
theorem wrap : Tryz.f7.isWrapper Tryz.prog Rows.deltaKnownRow.wrapper Rows.deltaKnownRow.mainSum := by unfold Func.isWrapper; first | (rw [if_pos (by decide +kernel)]; kernel_rfl) | (rw [if_neg (by decide +kernel)]; exact ⟨rfl, rfl⟩)
end Go.Proofs.YtdlgenppdgkacaaGreatDoor.deltaKnown
