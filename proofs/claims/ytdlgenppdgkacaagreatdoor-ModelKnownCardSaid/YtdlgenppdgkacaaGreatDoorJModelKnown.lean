/- The closed facts of the row of ModelKnown, each by itself. -/
import Derived.Test.YtdlgenppdgkacaaGreatDoorCards
import Derived.Test.YtdlgenppdgkacaaGreatDoorTie
import Derived.WalkKit
import Derived.ProofKit
import Derived.OpenShut
import Derived.Below
import Derived.Lay
import Derived.Deep.DeepHandedRow
import Derived.SevenTiedAt
set_option linter.unusedVariables false
namespace Go.Proofs.YtdlgenppdgkacaaGreatDoor.modelKnown
open Go.ChangeShapes Go.WideShapes Go.ChangeAt Go.RowKit
theorem and2 {a b : Bool} (h : a = true) (k : b = true) : (a && b) = true := by rw [h, k]; rfl
set_option maxRecDepth 100000 in
theorem jf0 : (Rows.modelKnownRow.wf (OpenSpec.ofChange Rows.modelKnownSpec)) = true := by kernel_rfl
set_option maxRecDepth 100000 in
theorem jf1 : (laidOutB Tryz.prog) = true := by kernel_rfl
set_option maxRecDepth 100000 in
theorem jf2 : (mapsRowed Tryz.prog) = true := by kernel_rfl
set_option maxRecDepth 100000 in
theorem jf3 : (Tryz.f3.params.all (Tryz.prog.readableRec ·)) = true := by kernel_rfl
set_option maxRecDepth 100000 in
theorem jf4 : (namedTie Tryz.prog Rows.modelKnownRow.named Rows.modelKnownSpec.vars) = true := by kernel_rfl
set_option maxRecDepth 100000 in
theorem jf5 : ((Rows.modelKnownRow.stops == [])) = true := by kernel_rfl
set_option maxRecDepth 100000 in
theorem jf6 : ((Tryz.prog.stops == [])) = true := by kernel_rfl
set_option maxRecDepth 100000 in
theorem jf7 : ((Rows.modelKnownRow.knobs == [])) = true := by kernel_rfl
set_option maxRecDepth 100000 in
theorem jf8 : ((Tryz.prog.stopKnobs == [])) = true := by kernel_rfl
set_option maxRecDepth 100000 in
theorem jf9 : ((Rows.modelKnownRow.inPlace == Tryz.prog.inPlace (3 : FuncId))) = true := by kernel_rfl
set_option maxRecDepth 100000 in
theorem jf10 : ((Rows.modelKnownRow.unfollowed == Tryz.prog.unfollowed (3 : FuncId))) = true := by kernel_rfl
set_option maxRecDepth 100000 in
theorem jf11 : ((Rows.modelKnownRow.recurses == Tryz.prog.recurses (3 : FuncId))) = true := by kernel_rfl
set_option maxRecDepth 100000 in
theorem jf12 : ((Rows.modelKnownRow.named == Tryz.prog.varsNamed (3 : FuncId))) = true := by kernel_rfl
set_option maxRecDepth 100000 in
theorem jf13 : ((Rows.modelKnownRow.maps == (Tryz.f3.params.toList ++ Rows.modelKnownSpec.plain.varTypes Tryz.prog).any (Tryz.prog.mapsRec ·))) = true := by kernel_rfl
set_option maxRecDepth 100000 in
theorem jf14 : ((Rows.modelKnownRow.ifaces == (Tryz.f3.params.toList ++ Rows.modelKnownSpec.plain.varTypes Tryz.prog).any (Tryz.prog.ifacesRec ·))) = true := by kernel_rfl
set_option maxRecDepth 100000 in
theorem jf15 : ((Rows.modelKnownRow.mapsOut == Tryz.prog.mapsAmong Tryz.f3.resultTypes.toList)) = true := by kernel_rfl
set_option maxRecDepth 100000 in
theorem jf16 : ((Rows.modelKnownRow.loops == (Tryz.f3.params.toList ++ Rows.modelKnownSpec.plain.varTypes Tryz.prog).any (Tryz.prog.loopsFrom ·))) = true := by kernel_rfl
set_option maxRecDepth 100000 in
theorem jf17 : ((Rows.modelKnownRow.wideKeys == (Tryz.f3.params.toList ++ Rows.modelKnownSpec.plain.varTypes Tryz.prog ++ Tryz.f3.resultTypes.toList).any (Tryz.prog.wideKeysFrom ·))) = true := by kernel_rfl
set_option maxRecDepth 100000 in
theorem jf18 : (Rows.modelKnownSpec.vars.all (Tryz.prog.varReadable ·)) = true := by kernel_rfl
set_option maxRecDepth 100000 in
theorem jf19 : (Tryz.f3.resultTypes.all (fun t => Tryz.prog.readableRec t && decide (t < Tryz.prog.types.size))) = true := by kernel_rfl
set_option maxRecDepth 100000 in
theorem jf20 : ((Rows.modelKnownRow.ifacesOut == Tryz.f3.resultTypes.toList.any (Tryz.prog.ifacesRec ·))) = true := by kernel_rfl
set_option maxRecDepth 100000 in
theorem jf21 : ((Rows.modelKnownRow.loopsOut == Tryz.f3.resultTypes.toList.any (Tryz.prog.loopsFrom ·))) = true := by kernel_rfl
set_option maxRecDepth 100000 in
theorem jf22 : ((Rows.modelKnownRow.plainKeys == Tryz.prog.plainKeys)) = true := by kernel_rfl
set_option maxRecDepth 100000 in
theorem jf23 : (Rows.modelKnownRow.shortTexts.isNone) = true := by kernel_rfl
set_option maxRecDepth 100000 in
theorem jf24 : (Tryz.prog.stopsHeard) = true := by kernel_rfl
set_option maxRecDepth 100000 in
theorem jf25 : (Tryz.prog.mayEnter) = true := by kernel_rfl
set_option maxRecDepth 100000 in
theorem jf26 : ((Rows.modelKnownRow.lifted == Tryz.prog.liftsFinal)) = true := by kernel_rfl
set_option maxRecDepth 100000 in
theorem jf27 : ((Tryz.prog.make == some Rows.modelKnownRow.make)) = true := by kernel_rfl
set_option maxRecDepth 100000 in
theorem jf28 : ((Rows.modelKnownRow.kinds == (if Rows.modelKnownRow.domain.isEmpty then [] else Tryz.f3.params.toList.map fun t => match Tryz.prog.underlying t with | some (.int k) => some k | _ => none))) = true := by kernel_rfl
set_option maxRecDepth 100000 in
theorem jf29 : ((Rows.modelKnownRow.pinned == Rows.modelKnownRow.pinnedBy)) = true := by kernel_rfl
set_option maxRecDepth 100000 in
theorem jf30 : ((Rows.modelKnownRow.veiled == (Tryz.f3.params.toList ++ Rows.modelKnownSpec.plain.varTypes Tryz.prog ++ Tryz.f3.resultTypes.toList).any (Tryz.prog.veiledRec ·))) = true := by kernel_rfl
set_option maxRecDepth 100000 in
theorem jf31 : (Rows.modelKnownRow.veiledFits Tryz.prog Tryz.f3.params.toList (Tryz.f3.params.toList ++ Rows.modelKnownSpec.plain.varTypes Tryz.prog ++ Tryz.f3.resultTypes.toList)) = true := by kernel_rfl
set_option maxRecDepth 100000 in
theorem joined : joinedFacts Tryz.prog 3 Tryz.f3 Rows.modelKnownSpec Rows.modelKnownRow = true := (and2 (and2 (and2 (and2 (and2 (and2 (and2 (and2 (and2 (and2 (and2 (and2 (and2 (and2 (and2 (and2 (and2 (and2 (and2 (and2 (and2 (and2 (and2 (and2 (and2 (and2 (and2 (and2 (and2 (and2 (and2 jf0 jf1) jf2) jf3) jf4) jf5) jf6) jf7) jf8) jf9) jf10) jf11) jf12) jf13) jf14) jf15) jf16) jf17) jf18) jf19) jf20) jf21) jf22) jf23) jf24) jf25) jf26) jf27) jf28) jf29) jf30) jf31)
set_option maxRecDepth 100000 in
theorem named : Tryz.prog.funcNamed "cartouche/cartouchelaw8.ModelKnown" = some 3 := by kernel_rfl
set_option maxRecDepth 100000 in
theorem looksIs : true = Tryz.pinned.checked.prog.looks [] := by kernel_rfl
theorem inst : Tryz.f3.isInstance Tryz.prog Rows.modelKnownRow.origin Rows.modelKnownRow.targs := of_decide_eq_true (by kernel_rfl)
theorem wrap : Tryz.f3.isWrapper Tryz.prog Rows.modelKnownRow.wrapper Rows.modelKnownRow.mainSum := by unfold Func.isWrapper; first | (rw [if_pos (by decide +kernel)]; kernel_rfl) | (rw [if_neg (by decide +kernel)]; exact ⟨rfl, rfl⟩)
end Go.Proofs.YtdlgenppdgkacaaGreatDoor.modelKnown
