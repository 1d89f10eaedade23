/- Functions printed anew. -/
import Derived.Test.YtmdkcapbahjipaaDoorTAirE
set_option maxRecDepth 100000
namespace Go.Proofs.YtmdkcapbahjipaaDoor.Ag
def A_evolve_byName_b : AFn := ⟨(.seq (.region [⟨some 1, none, .boxI (.t 0)⟩, ⟨some 2, none, .mov (.c (.nilmap))⟩])
 (.seq (.region [⟨some 6, none, .mkmap 92 .str⟩, ⟨some 3, none, .mov (.t 6)⟩])
 (.seq (.seq (.region [⟨some 7, none, .fldA 0 1 false (.t 1)⟩, ⟨some 8, none, .load 1 false (.t 7)⟩, ⟨some 9, none, .len false (.t 8)⟩, ⟨some 10, none, .mov (.c (.int .i64 0))⟩])
 (.block 0 (.loop (.seq (.region [⟨some 11, none, .bin false .lss (.t 10) (.t 9)⟩])
 (.seq (.cond (.t 11) .skip
 (.exit 0))
 (.seq (.block 1 (.seq (.region [⟨some 12, none, .mov (.t 10)⟩, ⟨some 13, none, .idxA 6 (.t 8) (.t 10)⟩, ⟨some 14, none, .load 6 true (.t 13)⟩, ⟨some 5, none, .alloc 93 [.str ⟨#[]⟩, .bool false, .nil, .nil, .nil, .nil]⟩, ⟨some 4, none, .mov (.t 12)⟩, ⟨none, none, .store 6 (.t 5) (.t 14)⟩])
 (.region [⟨some 15, none, .mov (.t 3)⟩, ⟨some 16, none, .fldA 0 1 false (.t 5)⟩, ⟨some 17, none, .load 1 false (.t 16)⟩, ⟨some 18, none, .mov (.t 4)⟩, ⟨none, none, .mapset .str (.t 15) (.t 17) (.t 18)⟩])))
 (.region [⟨some 19, none, .bin false .add (.t 10) (.c (.int .i64 1))⟩, ⟨some 10, none, .mov (.t 19)⟩])))))))
 (.seq (.region [⟨some 20, none, .mov (.t 3)⟩, ⟨some 2, none, .mov (.t 20)⟩])
    .ret)))), [.tmp 2]⟩
theorem T_evolve_byName_b : trFn Tryd.prog [(1, [92, 0]), (4, [0, 0, 0, 94, 0, 0])] Tryd.f53 = some A_evolve_byName_b := by kernel_rfl
theorem L_evolve_byName_b : 1 ≤ Tryd.f53.ntmps := by decide
theorem F_evolve_byName_b : Tryd.prog.funcs[i_evolve_byName]? = some Tryd.f53 := F_evolve_byName
end Go.Proofs.YtmdkcapbahjipaaDoor.Ag
