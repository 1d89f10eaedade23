/- Functions printed anew. -/
import Derived.Test.YtmdkcapbahjipaaDoorTAirE
set_option maxRecDepth 100000
namespace Go.Proofs.YtmdkcapbahjipaaDoor.Ag
def A_cartouchelaw18_EvolveChains_c : AFn := ⟨(.seq (.region [⟨some 3, none, .boxI (.t 0)⟩, ⟨some 4, none, .boxI (.t 1)⟩, ⟨some 5, none, .boxI (.t 2)⟩, ⟨some 6, none, .mov (.c (.bool false))⟩])
 (.seq (.seq (.region [⟨some 21, none, .call i_cartouchelaw18_awake []⟩, ⟨some 22, none, .un .not (.t 21)⟩])
 (.cond (.t 22) (.seq (.region [⟨some 6, none, .mov (.c (.bool false))⟩])
    .ret)
    .skip))
 (.seq (.region [⟨some 24, none, .load 1 true (.t 3)⟩, ⟨some 25, none, .load 1 true (.t 4)⟩, ⟨some 26, none, .call i_evolve_Diff [.t 24, .t 25]⟩, ⟨some 23, none, .mov (.t 26)⟩, ⟨some 27, none, .ext 0 (.t 23)⟩, ⟨some 28, none, .ext 1 (.t 23)⟩, ⟨some 29, none, .ext 2 (.t 23)⟩, ⟨some 7, none, .mov (.t 27)⟩, ⟨some 8, none, .mov (.t 28)⟩, ⟨some 9, none, .mov (.t 29)⟩])
 (.seq (.region [⟨some 31, none, .load 1 true (.t 4)⟩, ⟨some 32, none, .load 1 true (.t 5)⟩, ⟨some 33, none, .call i_evolve_Diff [.t 31, .t 32]⟩, ⟨some 30, none, .mov (.t 33)⟩, ⟨some 34, none, .ext 0 (.t 30)⟩, ⟨some 35, none, .ext 1 (.t 30)⟩, ⟨some 36, none, .ext 2 (.t 30)⟩, ⟨some 10, none, .mov (.t 34)⟩, ⟨some 11, none, .mov (.t 35)⟩, ⟨some 12, none, .mov (.t 36)⟩])
 (.seq (.seq (.region [⟨some 37, none, .mov (.t 9)⟩, ⟨some 38, none, .bin false .neq (.t 37) (.c (.int .i64 0))⟩, ⟨some 39, none, .mov (.t 38)⟩, ⟨some 40, some (39, false), .mov (.t 12)⟩, ⟨some 41, some (39, false), .bin false .neq (.t 40) (.c (.int .i64 0))⟩, ⟨some 42, none, .pickb (.t 39) (.c (.bool true)) (.t 41)⟩])
 (.cond (.t 42) (.seq (.region [⟨some 43, none, .mov (.t 9)⟩, ⟨some 44, none, .bin false .eql (.t 43) (.c (.int .i64 0))⟩, ⟨some 45, none, .mov (.t 44)⟩, ⟨some 46, some (45, false), .mov (.t 8)⟩, ⟨some 47, some (45, false), .bin false .eql (.t 46) (.c (.int .i64 0))⟩, ⟨some 48, none, .pickb (.t 45) (.c (.bool true)) (.t 47)⟩, ⟨some 6, none, .mov (.t 48)⟩])
    .ret)
    .skip))
 (.seq (.region [⟨some 50, none, .load 1 true (.t 3)⟩, ⟨some 51, none, .load 1 true (.t 3)⟩, ⟨some 52, none, .call i_evolve_Diff [.t 50, .t 51]⟩, ⟨some 49, none, .mov (.t 52)⟩, ⟨some 53, none, .ext 0 (.t 49)⟩, ⟨some 54, none, .ext 1 (.t 49)⟩, ⟨some 55, none, .ext 2 (.t 49)⟩, ⟨some 13, none, .mov (.t 53)⟩, ⟨some 14, none, .mov (.t 54)⟩, ⟨some 9, none, .mov (.t 55)⟩])
 (.seq (.seq (.region [⟨some 56, none, .mov (.t 9)⟩, ⟨some 57, none, .bin false .neq (.t 56) (.c (.int .i64 0))⟩, ⟨some 58, none, .mov (.t 57)⟩, ⟨some 59, some (58, false), .mov (.t 14)⟩, ⟨some 60, some (58, false), .bin false .neq (.t 59) (.c (.int .i64 1))⟩, ⟨some 61, none, .pickb (.t 58) (.c (.bool true)) (.t 60)⟩, ⟨some 62, none, .mov (.t 61)⟩, ⟨some 63, some (62, false), .mov (.t 13)⟩, ⟨some 64, some (62, false), .len false (.t 63)⟩, ⟨some 65, some (62, false), .bin false .neq (.t 64) (.c (.int .i64 0))⟩, ⟨some 66, none, .pickb (.t 62) (.c (.bool true)) (.t 65)⟩])
 (.cond (.t 66) (.seq (.region [⟨some 6, none, .mov (.c (.bool false))⟩])
    .ret)
    .skip))
 (.seq (.region [⟨some 15, none, .mov (.c (.int .i64 1))⟩])
 (.seq (.seq (.region [⟨some 16, none, .mov (.c (.int .i64 0))⟩])
 (.block 0 (.loop (.seq (.seq (.region [⟨some 67, none, .mov (.t 16)⟩, ⟨some 68, none, .mov (.t 7)⟩, ⟨some 69, none, .len false (.t 68)⟩, ⟨some 70, none, .bin false .lss (.t 67) (.t 69)⟩])
 (.cond (.t 70) .skip
 (.exit 0)))
 (.seq (.block 1 (.region [⟨some 73, none, .mov (.t 15)⟩, ⟨some 74, none, .mov (.t 7)⟩, ⟨some 75, none, .mov (.t 16)⟩, ⟨some 76, none, .idxA 4 (.t 74) (.t 75)⟩, ⟨some 77, none, .fldA 0 1 false (.t 76)⟩, ⟨some 78, none, .load 1 false (.t 77)⟩, ⟨some 79, none, .mm true (.t 73) (.t 78)⟩, ⟨some 15, none, .mov (.t 79)⟩]))
 (.region [⟨some 71, none, .mov (.t 16)⟩, ⟨some 72, none, .bin false .add (.t 71) (.c (.int .i64 1))⟩, ⟨some 16, none, .mov (.t 72)⟩]))))))
 (.seq (.seq (.region [⟨some 80, none, .mov (.t 15)⟩, ⟨some 81, none, .mov (.t 8)⟩, ⟨some 82, none, .bin false .neq (.t 80) (.t 81)⟩])
 (.cond (.t 82) (.seq (.region [⟨some 6, none, .mov (.c (.bool false))⟩])
    .ret)
    .skip))
 (.seq (.region [⟨some 84, none, .load 1 true (.t 4)⟩, ⟨some 85, none, .load 1 true (.t 3)⟩, ⟨some 86, none, .call i_evolve_Diff [.t 84, .t 85]⟩, ⟨some 83, none, .mov (.t 86)⟩, ⟨some 87, none, .ext 0 (.t 83)⟩, ⟨some 88, none, .ext 1 (.t 83)⟩, ⟨some 89, none, .ext 2 (.t 83)⟩, ⟨some 17, none, .mov (.t 87)⟩, ⟨some 18, none, .mov (.t 88)⟩, ⟨some 9, none, .mov (.t 89)⟩])
 (.seq (.seq (.region [⟨some 90, none, .mov (.t 9)⟩, ⟨some 91, none, .bin false .neq (.t 90) (.c (.int .i64 0))⟩, ⟨some 92, none, .mov (.t 91)⟩, ⟨some 93, some (92, false), .mov (.t 8)⟩, ⟨some 94, some (92, false), .bin false .eql (.t 93) (.c (.int .i64 2))⟩, ⟨some 95, some (92, false), .mov (.t 94)⟩, ⟨some 96, some (95, true), .mov (.t 18)⟩, ⟨some 97, some (95, true), .bin false .neq (.t 96) (.c (.int .i64 4))⟩, ⟨some 98, some (92, false), .pickb (.t 95) (.t 97) (.c (.bool false))⟩, ⟨some 99, none, .pickb (.t 92) (.c (.bool true)) (.t 98)⟩, ⟨some 100, none, .mov (.t 99)⟩, ⟨some 101, some (100, false), .mov (.t 8)⟩, ⟨some 102, some (100, false), .bin false .eql (.t 101) (.c (.int .i64 1))⟩, ⟨some 103, some (100, false), .mov (.t 102)⟩, ⟨some 104, some (103, true), .mov (.t 18)⟩, ⟨some 105, some (103, true), .bin false .neq (.t 104) (.c (.int .i64 1))⟩, ⟨some 106, some (100, false), .pickb (.t 103) (.t 105) (.c (.bool false))⟩, ⟨some 107, none, .pickb (.t 100) (.c (.bool true)) (.t 106)⟩])
 (.cond (.t 107) (.seq (.region [⟨some 6, none, .mov (.c (.bool false))⟩])
    .ret)
    .skip))
 (.seq (.region [⟨some 109, none, .load 1 true (.t 3)⟩, ⟨some 110, none, .load 1 true (.t 5)⟩, ⟨some 111, none, .call i_evolve_Diff [.t 109, .t 110]⟩, ⟨some 108, none, .mov (.t 111)⟩, ⟨some 112, none, .ext 0 (.t 108)⟩, ⟨some 113, none, .ext 1 (.t 108)⟩, ⟨some 114, none, .ext 2 (.t 108)⟩, ⟨some 19, none, .mov (.t 112)⟩, ⟨some 20, none, .mov (.t 113)⟩, ⟨some 9, none, .mov (.t 114)⟩])
 (.seq (.region [⟨some 115, none, .mov (.t 9)⟩, ⟨some 116, none, .bin false .eql (.t 115) (.c (.int .i64 0))⟩, ⟨some 117, none, .mov (.t 116)⟩, ⟨some 118, some (117, true), .mov (.t 8)⟩, ⟨some 119, some (117, true), .bin false .gtr (.t 118) (.c (.int .i64 2))⟩, ⟨some 120, some (117, true), .mov (.t 119)⟩, ⟨some 121, some (120, false), .mov (.t 11)⟩, ⟨some 122, some (120, false), .bin false .gtr (.t 121) (.c (.int .i64 2))⟩, ⟨some 123, some (117, true), .pickb (.t 120) (.c (.bool true)) (.t 122)⟩, ⟨some 124, some (117, true), .mov (.t 123)⟩, ⟨some 125, some (124, false), .mov (.t 20)⟩, ⟨some 126, some (124, false), .bin false .leq (.t 125) (.c (.int .i64 2))⟩, ⟨some 127, some (117, true), .pickb (.t 124) (.c (.bool true)) (.t 126)⟩, ⟨some 128, none, .pickb (.t 117) (.t 127) (.c (.bool false))⟩, ⟨some 6, none, .mov (.t 128)⟩])
    .ret)))))))))))))), [.tmp 6]⟩
theorem T_cartouchelaw18_EvolveChains_c : trFn Tryd.prog [] Tryd.f8 = some A_cartouchelaw18_EvolveChains_c := by kernel_rfl
theorem L_cartouchelaw18_EvolveChains_c : 3 ≤ Tryd.f8.ntmps := by decide
theorem F_cartouchelaw18_EvolveChains_c : Tryd.prog.funcs[(8 : FuncId)]? = some Tryd.f8 := Tryd.func8
end Go.Proofs.YtmdkcapbahjipaaDoor.Ag
