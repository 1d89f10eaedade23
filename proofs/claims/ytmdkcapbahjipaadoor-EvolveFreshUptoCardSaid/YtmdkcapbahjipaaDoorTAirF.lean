/- The functions of the fresh numbers as the walk has them. -/
import Derived.Test.YtmdkcapbahjipaaDoorTAirA
namespace Go.Proofs.YtmdkcapbahjipaaDoor.Ag
abbrev i_cartouchelaw18_awake : FuncId := 29
set_option maxRecDepth 100000
abbrev i_cartouchelaw18_EvolveFresh : FuncId := 9
theorem F_cartouchelaw18_EvolveFresh : Tryd.prog.funcs[i_cartouchelaw18_EvolveFresh]? = some Tryd.f9 := Tryd.func9
abbrev i_evolve_Fresh : FuncId := 33
theorem F_evolve_Fresh : Tryd.prog.funcs[i_evolve_Fresh]? = some Tryd.f33 := Tryd.func33
abbrev i_evolve_Wider : FuncId := 34
theorem F_evolve_Wider : Tryd.prog.funcs[i_evolve_Wider]? = some Tryd.f34 := Tryd.func34
abbrev i_cartoucheref18_Wider : FuncId := 35
theorem F_cartoucheref18_Wider : Tryd.prog.funcs[i_cartoucheref18_Wider]? = some Tryd.f35 := Tryd.func35
abbrev i_cartoucheref18_Both : FuncId := 36
theorem F_cartoucheref18_Both : Tryd.prog.funcs[i_cartoucheref18_Both]? = some Tryd.f36 := Tryd.func36
abbrev i_cartoucheref18_Fresh : FuncId := 37
theorem F_cartoucheref18_Fresh : Tryd.prog.funcs[i_cartoucheref18_Fresh]? = some Tryd.f37 := Tryd.func37
abbrev i_cartoucheref18_fresh : FuncId := 61
theorem F_cartoucheref18_fresh : Tryd.prog.funcs[i_cartoucheref18_fresh]? = some Tryd.f61 := Tryd.func61

/-! cartouche/cartouchelaw18.EvolveFresh -/
def A_cartouchelaw18_EvolveFresh : AFn := ⟨(.seq (.region [⟨some 5, none, .boxI (.t 0)⟩,
      ⟨some 6, none, .boxI (.t 1)⟩,
      ⟨some 10, none, .mov (.c (.bool false))⟩])
    (.seq (.region [⟨some 19, none, .load 1 true (.t 5)⟩,
      ⟨some 20, none, .load 1 true (.t 6)⟩,
      ⟨some 21, none, .mov (.t 2)⟩,
      ⟨some 22, none, .call i_evolve_Fresh [.t 19, .t 20, .t 21]⟩,
      ⟨some 18, none, .mov (.t 22)⟩,
      ⟨some 23, none, .ext 0 (.t 18)⟩,
      ⟨some 24, none, .ext 1 (.t 18)⟩,
      ⟨some 11, none, .mov (.t 23)⟩,
      ⟨some 12, none, .mov (.t 24)⟩])
    (.seq (.seq (.region [⟨some 25, none, .call i_cartouchelaw18_awake []⟩,
      ⟨some 26, none, .un .not (.t 25)⟩,
      ⟨some 27, none, .mov (.t 26)⟩,
      ⟨some 28, some (27, false), .mov (.t 3)⟩,
      ⟨some 29, some (27, false), .mov (.t 4)⟩,
      ⟨some 30, some (27, false), .call i_evolve_Wider [.t 28, .t 29]⟩,
      ⟨some 31, some (27, false), .mov (.t 3)⟩,
      ⟨some 32, some (27, false), .mov (.t 4)⟩,
      ⟨some 33, some (27, false), .call i_cartoucheref18_Wider [.t 31, .t 32]⟩,
      ⟨some 34, some (27, false), .bin true .neq (.t 30) (.t 33)⟩,
      ⟨some 35, none, .pickb (.t 27) (.c (.bool true)) (.t 34)⟩])
    (.cond (.t 35) (.seq (.region [⟨some 10, none, .mov (.c (.bool false))⟩])
    .ret)
    .skip))
    (.seq (.seq (.region [⟨some 36, none, .load 1 true (.t 5)⟩,
      ⟨some 37, none, .call i_cartoucheref7_Good [.t 36]⟩,
      ⟨some 38, none, .un .not (.t 37)⟩,
      ⟨some 39, none, .mov (.t 38)⟩,
      ⟨some 40, some (39, false), .load 1 true (.t 6)⟩,
      ⟨some 41, some (39, false), .call i_cartoucheref7_Good [.t 40]⟩,
      ⟨some 42, some (39, false), .un .not (.t 41)⟩,
      ⟨some 43, none, .pickb (.t 39) (.c (.bool true)) (.t 42)⟩])
    (.cond (.t 43) (.seq (.region [⟨some 44, none, .mov (.t 12)⟩,
      ⟨some 45, none, .bin false .eql (.t 44) (.c (.int .i64 18))⟩,
      ⟨some 46, none, .mov (.t 45)⟩,
      ⟨some 47, some (46, true), .mov (.t 11)⟩,
      ⟨some 48, some (46, true), .len false (.t 47)⟩,
      ⟨some 49, some (46, true), .bin false .eql (.t 48) (.c (.int .i64 0))⟩,
      ⟨some 50, none, .pickb (.t 46) (.t 49) (.c (.bool false))⟩,
      ⟨some 10, none, .mov (.t 50)⟩])
    .ret)
    .skip))
    (.seq (.region [⟨some 52, none, .load 1 true (.t 5)⟩,
      ⟨some 53, none, .load 1 true (.t 6)⟩,
      ⟨some 54, none, .mov (.t 2)⟩,
      ⟨some 55, none, .call i_cartoucheref18_Both [.t 52, .t 53, .t 54]⟩,
      ⟨some 51, none, .mov (.t 55)⟩,
      ⟨some 56, none, .ext 0 (.t 51)⟩,
      ⟨some 57, none, .ext 1 (.t 51)⟩,
      ⟨some 58, none, .ext 2 (.t 51)⟩,
      ⟨some 13, none, .mov (.t 56)⟩,
      ⟨some 14, none, .mov (.t 57)⟩,
      ⟨some 15, none, .mov (.t 58)⟩])
    (.seq (.seq (.region [⟨some 59, none, .mov (.t 15)⟩,
      ⟨some 60, none, .un .not (.t 59)⟩])
    (.cond (.t 60) (.seq (.region [⟨some 61, none, .mov (.t 12)⟩,
      ⟨some 62, none, .bin false .eql (.t 61) (.c (.int .i64 20))⟩,
      ⟨some 63, none, .mov (.t 62)⟩,
      ⟨some 64, some (63, true), .mov (.t 11)⟩,
      ⟨some 65, some (63, true), .len false (.t 64)⟩,
      ⟨some 66, some (63, true), .bin false .eql (.t 65) (.c (.int .i64 0))⟩,
      ⟨some 67, none, .pickb (.t 63) (.t 66) (.c (.bool false))⟩,
      ⟨some 10, none, .mov (.t 67)⟩])
    .ret)
    .skip))
    (.seq (.region [⟨some 68, none, .load 1 true (.t 5)⟩,
      ⟨some 69, none, .load 1 true (.t 6)⟩,
      ⟨some 70, none, .mov (.t 13)⟩,
      ⟨some 71, none, .mov (.t 14)⟩,
      ⟨some 72, none, .call i_cartoucheref18_Fresh [.t 68, .t 69, .t 70, .t 71]⟩,
      ⟨some 16, none, .mov (.t 72)⟩])
    (.seq (.seq (.region [⟨some 73, none, .mov (.t 12)⟩,
      ⟨some 74, none, .bin false .neq (.t 73) (.c (.int .i64 0))⟩,
      ⟨some 75, none, .mov (.t 74)⟩,
      ⟨some 76, some (75, false), .mov (.t 11)⟩,
      ⟨some 77, some (75, false), .len false (.t 76)⟩,
      ⟨some 78, some (75, false), .mov (.t 16)⟩,
      ⟨some 79, some (75, false), .len false (.t 78)⟩,
      ⟨some 80, some (75, false), .bin false .neq (.t 77) (.t 79)⟩,
      ⟨some 81, none, .pickb (.t 75) (.c (.bool true)) (.t 80)⟩])
    (.cond (.t 81) (.seq (.region [⟨some 10, none, .mov (.c (.bool false))⟩])
    .ret)
    .skip))
    (.seq (.seq (.region [⟨some 17, none, .mov (.c (.int .i64 0))⟩])
    (.block 0 (.loop (.seq (.seq (.region [⟨some 82, none, .mov (.t 17)⟩,
      ⟨some 83, none, .mov (.t 11)⟩,
      ⟨some 84, none, .len false (.t 83)⟩,
      ⟨some 85, none, .bin false .lss (.t 82) (.t 84)⟩])
    (.cond (.t 85) .skip
    (.exit 0)))
    (.seq (.block 1 (.seq (.draw [1000002, 1000003, 1000006, 1000007] [⟨some 88, none, .mov (.t 11)⟩,
      ⟨some 89, none, .mov (.t 17)⟩,
      ⟨some 90, none, .idxA 1 (.t 88) (.t 89)⟩,
      ⟨some 91, none, .load 1 false (.t 90)⟩,
      ⟨some 92, none, .mov (.t 16)⟩,
      ⟨some 93, none, .mov (.t 17)⟩,
      ⟨some 94, none, .idxA 1 (.t 92) (.t 93)⟩,
      ⟨some 95, none, .load 1 false (.t 94)⟩,
      ⟨some 96, none, .bin false .neq (.t 91) (.t 95)⟩])
    (.cond (.t 96) (.seq (.region [⟨some 10, none, .mov (.c (.bool false))⟩])
    .ret)
    .skip)))
    (.region [⟨some 86, none, .mov (.t 17)⟩,
      ⟨some 87, none, .bin false .add (.t 86) (.c (.int .i64 1))⟩,
      ⟨some 17, none, .mov (.t 87)⟩]))))))
    (.seq (.region [⟨some 10, none, .mov (.c (.bool true))⟩])
    .ret)))))))))), [.tmp 10]⟩
theorem T_cartouchelaw18_EvolveFresh : trFn Tryd.prog [(1000015, [1000002, 1000003, 1000006, 1000007])] Tryd.f9 = some A_cartouchelaw18_EvolveFresh := by kernel_rfl
theorem L_cartouchelaw18_EvolveFresh : 5 ≤ Tryd.f9.ntmps := by decide

/-! cartouche/evolve.Fresh -/
def A_evolve_Fresh : AFn := ⟨(.seq (.region [⟨some 3, none, .boxI (.t 0)⟩,
      ⟨some 4, none, .boxI (.t 1)⟩,
      ⟨some 6, none, .mov (.c (.nil))⟩,
      ⟨some 7, none, .mov (.c (.int .i64 0))⟩])
    (.seq (.seq (.region [⟨some 17, none, .load 1 true (.t 3)⟩,
      ⟨some 18, none, .call i_table_Good [.t 17]⟩,
      ⟨some 19, none, .un .not (.t 18)⟩,
      ⟨some 20, none, .mov (.t 19)⟩,
      ⟨some 21, some (20, false), .load 1 true (.t 4)⟩,
      ⟨some 22, some (20, false), .call i_table_Good [.t 21]⟩,
      ⟨some 23, some (20, false), .un .not (.t 22)⟩,
      ⟨some 24, none, .pickb (.t 20) (.c (.bool true)) (.t 23)⟩])
    (.cond (.t 24) (.seq (.region [⟨some 6, none, .mov (.c (.nil))⟩,
      ⟨some 7, none, .mov (.c (.int .i64 18))⟩])
    .ret)
    .skip))
    (.seq (.region [⟨some 26, none, .load 1 true (.t 3)⟩,
      ⟨some 27, none, .mov (.t 2)⟩,
      ⟨some 28, none, .call i_table_Find [.t 26, .t 27]⟩,
      ⟨some 25, none, .mov (.t 28)⟩,
      ⟨some 29, none, .ext 0 (.t 25)⟩,
      ⟨some 30, none, .ext 1 (.t 25)⟩,
      ⟨some 8, none, .mov (.t 29)⟩,
      ⟨some 9, none, .mov (.t 30)⟩])
    (.seq (.region [⟨some 32, none, .load 1 true (.t 4)⟩,
      ⟨some 33, none, .mov (.t 2)⟩,
      ⟨some 34, none, .call i_table_Find [.t 32, .t 33]⟩,
      ⟨some 31, none, .mov (.t 34)⟩,
      ⟨some 35, none, .ext 0 (.t 31)⟩,
      ⟨some 36, none, .ext 1 (.t 31)⟩,
      ⟨some 10, none, .mov (.t 35)⟩,
      ⟨some 11, none, .mov (.t 36)⟩])
    (.seq (.seq (.region [⟨some 37, none, .mov (.t 9)⟩,
      ⟨some 38, none, .bin false .neq (.t 37) (.c (.int .i64 0))⟩,
      ⟨some 39, none, .mov (.t 38)⟩,
      ⟨some 40, some (39, false), .mov (.t 11)⟩,
      ⟨some 41, some (39, false), .bin false .neq (.t 40) (.c (.int .i64 0))⟩,
      ⟨some 42, none, .pickb (.t 39) (.c (.bool true)) (.t 41)⟩,
      ⟨some 43, none, .mov (.t 42)⟩,
      ⟨some 44, some (43, false), .fldA 0 1 false (.t 3)⟩,
      ⟨some 45, some (43, false), .load 1 false (.t 44)⟩,
      ⟨some 46, some (43, false), .mov (.t 8)⟩,
      ⟨some 47, some (43, false), .idxA 6 (.t 45) (.t 46)⟩,
      ⟨some 48, some (43, false), .fldA 1 1 false (.t 47)⟩,
      ⟨some 49, some (43, false), .load 1 false (.t 48)⟩,
      ⟨some 50, none, .pickb (.t 43) (.c (.bool true)) (.t 49)⟩,
      ⟨some 51, none, .mov (.t 50)⟩,
      ⟨some 52, some (51, false), .fldA 0 1 false (.t 4)⟩,
      ⟨some 53, some (51, false), .load 1 false (.t 52)⟩,
      ⟨some 54, some (51, false), .mov (.t 10)⟩,
      ⟨some 55, some (51, false), .idxA 6 (.t 53) (.t 54)⟩,
      ⟨some 56, some (51, false), .fldA 1 1 false (.t 55)⟩,
      ⟨some 57, some (51, false), .load 1 false (.t 56)⟩,
      ⟨some 58, none, .pickb (.t 51) (.c (.bool true)) (.t 57)⟩])
    (.cond (.t 58) (.seq (.region [⟨some 6, none, .mov (.c (.nil))⟩,
      ⟨some 7, none, .mov (.c (.int .i64 20))⟩])
    .ret)
    .skip))
    (.seq (.region [⟨some 12, none, .mov (.c (.nil))⟩])
    (.seq (.seq (.region [⟨some 59, none, .fldA 0 1 false (.t 4)⟩,
      ⟨some 60, none, .load 1 false (.t 59)⟩,
      ⟨some 61, none, .mov (.t 10)⟩,
      ⟨some 62, none, .idxA 6 (.t 60) (.t 61)⟩,
      ⟨some 63, none, .fldA 2 1 false (.t 62)⟩,
      ⟨some 64, none, .load 1 false (.t 63)⟩,
      ⟨some 65, none, .len false (.t 64)⟩,
      ⟨some 66, none, .mov (.c (.int .i64 0))⟩])
    (.block 0 (.loop (.seq (.region [⟨some 67, none, .bin false .lss (.t 66) (.t 65)⟩])
    (.seq (.cond (.t 67) .skip
    (.exit 0))
    (.seq (.block 1 (.seq (.region [⟨some 68, none, .idxA 7 (.t 64) (.t 66)⟩,
      ⟨some 69, none, .load 7 true (.t 68)⟩,
      ⟨some 14, none, .alloc 0 [.str ⟨#[]⟩, .int .i64 0, .int .i64 0, .int .i64 0, .int .i64 0, .int .i64 0, .int .i64 0]⟩,
      ⟨none, none, .store 7 (.t 14) (.t 69)⟩])
    (.seq (.draw [11, 12, 1000001, 1000003, 1000004, 1000006, 2000012, 4000000, 4000002, 4000003] [⟨some 71, none, .fldA 0 1 false (.t 3)⟩,
      ⟨some 72, none, .load 1 false (.t 71)⟩,
      ⟨some 73, none, .mov (.t 8)⟩,
      ⟨some 74, none, .idxA 6 (.t 72) (.t 73)⟩,
      ⟨some 75, none, .load 6 true (.t 74)⟩,
      ⟨some 76, none, .fldA 1 1 false (.t 14)⟩,
      ⟨some 77, none, .load 1 false (.t 76)⟩,
      ⟨some 78, none, .call i_table_At [.t 75, .t 77]⟩,
      ⟨some 70, none, .mov (.t 78)⟩,
      ⟨some 79, none, .ext 0 (.t 70)⟩,
      ⟨some 80, none, .ext 1 (.t 70)⟩,
      ⟨some 15, none, .alloc 1 [.str ⟨#[]⟩, .int .i64 0, .int .i64 0, .int .i64 0, .int .i64 0, .int .i64 0, .int .i64 0]⟩,
      ⟨none, none, .store 7 (.t 15) (.t 79)⟩,
      ⟨some 16, none, .mov (.t 80)⟩])
    (.seq (.region [⟨some 81, none, .mov (.t 16)⟩,
      ⟨some 82, none, .un .not (.t 81)⟩])
    (.cond (.t 82) (.region [⟨some 83, none, .mov (.t 12)⟩,
      ⟨some 84, none, .fldA 1 1 false (.t 14)⟩,
      ⟨some 85, none, .load 1 false (.t 84)⟩,
      ⟨some 86, none, .bslice 1 [.t 85]⟩,
      ⟨some 87, none, .app 2 3 1 8 (.t 83) (.t 86)⟩,
      ⟨some 12, none, .mov (.t 87)⟩])
    .skip)))))
    (.region [⟨some 88, none, .bin false .add (.t 66) (.c (.int .i64 1))⟩,
      ⟨some 66, none, .mov (.t 88)⟩])))))))
    (.seq (.region [⟨some 89, none, .mov (.t 12)⟩,
      ⟨some 90, none, .len false (.t 89)⟩,
      ⟨some 91, none, .mks 3 3 1 8 (.int .i64 0) (.c (.int .i64 0)) (.t 90)⟩,
      ⟨some 92, none, .mov (.t 12)⟩,
      ⟨some 93, none, .app 3 3 1 8 (.t 91) (.t 92)⟩,
      ⟨some 6, none, .mov (.t 93)⟩,
      ⟨some 7, none, .mov (.c (.int .i64 0))⟩])
    .ret)))))))), [.tmp 6, .tmp 7]⟩
theorem T_evolve_Fresh : trFn Tryd.prog [(10, [0, 0, 1, 0]), (11, [0, 0, 0, 0, 0, 0, 0, 0, 0, 0, 0, 2, 0, 0]), (13, [0, 0, 0, 0, 2, 0]), (15, [0, 0, 3, 0, 3, 0, 0]), (1000011, [11, 12, 1000001, 1000003, 1000004, 1000006, 2000012, 4000000, 4000002, 4000003])] Tryd.f33 = some A_evolve_Fresh := by kernel_rfl
theorem L_evolve_Fresh : 3 ≤ Tryd.f33.ntmps := by decide

/-! cartouche/evolve.Wider -/
def A_evolve_Wider : AFn := ⟨(.seq (.region [⟨some 4, none, .mov (.c (.bool false))⟩])
    (.seq (.seq (.region [⟨some 5, none, .mov (.t 0)⟩])
    (.block 0 (.seq (.region [⟨some 7, none, .bin false .eql (.t 5) (.c (.int .i64 2))⟩,
      ⟨some 6, none, .mov (.t 7)⟩])
    (.cond (.t 6) (.seq (.region [⟨some 8, none, .mov (.t 1)⟩,
      ⟨some 9, none, .bin false .eql (.t 8) (.c (.int .i64 3))⟩,
      ⟨some 4, none, .mov (.t 9)⟩])
    .ret)
    (.seq (.region [⟨some 11, none, .bin false .eql (.t 5) (.c (.int .i64 4))⟩,
      ⟨some 10, none, .mov (.t 11)⟩])
    (.cond (.t 10) (.seq (.region [⟨some 12, none, .mov (.t 1)⟩,
      ⟨some 13, none, .bin false .eql (.t 12) (.c (.int .i64 5))⟩,
      ⟨some 4, none, .mov (.t 13)⟩])
    .ret)
    (.seq (.region [⟨some 15, none, .bin false .eql (.t 5) (.c (.int .i64 6))⟩,
      ⟨some 14, none, .mov (.t 15)⟩])
    (.cond (.t 14) (.seq (.region [⟨some 16, none, .mov (.t 1)⟩,
      ⟨some 17, none, .bin false .eql (.t 16) (.c (.int .i64 7))⟩,
      ⟨some 4, none, .mov (.t 17)⟩])
    .ret)
    (.seq (.region [⟨some 19, none, .bin false .eql (.t 5) (.c (.int .i64 1))⟩,
      ⟨some 18, none, .mov (.t 19)⟩])
    (.cond (.t 18) (.seq (.region [⟨some 20, none, .mov (.t 1)⟩,
      ⟨some 21, none, .bin false .eql (.t 20) (.c (.int .i64 2))⟩,
      ⟨some 22, none, .mov (.t 21)⟩,
      ⟨some 23, some (22, false), .mov (.t 1)⟩,
      ⟨some 24, some (22, false), .bin false .eql (.t 23) (.c (.int .i64 3))⟩,
      ⟨some 25, none, .pickb (.t 22) (.c (.bool true)) (.t 24)⟩,
      ⟨some 26, none, .mov (.t 25)⟩,
      ⟨some 27, some (26, false), .mov (.t 1)⟩,
      ⟨some 28, some (26, false), .bin false .eql (.t 27) (.c (.int .i64 4))⟩,
      ⟨some 29, none, .pickb (.t 26) (.c (.bool true)) (.t 28)⟩,
      ⟨some 30, none, .mov (.t 29)⟩,
      ⟨some 31, some (30, false), .mov (.t 1)⟩,
      ⟨some 32, some (30, false), .bin false .eql (.t 31) (.c (.int .i64 5))⟩,
      ⟨some 33, none, .pickb (.t 30) (.c (.bool true)) (.t 32)⟩,
      ⟨some 4, none, .mov (.t 33)⟩])
    .ret)
    (.seq (.region [⟨some 35, none, .bin false .eql (.t 5) (.c (.int .i64 16))⟩,
      ⟨some 34, none, .mov (.t 35)⟩])
    (.cond (.t 34) (.seq (.region [⟨some 36, none, .mov (.t 1)⟩,
      ⟨some 37, none, .bin false .eql (.t 36) (.c (.int .i64 2))⟩,
      ⟨some 38, none, .mov (.t 37)⟩,
      ⟨some 39, some (38, false), .mov (.t 1)⟩,
      ⟨some 40, some (38, false), .bin false .eql (.t 39) (.c (.int .i64 3))⟩,
      ⟨some 41, none, .pickb (.t 38) (.c (.bool true)) (.t 40)⟩,
      ⟨some 4, none, .mov (.t 41)⟩])
    .ret)
    (.seq (.region [⟨some 43, none, .bin false .eql (.t 5) (.c (.int .i64 14))⟩,
      ⟨some 42, none, .mov (.t 43)⟩])
    (.cond (.t 42) (.seq (.region [⟨some 44, none, .mov (.t 1)⟩,
      ⟨some 45, none, .bin false .eql (.t 44) (.c (.int .i64 15))⟩,
      ⟨some 4, none, .mov (.t 45)⟩])
    .ret)
    .skip))))))))))))))
    (.seq (.region [⟨some 4, none, .mov (.c (.bool false))⟩])
    .ret))), [.tmp 4]⟩
theorem T_evolve_Wider : trFn Tryd.prog [] Tryd.f34 = some A_evolve_Wider := by kernel_rfl
theorem L_evolve_Wider : 2 ≤ Tryd.f34.ntmps := by decide

/-! cartouche/cartoucheref18.Wider -/
def A_cartoucheref18_Wider : AFn := ⟨(.seq (.region [⟨some 4, none, .mov (.c (.bool false))⟩])
    (.seq (.seq (.region [⟨some 5, none, .mov (.t 0)⟩])
    (.block 0 (.seq (.region [⟨some 7, none, .bin false .eql (.t 5) (.c (.int .i64 1))⟩,
      ⟨some 6, none, .mov (.t 7)⟩])
    (.cond (.t 6) (.seq (.region [⟨some 8, none, .mov (.t 1)⟩,
      ⟨some 9, none, .bin false .eql (.t 8) (.c (.int .i64 2))⟩,
      ⟨some 10, none, .mov (.t 9)⟩,
      ⟨some 11, some (10, false), .mov (.t 1)⟩,
      ⟨some 12, some (10, false), .bin false .eql (.t 11) (.c (.int .i64 3))⟩,
      ⟨some 13, none, .pickb (.t 10) (.c (.bool true)) (.t 12)⟩,
      ⟨some 14, none, .mov (.t 13)⟩,
      ⟨some 15, some (14, false), .mov (.t 1)⟩,
      ⟨some 16, some (14, false), .bin false .eql (.t 15) (.c (.int .i64 4))⟩,
      ⟨some 17, none, .pickb (.t 14) (.c (.bool true)) (.t 16)⟩,
      ⟨some 18, none, .mov (.t 17)⟩,
      ⟨some 19, some (18, false), .mov (.t 1)⟩,
      ⟨some 20, some (18, false), .bin false .eql (.t 19) (.c (.int .i64 5))⟩,
      ⟨some 21, none, .pickb (.t 18) (.c (.bool true)) (.t 20)⟩,
      ⟨some 4, none, .mov (.t 21)⟩])
    .ret)
    (.seq (.region [⟨some 23, none, .bin false .eql (.t 5) (.c (.int .i64 2))⟩,
      ⟨some 22, none, .mov (.t 23)⟩])
    (.cond (.t 22) (.seq (.region [⟨some 24, none, .mov (.t 1)⟩,
      ⟨some 25, none, .bin false .eql (.t 24) (.c (.int .i64 3))⟩,
      ⟨some 4, none, .mov (.t 25)⟩])
    .ret)
    (.seq (.region [⟨some 27, none, .bin false .eql (.t 5) (.c (.int .i64 4))⟩,
      ⟨some 26, none, .mov (.t 27)⟩])
    (.cond (.t 26) (.seq (.region [⟨some 28, none, .mov (.t 1)⟩,
      ⟨some 29, none, .bin false .eql (.t 28) (.c (.int .i64 5))⟩,
      ⟨some 4, none, .mov (.t 29)⟩])
    .ret)
    (.seq (.region [⟨some 31, none, .bin false .eql (.t 5) (.c (.int .i64 6))⟩,
      ⟨some 30, none, .mov (.t 31)⟩])
    (.cond (.t 30) (.seq (.region [⟨some 32, none, .mov (.t 1)⟩,
      ⟨some 33, none, .bin false .eql (.t 32) (.c (.int .i64 7))⟩,
      ⟨some 4, none, .mov (.t 33)⟩])
    .ret)
    (.seq (.region [⟨some 35, none, .bin false .eql (.t 5) (.c (.int .i64 14))⟩,
      ⟨some 34, none, .mov (.t 35)⟩])
    (.cond (.t 34) (.seq (.region [⟨some 36, none, .mov (.t 1)⟩,
      ⟨some 37, none, .bin false .eql (.t 36) (.c (.int .i64 15))⟩,
      ⟨some 4, none, .mov (.t 37)⟩])
    .ret)
    (.seq (.region [⟨some 39, none, .bin false .eql (.t 5) (.c (.int .i64 16))⟩,
      ⟨some 38, none, .mov (.t 39)⟩])
    (.cond (.t 38) (.seq (.region [⟨some 40, none, .mov (.t 1)⟩,
      ⟨some 41, none, .bin false .eql (.t 40) (.c (.int .i64 2))⟩,
      ⟨some 42, none, .mov (.t 41)⟩,
      ⟨some 43, some (42, false), .mov (.t 1)⟩,
      ⟨some 44, some (42, false), .bin false .eql (.t 43) (.c (.int .i64 3))⟩,
      ⟨some 45, none, .pickb (.t 42) (.c (.bool true)) (.t 44)⟩,
      ⟨some 4, none, .mov (.t 45)⟩])
    .ret)
    .skip))))))))))))))
    (.seq (.region [⟨some 4, none, .mov (.c (.bool false))⟩])
    .ret))), [.tmp 4]⟩
theorem T_cartoucheref18_Wider : trFn Tryd.prog [] Tryd.f35 = some A_cartoucheref18_Wider := by kernel_rfl
theorem L_cartoucheref18_Wider : 2 ≤ Tryd.f35.ntmps := by decide

/-! cartouche/cartoucheref18.Both -/
def A_cartoucheref18_Both : AFn := ⟨(.seq (.region [⟨some 3, none, .boxI (.t 0)⟩,
      ⟨some 4, none, .boxI (.t 1)⟩,
      ⟨some 6, none, .mov (.c (.int .i64 0))⟩,
      ⟨some 7, none, .mov (.c (.int .i64 0))⟩,
      ⟨some 8, none, .mov (.c (.bool false))⟩])
    (.seq (.region [⟨some 11, none, .load 1 true (.t 3)⟩,
      ⟨some 12, none, .mov (.t 2)⟩,
      ⟨some 13, none, .call i_cartoucheref7_Find [.t 11, .t 12]⟩,
      ⟨some 9, none, .mov (.t 13)⟩])
    (.seq (.region [⟨some 14, none, .load 1 true (.t 4)⟩,
      ⟨some 15, none, .mov (.t 2)⟩,
      ⟨some 16, none, .call i_cartoucheref7_Find [.t 14, .t 15]⟩,
      ⟨some 10, none, .mov (.t 16)⟩])
    (.seq (.seq (.region [⟨some 17, none, .mov (.t 9)⟩,
      ⟨some 18, none, .bin false .lss (.t 17) (.c (.int .i64 0))⟩,
      ⟨some 19, none, .mov (.t 18)⟩,
      ⟨some 20, some (19, false), .mov (.t 10)⟩,
      ⟨some 21, some (19, false), .bin false .lss (.t 20) (.c (.int .i64 0))⟩,
      ⟨some 22, none, .pickb (.t 19) (.c (.bool true)) (.t 21)⟩,
      ⟨some 23, none, .mov (.t 22)⟩,
      ⟨some 24, some (23, false), .fldA 0 1 false (.t 3)⟩,
      ⟨some 25, some (23, false), .load 1 false (.t 24)⟩,
      ⟨some 26, some (23, false), .mov (.t 9)⟩,
      ⟨some 27, some (23, false), .idxA 6 (.t 25) (.t 26)⟩,
      ⟨some 28, some (23, false), .fldA 1 1 false (.t 27)⟩,
      ⟨some 29, some (23, false), .load 1 false (.t 28)⟩,
      ⟨some 30, none, .pickb (.t 23) (.c (.bool true)) (.t 29)⟩,
      ⟨some 31, none, .mov (.t 30)⟩,
      ⟨some 32, some (31, false), .fldA 0 1 false (.t 4)⟩,
      ⟨some 33, some (31, false), .load 1 false (.t 32)⟩,
      ⟨some 34, some (31, false), .mov (.t 10)⟩,
      ⟨some 35, some (31, false), .idxA 6 (.t 33) (.t 34)⟩,
      ⟨some 36, some (31, false), .fldA 1 1 false (.t 35)⟩,
      ⟨some 37, some (31, false), .load 1 false (.t 36)⟩,
      ⟨some 38, none, .pickb (.t 31) (.c (.bool true)) (.t 37)⟩])
    (.cond (.t 38) (.seq (.region [⟨some 6, none, .mov (.c (.int .i64 0))⟩,
      ⟨some 7, none, .mov (.c (.int .i64 0))⟩,
      ⟨some 8, none, .mov (.c (.bool false))⟩])
    .ret)
    .skip))
    (.seq (.region [⟨some 39, none, .mov (.t 9)⟩,
      ⟨some 40, none, .mov (.t 10)⟩,
      ⟨some 6, none, .mov (.t 39)⟩,
      ⟨some 7, none, .mov (.t 40)⟩,
      ⟨some 8, none, .mov (.c (.bool true))⟩])
    .ret))))), [.tmp 6, .tmp 7, .tmp 8]⟩
theorem T_cartoucheref18_Both : trFn Tryd.prog [] Tryd.f36 = some A_cartoucheref18_Both := by kernel_rfl
theorem L_cartoucheref18_Both : 3 ≤ Tryd.f36.ntmps := by decide

/-! cartouche/cartoucheref18.Fresh -/
def A_cartoucheref18_Fresh : AFn := ⟨(.seq (.region [⟨some 4, none, .boxI (.t 0)⟩,
      ⟨some 5, none, .boxI (.t 1)⟩,
      ⟨some 8, none, .mov (.c (.nil))⟩])
    (.seq (.draw [1000001, 1000003, 1000004, 1000006, 1000008, 1000009] [⟨some 9, none, .fldA 0 1 false (.t 4)⟩,
      ⟨some 10, none, .load 1 false (.t 9)⟩,
      ⟨some 11, none, .mov (.t 2)⟩,
      ⟨some 12, none, .idxA 6 (.t 10) (.t 11)⟩,
      ⟨some 13, none, .load 6 true (.t 12)⟩,
      ⟨some 14, none, .fldA 0 1 false (.t 5)⟩,
      ⟨some 15, none, .load 1 false (.t 14)⟩,
      ⟨some 16, none, .mov (.t 3)⟩,
      ⟨some 17, none, .idxA 6 (.t 15) (.t 16)⟩,
      ⟨some 18, none, .load 6 true (.t 17)⟩,
      ⟨some 19, none, .call i_cartoucheref18_fresh [.t 13, .t 18]⟩,
      ⟨some 8, none, .mov (.t 19)⟩])
    .ret)), [.tmp 8]⟩
theorem T_cartoucheref18_Fresh : trFn Tryd.prog [(1000001, [1000001, 1000003, 1000004, 1000006, 1000008, 1000009])] Tryd.f37 = some A_cartoucheref18_Fresh := by kernel_rfl
theorem L_cartoucheref18_Fresh : 4 ≤ Tryd.f37.ntmps := by decide

/-! cartouche/cartoucheref18.fresh -/
def A_cartoucheref18_fresh : AFn := ⟨(.seq (.region [⟨some 2, none, .boxI (.t 0)⟩,
      ⟨some 3, none, .boxI (.t 1)⟩,
      ⟨some 4, none, .mov (.c (.nil))⟩])
    (.seq (.region [⟨some 5, none, .mov (.c (.nil))⟩])
    (.seq (.seq (.region [⟨some 6, none, .mov (.c (.int .i64 0))⟩])
    (.block 0 (.loop (.seq (.seq (.region [⟨some 9, none, .mov (.t 6)⟩,
      ⟨some 10, none, .fldA 2 1 false (.t 3)⟩,
      ⟨some 11, none, .load 1 false (.t 10)⟩,
      ⟨some 12, none, .len false (.t 11)⟩,
      ⟨some 13, none, .bin false .lss (.t 9) (.t 12)⟩])
    (.cond (.t 13) .skip
    (.exit 0)))
    (.seq (.block 1 (.seq (.region [⟨some 7, none, .mov (.c (.bool false))⟩])
    (.seq (.seq (.region [⟨some 8, none, .mov (.c (.int .i64 0))⟩])
    (.block 2 (.loop (.seq (.seq (.region [⟨some 16, none, .mov (.t 8)⟩,
      ⟨some 17, none, .fldA 2 1 false (.t 2)⟩,
      ⟨some 18, none, .load 1 false (.t 17)⟩,
      ⟨some 19, none, .len false (.t 18)⟩,
      ⟨some 20, none, .bin false .lss (.t 16) (.t 19)⟩])
    (.cond (.t 20) .skip
    (.exit 2)))
    (.seq (.block 3 (.draw [1000003, 1000005, 1000007, 1000009, 1000011, 1000013, 4000000] [⟨some 23, none, .mov (.t 7)⟩,
      ⟨some 24, none, .mov (.t 23)⟩,
      ⟨some 25, some (24, false), .fldA 2 1 false (.t 2)⟩,
      ⟨some 26, some (24, false), .load 1 false (.t 25)⟩,
      ⟨some 27, some (24, false), .mov (.t 8)⟩,
      ⟨some 28, some (24, false), .idxA 7 (.t 26) (.t 27)⟩,
      ⟨some 29, some (24, false), .fldA 1 1 false (.t 28)⟩,
      ⟨some 30, some (24, false), .load 1 false (.t 29)⟩,
      ⟨some 31, some (24, false), .fldA 2 1 false (.t 3)⟩,
      ⟨some 32, some (24, false), .load 1 false (.t 31)⟩,
      ⟨some 33, some (24, false), .mov (.t 6)⟩,
      ⟨some 34, some (24, false), .idxA 7 (.t 32) (.t 33)⟩,
      ⟨some 35, some (24, false), .fldA 1 1 false (.t 34)⟩,
      ⟨some 36, some (24, false), .load 1 false (.t 35)⟩,
      ⟨some 37, some (24, false), .bin false .eql (.t 30) (.t 36)⟩,
      ⟨some 38, none, .pickb (.t 24) (.c (.bool true)) (.t 37)⟩,
      ⟨some 7, none, .mov (.t 38)⟩]))
    (.region [⟨some 21, none, .mov (.t 8)⟩,
      ⟨some 22, none, .bin false .add (.t 21) (.c (.int .i64 1))⟩,
      ⟨some 8, none, .mov (.t 22)⟩]))))))
    (.seq (.region [⟨some 39, none, .mov (.t 7)⟩,
      ⟨some 40, none, .un .not (.t 39)⟩])
    (.cond (.t 40) (.region [⟨some 41, none, .mov (.t 5)⟩,
      ⟨some 42, none, .fldA 2 1 false (.t 3)⟩,
      ⟨some 43, none, .load 1 false (.t 42)⟩,
      ⟨some 44, none, .mov (.t 6)⟩,
      ⟨some 45, none, .idxA 7 (.t 43) (.t 44)⟩,
      ⟨some 46, none, .fldA 1 1 false (.t 45)⟩,
      ⟨some 47, none, .load 1 false (.t 46)⟩,
      ⟨some 48, none, .bslice 1 [.t 47]⟩,
      ⟨some 49, none, .app 0 3 1 8 (.t 41) (.t 48)⟩,
      ⟨some 5, none, .mov (.t 49)⟩])
    .skip)))))
    (.region [⟨some 14, none, .mov (.t 6)⟩,
      ⟨some 15, none, .bin false .add (.t 14) (.c (.int .i64 1))⟩,
      ⟨some 6, none, .mov (.t 15)⟩]))))))
    (.seq (.region [⟨some 50, none, .mov (.t 5)⟩,
      ⟨some 4, none, .mov (.t 50)⟩])
    .ret)))), [.tmp 4]⟩
theorem T_cartoucheref18_fresh : trFn Tryd.prog [(1000009, [1000003, 1000005, 1000007, 1000009, 1000011, 1000013, 4000000])] Tryd.f61 = some A_cartoucheref18_fresh := by kernel_rfl
theorem L_cartoucheref18_fresh : 2 ≤ Tryd.f61.ntmps := by decide

end Go.Proofs.YtmdkcapbahjipaaDoor.Ag
